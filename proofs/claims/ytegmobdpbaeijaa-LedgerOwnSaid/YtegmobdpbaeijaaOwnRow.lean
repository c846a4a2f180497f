/- usancelaw21.LedgerOwn is true for every list of acts, whatever memory it is called in. -/
import Derived.Test.YtegmobdpbaeijaaRows
import Derived.Test.YtegmobdpbaeijaaLedV
import Derived.Deep.Slices
import Derived.ProofKit
import Derived.OpenShut
import Derived.ShutString
import Derived.ChangeOld
import Derived.SizedLaws
namespace Go.Proofs.Ytegmobdpbaeijaa.ownRow
open Go.ChangeShapes Go.WideShapes Go.ChangeAt Go.RowKit Go.Deep
open Go.ChangeMaps (open_string shut_string)

theorem own : ownKnob Try.prog.godebug = none := by kernel_rfl
theorem laidOut : laidOutB Try.prog = true := by kernel_rfl

section
variable {H : Type} {enc : TypeId × Value → H} {w : World} {base : Nat} {spare : Nat → Bool} {held : Bool}

theorem c1 : Try.prog.cellsOf 3 = 1 := by kernel_rfl
theorem c2 : Try.prog.cellsOf 2 = 1 := by kernel_rfl
theorem c3 : Try.prog.cellsOf 9 = 1 := by kernel_rfl
theorem cS : Try.prog.cellsOf 29 = 12 := by kernel_rfl
theorem cA : Try.prog.cellsOf 31 = 28 := by kernel_rfl

theorem int_at {fuel : Nat} {t : TypeId} {k : IntKind} {l : List Value} {i : Nat} {xs : List (DataW H × List MemPlace)} {v : Value} (hl : l = [v]) (hx : i < xs.length) (ht : Try.prog.underlying t = some (.int k)) (h : DataW.trod enc Try.prog w base spare held fuel t l = xs[i]?) : ∃ n, v = .int k n := by
  rw [List.getElem?_eq_getElem hx] at h
  obtain ⟨n, hn, _⟩ := DataW.trod_int ht h
  rw [hl] at hn
  exact ⟨n, by simpa using hn⟩

theorem open_state {fuel : Nat} {cs : List Value} {x : DataW H × List MemPlace} (h : DataW.trod enc Try.prog w base spare held fuel 29 cs = some x) : ∃ s : St, cs = [.int .i64 s.day, .int .i64 s.rate, .int .i64 s.prin, .int .i64 s.intr, .int .i64 s.fees, .int .i64 s.cred, .int .i64 s.out, .int .i64 s.inn, .int .i64 s.accr, .int .i64 s.chrg, .int .i64 s.late, .int .i64 s.buck] := by
  obtain ⟨xs, n, _, _, hlen, hxl, hf⟩ := DataW.trod_struct Try.underlying29 h
  rw [cS] at hlen
  match cs, hlen with
  | [v0, v1, v2, v3, v4, v5, v6, v7, v8, v9, v10, v11], _ =>
    have hx : xs.length = 12 := hxl
    have q0 : DataW.trod enc Try.prog w base spare held n 3 ((([v0, v1, v2, v3, v4, v5, v6, v7, v8, v9, v10, v11] : List Value).drop 0).take (Try.prog.cellsOf 3)) = xs[0]? := hf 0 _ rfl
    have q1 : DataW.trod enc Try.prog w base spare held n 2 ((([v0, v1, v2, v3, v4, v5, v6, v7, v8, v9, v10, v11] : List Value).drop 1).take (Try.prog.cellsOf 2)) = xs[1]? := hf 1 _ rfl
    have q2 : DataW.trod enc Try.prog w base spare held n 2 ((([v0, v1, v2, v3, v4, v5, v6, v7, v8, v9, v10, v11] : List Value).drop 2).take (Try.prog.cellsOf 2)) = xs[2]? := hf 2 _ rfl
    have q3 : DataW.trod enc Try.prog w base spare held n 2 ((([v0, v1, v2, v3, v4, v5, v6, v7, v8, v9, v10, v11] : List Value).drop 3).take (Try.prog.cellsOf 2)) = xs[3]? := hf 3 _ rfl
    have q4 : DataW.trod enc Try.prog w base spare held n 2 ((([v0, v1, v2, v3, v4, v5, v6, v7, v8, v9, v10, v11] : List Value).drop 4).take (Try.prog.cellsOf 2)) = xs[4]? := hf 4 _ rfl
    have q5 : DataW.trod enc Try.prog w base spare held n 2 ((([v0, v1, v2, v3, v4, v5, v6, v7, v8, v9, v10, v11] : List Value).drop 5).take (Try.prog.cellsOf 2)) = xs[5]? := hf 5 _ rfl
    have q6 : DataW.trod enc Try.prog w base spare held n 2 ((([v0, v1, v2, v3, v4, v5, v6, v7, v8, v9, v10, v11] : List Value).drop 6).take (Try.prog.cellsOf 2)) = xs[6]? := hf 6 _ rfl
    have q7 : DataW.trod enc Try.prog w base spare held n 2 ((([v0, v1, v2, v3, v4, v5, v6, v7, v8, v9, v10, v11] : List Value).drop 7).take (Try.prog.cellsOf 2)) = xs[7]? := hf 7 _ rfl
    have q8 : DataW.trod enc Try.prog w base spare held n 2 ((([v0, v1, v2, v3, v4, v5, v6, v7, v8, v9, v10, v11] : List Value).drop 8).take (Try.prog.cellsOf 2)) = xs[8]? := hf 8 _ rfl
    have q9 : DataW.trod enc Try.prog w base spare held n 2 ((([v0, v1, v2, v3, v4, v5, v6, v7, v8, v9, v10, v11] : List Value).drop 9).take (Try.prog.cellsOf 2)) = xs[9]? := hf 9 _ rfl
    have q10 : DataW.trod enc Try.prog w base spare held n 3 ((([v0, v1, v2, v3, v4, v5, v6, v7, v8, v9, v10, v11] : List Value).drop 10).take (Try.prog.cellsOf 3)) = xs[10]? := hf 10 _ rfl
    have q11 : DataW.trod enc Try.prog w base spare held n 3 ((([v0, v1, v2, v3, v4, v5, v6, v7, v8, v9, v10, v11] : List Value).drop 11).take (Try.prog.cellsOf 3)) = xs[11]? := hf 11 _ rfl
    obtain ⟨n0, rfl⟩ := int_at (v := v0) (by rw [c1]; rfl) (by omega) Try.underlying3 q0
    obtain ⟨n1, rfl⟩ := int_at (v := v1) (by rw [c2]; rfl) (by omega) Try.underlying2 q1
    obtain ⟨n2, rfl⟩ := int_at (v := v2) (by rw [c2]; rfl) (by omega) Try.underlying2 q2
    obtain ⟨n3, rfl⟩ := int_at (v := v3) (by rw [c2]; rfl) (by omega) Try.underlying2 q3
    obtain ⟨n4, rfl⟩ := int_at (v := v4) (by rw [c2]; rfl) (by omega) Try.underlying2 q4
    obtain ⟨n5, rfl⟩ := int_at (v := v5) (by rw [c2]; rfl) (by omega) Try.underlying2 q5
    obtain ⟨n6, rfl⟩ := int_at (v := v6) (by rw [c2]; rfl) (by omega) Try.underlying2 q6
    obtain ⟨n7, rfl⟩ := int_at (v := v7) (by rw [c2]; rfl) (by omega) Try.underlying2 q7
    obtain ⟨n8, rfl⟩ := int_at (v := v8) (by rw [c2]; rfl) (by omega) Try.underlying2 q8
    obtain ⟨n9, rfl⟩ := int_at (v := v9) (by rw [c2]; rfl) (by omega) Try.underlying2 q9
    obtain ⟨n10, rfl⟩ := int_at (v := v10) (by rw [c1]; rfl) (by omega) Try.underlying3 q10
    obtain ⟨n11, rfl⟩ := int_at (v := v11) (by rw [c1]; rfl) (by omega) Try.underlying3 q11
    exact ⟨⟨n0, n1, n2, n3, n4, n5, n6, n7, n8, n9, n10, n11⟩, rfl⟩

theorem open_act {fuel : Nat} {cs : List Value} {x : DataW H × List MemPlace} (h : DataW.trod enc Try.prog w base spare held fuel 31 cs = some x) : ∃ a : Ac, cs = a.enc ∧ a.loan.size ≤ 9223372036854775807 := by
  obtain ⟨xs, n, _, _, hlen, hxl, hf⟩ := DataW.trod_struct Try.underlying31 h
  rw [cA] at hlen
  have hx : xs.length = 6 := hxl
  have q0 : DataW.trod enc Try.prog w base spare held n 3 ((cs.drop 0).take (Try.prog.cellsOf 3)) = xs[0]? := hf 0 _ rfl
  have q1 : DataW.trod enc Try.prog w base spare held n 3 ((cs.drop 1).take (Try.prog.cellsOf 3)) = xs[1]? := hf 1 _ rfl
  have q2 : DataW.trod enc Try.prog w base spare held n 3 ((cs.drop 2).take (Try.prog.cellsOf 3)) = xs[2]? := hf 2 _ rfl
  have q3 : DataW.trod enc Try.prog w base spare held n 9 ((cs.drop 3).take (Try.prog.cellsOf 9)) = xs[3]? := hf 3 _ rfl
  have q4 : DataW.trod enc Try.prog w base spare held n 29 ((cs.drop 4).take (Try.prog.cellsOf 29)) = xs[4]? := hf 4 _ rfl
  have q5 : DataW.trod enc Try.prog w base spare held n 29 ((cs.drop 16).take (Try.prog.cellsOf 29)) = xs[5]? := hf 5 _ rfl
  rw [List.getElem?_eq_getElem (by omega)] at q0 q1 q2 q3 q4 q5
  obtain ⟨sf, hsf⟩ := open_state q4
  obtain ⟨st, hst⟩ := open_state q5
  obtain ⟨s, hs, _, hsz⟩ := DataW.trod_string Try.underlying9 q3
  obtain ⟨n0, e0, _⟩ := DataW.trod_int Try.underlying3 q0
  obtain ⟨n1, e1, _⟩ := DataW.trod_int Try.underlying3 q1
  obtain ⟨n2, e2, _⟩ := DataW.trod_int Try.underlying3 q2
  rw [cS] at hsf hst
  rw [c3] at hs
  rw [c1] at e0 e1 e2
  refine ⟨⟨n0, n1, n2, s, sf, st⟩, ?_, by simpa [maxLen] using hsz⟩
  have e : cs = (cs.drop 0).take 1 ++ ((cs.drop 1).take 1 ++ ((cs.drop 2).take 1 ++ ((cs.drop 3).take 1 ++ ((cs.drop 4).take 12 ++ (cs.drop 16).take 12)))) := by
    have hd : ∀ k m, (cs.drop k).take m ++ cs.drop (k + m) = cs.drop k := fun k m => by
      rw [← List.drop_drop]
      exact List.take_append_drop m (cs.drop k)
    have h16 : (cs.drop 16).take 12 = cs.drop 16 := List.take_of_length_le (by simp; omega)
    rw [h16, hd 4 12, hd 3 1, hd 2 1, hd 1 1, hd 0 1, List.drop_zero]
  rw [e, e0, e1, e2, hs, hsf, hst]
  rfl

theorem open_acts {fuel : Nat} {A : Option Addr} {len cap : Nat} {x : DataW H × List MemPlace} (h : DataW.trod enc Try.prog w base spare held fuel 22 [.slice A len cap] = some x) :
    ∃ acts : List Ac, Sl w 28 Ac.enc (.slice A len cap) acts ∧ ∀ a ∈ acts, a.loan.size ≤ 9223372036854775807 := by
  rcases open_slice Try.underlying22 h with ⟨hcs, _⟩ | ⟨a, l, c, m, n, D, Pl, hcs, _, hlc, hcm, hm, _, hi⟩
  · obtain ⟨rfl, rfl, rfl⟩ : A = none ∧ len = 0 ∧ cap = 0 := by simpa using hcs
    exact ⟨[], Sl.nil _ _ _, by simp⟩
  · obtain ⟨rfl, rfl, rfl⟩ : A = some a ∧ len = l ∧ cap = c := by simpa using hcs
    have hlm : len ≤ m := by
      rw [hm]
      split
      · exact hlc
      · exact Nat.le_refl _
    have hall : ∀ i, i < len → ∃ q : Ac, q.loan.size ≤ 9223372036854775807 ∧ ∀ k u, q.enc[k]? = some u → w.cell? (a.add (i * 28 + k)) = some u := by
      intro i hil
      obtain ⟨cs', hc, ht⟩ := hi i (by omega)
      rw [cA] at hc
      obtain ⟨q, rfl, hq⟩ := open_act ht
      obtain ⟨_, _, hat⟩ := World.cells?_some hc
      refine ⟨q, hq, fun k u hu => ?_⟩
      have hk : k < 28 := (List.getElem?_eq_some_iff.1 hu).1
      rw [← add_add, hat k hk, hu]
    have : Inhabited Ac := ⟨⟨0, 0, 0, ⟨#[]⟩, ⟨0, 0, 0, 0, 0, 0, 0, 0, 0, 0, 0, 0⟩, ⟨0, 0, 0, 0, 0, 0, 0, 0, 0, 0, 0, 0⟩⟩⟩
    obtain ⟨f, hf⟩ := choose_lt hall
    refine ⟨(List.range len).map f, ⟨some a, cap, by simp, by simp only [List.length_map, List.length_range]; unfold maxLen at hcm; omega, fun h => (by cases h), fun h0 => ?_⟩, ?_⟩
    · simp only [List.length_map, List.length_range] at h0
      have hs := World.cell?_spot ((hf 0 h0).2 0 _ rfl)
      obtain ⟨b, off, spot⟩ := a
      have hspot : spot = none := by simpa [Addr.add] using hs
      subst hspot
      refine ⟨b, off, rfl, fun j hj k u hu => ?_⟩
      simp only [List.length_map, List.length_range] at hj
      rw [List.getElem_map, List.getElem_range] at hu
      have h := (hf j hj).2 k u hu
      rw [addr_add] at h
      rw [Nat.add_assoc]
      exact h
    · intro q hq
      obtain ⟨i, hi, rfl⟩ := List.mem_map.1 hq
      exact (hf i (List.mem_range.1 hi)).1
end

set_option maxRecDepth 100000 in
theorem lifted (os : Os) (started : os.Started) (H : Type) (enc : TypeId × Value → H) :
    ReturnsInHanded {} Try.checked os 3 .any (Rows.ledgerOwnSpec.pre6 enc Try.prog Try.f3 Rows.ledgerOwnRow.domain false) (Rows.ledgerOwnSpec.post enc Try.prog Try.f3 false true false false) := by
  refine returnsInHanded_of_change_sized (C := Try.checked) own started (by kernel_rfl) Try.func3
    (ChangeSpec.witness6 (enc := enc) (C := Try.checked) false ⟨#[], #[.slice none 0 0], []⟩ 8 (by kernel_rfl) (by kernel_rfl) (by kernel_rfl) (by kernel_rfl)) ?_
  intro W base args ds gs before hval0 hW hcnd hsz0 _
  have hval : ∀ (j : Nat) t v, Try.f3.params[j]? = some t → args[j]? = some v → Value.okWide Try.prog W .any base t v := hval0
  have hW' := hW
  obtain ⟨p, q, hA0, hV, rfl, hfz, hnd⟩ := hW
  have hA : DataW.TrodAll enc Try.prog W 0 (fun _ => true) true Try.f3.params.toList args.toList ds p := hA0
  rw [Try.params3] at hA hval
  obtain ⟨v0, vs0, d0, ds0, p0, q0, hargs, rfl, rfl, h0, r0⟩ := trodAll_cons hA
  obtain ⟨rfl, rfl, rfl⟩ := trodAll_nil r0
  obtain rfl : args = #[v0] := by cases args; simp_all
  obtain ⟨rfl, rfl⟩ := trodVars_none hV
  obtain ⟨A0, len0, cap0, rfl⟩ := okWide_slice Try.underlying22 (hval 0 22 v0 rfl rfl)
  have k0 := h0
  have lt0 : ∀ x ∈ p0, x.block < W.heap.size := by
    obtain ⟨m, hm⟩ := k0
    exact DataW.trod_lt m _ _ _ hm
  obtain ⟨fuel, hf⟩ := h0
  obtain ⟨acts, hsl, hln⟩ := open_acts hf
  clear hA0 hval0 hsz0
  refine (law_any _ acts W hsl hln).mono fun e W' ⟨he, bel⟩ => ?_
  subst he
  exact ⟨_, rfl, _, _, _, [], _, [], hW', trodAll_mk1 (shut_bool Try.underlying4 _), (trodAll_cons_mk (Below.trod laidOut (by kernel_rfl) (of_decide_eq_true (by kernel_rfl)) k0 bel lt0) trodAll_mk0), rfl, bel.frame _, fun h => by cases h⟩

theorem over : Rows.ledgerOwnRow.holds Try.pinned (OpenSpec.ofChange Rows.ledgerOwnSpec) :=
  OpenClaim.holds_of_wide 3 Try.f3 rfl rfl rfl rfl rfl rfl rfl ⟨rfl, rfl, rfl, rfl, rfl⟩ rfl rfl rfl rfl rfl (by kernel_rfl) Try.func3 (by kernel_rfl)
    (of_decide_eq_true (by kernel_rfl)) (by unfold Func.isWrapper; first | (rw [if_pos (by decide +kernel)]; kernel_rfl) | (rw [if_neg (by decide +kernel)]; exact ⟨rfl, rfl⟩))
    (fun os started H enc _ => lifted os started H enc)
end Go.Proofs.Ytegmobdpbaeijaa.ownRow
namespace Go.Proofs.Ytegmobdpbaeijaa
theorem ledgerOwn_holds : Rows.LedgerOwnSaid := ownRow.over
#print axioms ledgerOwn_holds
end Go.Proofs.Ytegmobdpbaeijaa
