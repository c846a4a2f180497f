/- append inside a statement that draws its order: the laws at one step. -/
import Derived.Test.YtegmobdpbaeijaaLib
import Derived.Deep.RegionLaw
namespace Go.Proofs.Ytegmobdpbaeijaa
open Go.RowKit

section
variable {P : Program} {ops : Array Oper} {o : Oper} {a : Act} {K : Act → World → Prop} {Q : Exit → Act → World → Prop} {E : Prop}

theorem step_appN {α : Type} {W : World} (base : Nat) (hgd : o.guard = none) (s x : Operand) (t e : TypeId) (z : Value) (sz bytes : Nat)
    (ho : o.op = .call { callee := .builtin .append, args := #[s, x], argTypes := #[t, t] })
    (ht : P.underlying t = some (.slice e)) (hinfo : (P.info? e).map (fun i => (i.zero, i.size, i.bytes)) = some (some z, sz, bytes)) (hz : z.cells.size = sz) (hsz : 0 < sz) (hb0 : 0 < bytes)
    (enc : α → List Value) (henc : ∀ y, (enc y).length = sz) (v xv : Value) (ys xs : List α)
    (hs : a.eval s = v) (hx : a.eval x = xv) (h1 : ∀ y ∈ xs, ∀ u ∈ enc y, u.oneCell' = true)
    (HO : Own W base e sz enc v ys) (HX : Sl W sz enc xv xs) (hbase : base ≤ W.heap.size) (hl : (ys.length + xs.length) * bytes ≤ 140737488355328)
    (h : ∀ v1 w1, Own w1 base e sz enc v1 (ys ++ xs) → W.grownBy w1 v.ownBlock → (v1.ownBlock = v.ownBlock ∨ v1.ownBlock = some W.heap.size) → K (a.put o.dst v1) w1) :
    if Region.wanted o (yielded ops a.tmps) = true then Oper.wp P o a W K Q else E := by
  have hw : Region.wanted o (yielded ops a.tmps) = true := by simp [Region.wanted, hgd]
  rw [if_pos hw]
  obtain ⟨i0, hi, hzz⟩ := Option.map_eq_some_iff.1 hinfo
  simp only [Prod.mk.injEq] at hzz
  obtain ⟨hz0, hz1, hz2⟩ := hzz
  have hlen : ys.length + xs.length ≤ 140737488355328 := Nat.le_trans (Nat.le_mul_of_pos_right _ hb0) hl
  obtain ⟨A, c, rfl, hl0, hnone, hc⟩ := HX
  rcases A with _ | ad
  · have hx0 : xs = [] := by
      rcases Nat.eq_zero_or_pos xs.length with h0 | h0
      · exact List.eq_nil_of_length_eq_zero h0
      · obtain ⟨b, off, eb, _⟩ := hc h0
        cases eb
    have ec := hnone rfl
    subst hx0
    have hrun := run_append_owned_none (P := P) (w := W) base t o.type e i0 sz ht hi v ys.length (ys.flatMap enc) HO
    unfold Oper.wp
    simp [execOp, ho, resolve, invoke, builtin, hs, hx, ec, hrun, Result.andThen]
    exact h v W (by simpa using HO) ⟨rfl, rfl, rfl, Nat.le_refl _, fun _ _ _ => rfl⟩ (.inl rfl)
  · have hnews : ∀ j u, (xs.flatMap enc)[j]? = some u → W.cell? (ad.add j) = some u := by
      intro j u hu
      have hj : j < xs.length * sz := by
        have := (List.getElem?_eq_some_iff.1 hu).1
        rwa [flat_len henc] at this
      have hpos : 0 < xs.length := by
        rcases Nat.eq_zero_or_pos xs.length with h0 | h0
        · rw [h0] at hj; omega
        · exact h0
      obtain ⟨b, off, eb, hcell⟩ := hc hpos
      injection eb with eb
      subst eb
      have hq : j / sz < xs.length := by rwa [Nat.div_lt_iff_lt_mul hsz]
      have hr : j % sz < sz := Nat.mod_lt _ hsz
      have hsp : j / sz * sz + j % sz = j := by rw [Nat.mul_comm]; exact Nat.div_add_mod j sz
      have hf := flat_at henc xs (j / sz) hq (j % sz) hr
      rw [hsp, hu] at hf
      have hcc := hcell (j / sz) hq (j % sz) u hf.symm
      rw [addr_add]
      rwa [Nat.add_assoc, hsp] at hcc
    have hone : ∀ u ∈ xs.flatMap enc, u.oneCell' = true := by
      intro u hu
      obtain ⟨y, hy, hu⟩ := List.mem_flatMap.1 hu
      exact h1 y hy u hu
    obtain ⟨v', w', hr, h2, h3, _, h5⟩ := run_append_own_at (P := P) W base t o.type e i0 z sz bytes ht hi hz0 hz1 hz2 hz hsz v ys.length (ys.flatMap enc) HO ad xs.length c (xs.flatMap enc) (flat_len henc xs)
      hnews hone (by simp only [maxLen]; omega) hl hbase
    unfold Oper.wp execOp
    simp only [ho, resolve, invoke, builtin, Sem.run_bind, Sem.run_pure, Result.andThen_ok, List.map_toArray, List.map_cons, List.map_nil, hs, hx, hr]
    refine h v' w' ?_ h3 h5
    unfold Own
    rw [List.flatMap_append, List.length_append]
    exact h2
/-- One element, out of the block that was made for it. -/
theorem step_app1 {α : Type} {W : World} (base : Nat) (hgd : o.guard = none) (s x : Operand) (t e : TypeId) (z : Value) (sz bytes : Nat)
    (ho : o.op = .call { callee := .builtin .append, args := #[s, x], argTypes := #[t, t] })
    (ht : P.underlying t = some (.slice e)) (hinfo : (P.info? e).map (fun i => (i.zero, i.size, i.bytes)) = some (some z, sz, bytes)) (hz : z.cells.size = sz) (hsz : 0 < sz) (hb0 : 0 < bytes)
    (enc : α → List Value) (henc : ∀ y, (enc y).length = sz) (v : Value) (ys : List α) (y : α) (cs : Array Value) (hcs : cs.toList = enc y)
    (hs : a.eval s = v) (hx : a.eval x = .slice (some ⟨W.heap.size, 0, none⟩) 1 1) (h1 : ∀ u ∈ enc y, u.oneCell' = true)
    (HO : Own W base e sz enc v ys) (hbase : base ≤ W.heap.size) (hl : (ys.length + 1) * bytes ≤ 140737488355328)
    (h : ∀ v1 w1, Own w1 base e sz enc v1 (ys ++ [y]) → W.grownBy w1 v.ownBlock → (v1.ownBlock = v.ownBlock ∨ ∃ b, v1.ownBlock = some b ∧ W.heap.size ≤ b) → K (a.put o.dst v1) w1) :
    if Region.wanted o (yielded ops a.tmps) = true then Oper.wp P o a (W.alloc (.cells cs e)) K Q else E := by
  refine step_appN (W := W.alloc (.cells cs e)) base hgd s x t e z sz bytes ho ht hinfo hz hsz hb0 enc henc v (.slice (some ⟨W.heap.size, 0, none⟩) 1 1) ys [y] hs hx ?_ (HO.alloc _) ?_ (by simp; omega) hl ?_
  · intro y' hy' u hu
    have : y' = y := by simpa using hy'
    subst this
    exact h1 u hu
  · refine ⟨some ⟨W.heap.size, 0, none⟩, 1, rfl, by simp, fun hh => (by cases hh), fun _ => ⟨W.heap.size, 0, rfl, fun j hj k u hu => ?_⟩⟩
    obtain rfl : j = 0 := by simpa using hj
    rw [cell_of_row _ _ _ _ _ _ (heap_alloc_new W _)]
    have hu' : (enc y)[k]? = some u := hu
    rw [← hcs] at hu'
    simpa using hu'
  · intro v1 w1 hown hg hat
    refine h v1 w1 hown ⟨hg.os, hg.tape, hg.output, Nat.le_trans (by simp) hg.size, fun k hk hm => (hg.block k (by simp; omega) hm).trans (Below.heap_alloc W _ k hk)⟩ ?_
    rcases hat with hat | hat
    · exact .inl hat
    · exact .inr ⟨_, hat, by simp⟩
end

end Go.Proofs.Ytegmobdpbaeijaa
