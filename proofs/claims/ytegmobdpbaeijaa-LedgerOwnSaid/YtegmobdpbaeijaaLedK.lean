/- The reference's sums of postings, account by account. -/
import Derived.Test.YtegmobdpbaeijaaLedB
namespace Go.Proofs.Ytegmobdpbaeijaa
open Go.RowKit

def addL (a n : Int) (l : Ln) : Int := if l.acc = a then wrap64 (n + l.amt) else n
def sumL (a n : Int) (ls : List Ln) : Int := ls.foldl (addL a) n
def sumA (a : Int) (gs : List Pg) : Int := gs.foldl (fun n g => sumL a n g.lines) 0
theorem sumL_snoc (a n : Int) (ls : List Ln) (m : Nat) (h : m < ls.length) : sumL a n (ls.take (m + 1)) = addL a (sumL a n (ls.take m)) ls[m] := by
  rw [take_snoc ls m h, sumL, List.foldl_append]
  rfl
theorem sumA_snoc (a : Int) (gs : List Pg) (i : Nat) (h : i < gs.length) : sumA a (gs.take (i + 1)) = sumL a (sumA a (gs.take i)) gs[i].lines := by
  rw [take_snoc gs i h, sumA, List.foldl_append]
  rfl
/-- The sums of the first k accounts. -/
def sumsTo (gs : List Pg) (k : Nat) : List Ln := ((List.range k).map fun (i : Nat) => (⟨(i : Int) + 1, sumA ((i : Int) + 1) gs⟩ : Ln)).filter fun l => !(l.amt == 0)
def sumsOf (gs : List Pg) : List Ln := sumsTo gs 7
theorem sumsTo_succ (gs : List Pg) (k : Nat) : sumsTo gs (k + 1) = sumsTo gs k ++ if sumA ((k : Int) + 1) gs = 0 then [] else [⟨(k : Int) + 1, sumA ((k : Int) + 1) gs⟩] := by
  rw [sumsTo, List.range_succ, List.map_append, List.filter_append]
  congr 1
  by_cases h : sumA ((k : Int) + 1) gs = 0
  · simp [h]
  · simp [h]
theorem sumsTo_len (gs : List Pg) (k : Nat) : (sumsTo gs k).length ≤ k := by
  refine Nat.le_trans (List.length_filter_le _ _) (by simp)

set_option maxHeartbeats 1000000 in
theorem sums21_any (v : Value) (ps : List Pv) (gs : List Pg) (w : World) (hv : Sl w 4 Pv.enc v ps) (hp : All2 (Hdr w) ps gs) :
    Calls Try.prog 24 #[v] w fun e w' => ∃ u, e = .returned u ∧ Own w' w.heap.size 41 2 Ln.enc u (sumsOf gs) ∧ Below w.heap.size w w' := by
  obtain ⟨A, c, rfl, hl, _, hc⟩ := hv
  have HC := Lib.hid hc
  have HP := Lib.hid hp
  have hlen := hp.len
  have HLEN := Lib.hid hlen
  clear hc hp hlen
  go_enter Try.func24, Try.ntmps24
  go_wp2
  go_loopw [3, 4, 5, 6, 7] (fun out x y z u wr => ∃ k : Nat, k ≤ 7 ∧ x = .int .i64 ((k : Int) + 1) ∧ Hid (Own wr w.heap.size 41 2 Ln.enc out (sumsTo gs k)) ∧ Below w.heap.size w wr) (fun _ x _ _ _ _ => 8 - (intOf x).toNat)
  case atStart => exact ⟨0, by omega, rfl, Lib.hid (Own.nil _ _ _ _ _), Below.refl _ _⟩
  case round =>
    obtain ⟨k, hk, rfl, HO, hbel⟩ := hrel
    by_cases hlk : k < 7
    · have hlkI : (k : Int) + 1 ≤ 7 := by omega
      obtain ⟨wo, rfl⟩ : ∃ wo : World, wo = wr := ⟨_, rfl⟩
      go_wp2_with fail
      go_loopw [5, 6, 7, 14] (fun n x y j wi => ∃ i : Nat, i ≤ ps.length ∧ j = .int .i64 i ∧ n = .int .i64 (sumA ((k : Int) + 1) (gs.take i)) ∧ wo = wi) (fun _ _ _ j _ => ps.length - (intOf j).toNat)
      case atStart => exact ⟨0, by omega, rfl, rfl, rfl⟩
      case round =>
        obtain ⟨i, hi, rfl, rfl, rfl⟩ := hrel
        by_cases hli : i < ps.length
        · have hgi : i < gs.length := by rw [← HLEN.out]; exact hli
          obtain ⟨b, off, rfl, hbl, h0, h1, h2, h3⟩ := cells4 HC.out i hli
          have g3 := (hbel.cell (p := ⟨b, off + i * 4 + 3, none⟩) hbl).trans h3
          clear h0 h1 h2 h3
          have hd := (HP.out.at i hli hgi).lines.below hbel
          obtain ⟨A1, c1, hs, hl1, _, hc1⟩ := hd
          rw [hs] at g3
          have HC1 := Lib.hid hc1
          have HSU := Lib.hid (sumA_snoc ((k : Int) + 1) gs i hgi)
          clear hs hc1
          have hnn : ∃ n0, sumA ((k : Int) + 1) (gs.take i) = n0 := ⟨_, rfl⟩
          obtain ⟨n0, hnn⟩ := hnn
          rw [hnn] at HSU ⊢
          clear hnn
          generalize gs[i].lines = ls at *
          go_wp2_with fail
          go_loopw [5, 7, 23] (fun n y j wi => ∃ m : Nat, m ≤ ls.length ∧ j = .int .i64 m ∧ n = .int .i64 (sumL ((k : Int) + 1) n0 (ls.take m)) ∧ wo = wi) (fun _ _ j _ => ls.length - (intOf j).toNat)
          case atStart => exact ⟨0, by omega, rfl, rfl, rfl⟩
          case round =>
            obtain ⟨m, hm, rfl, rfl, rfl⟩ := hrel
            by_cases hlm : m < ls.length
            · obtain ⟨b', off', rfl, q0, q1⟩ := Sl.cells2 HC1.out m hlm
              have HSN := Lib.hid (sumL_snoc ((k : Int) + 1) n0 ls m hlm)
              have hy : ∃ y0, sumL ((k : Int) + 1) n0 (ls.take m) = y0 := ⟨_, rfl⟩
              obtain ⟨y0, hy⟩ := hy
              rw [hy] at HSN ⊢
              clear hy
              by_cases hac : ls[m].acc = (k : Int) + 1
              · have h1 : (ls[m].acc == (k : Int) + 1) = true := by simp [hac]
                have HAC := Lib.hid hac
                clear hac
                go_wp2_with fail
                refine ⟨⟨m + 1, by omega, by go_num, ?_, trivial⟩, by simp [intOf]; omega⟩
                rw [HSN.out, addL, if_pos HAC.out]
              · have h1 : (ls[m].acc == (k : Int) + 1) = false := by simpa using hac
                go_wp2_with fail
                refine ⟨⟨m + 1, by omega, by go_num, ?_, trivial⟩, by simp [intOf]; omega⟩
                rw [HSN.out, addL, if_neg hac]
            · obtain rfl : m = ls.length := by omega
              rw [List.take_length]
              go_wp2_with fail
              refine ⟨⟨i + 1, by omega, by go_num, ?_, trivial⟩, by simp [intOf]; omega⟩
              rw [HSU.out]
        · have hfull : gs.take i = gs := List.take_of_length_le (by rw [← HLEN.out]; omega)
          rw [hfull]
          clear hfull
          have HSS := Lib.hid (sumsTo_succ gs k)
          have hsl := sumsTo_len gs k
          have hy : ∃ y0, sumA ((k : Int) + 1) gs = y0 := ⟨_, rfl⟩
          obtain ⟨y0, hy⟩ := hy
          rw [hy] at HSS ⊢
          clear hy
          by_cases hz : y0 = 0
          · have h1 : (y0 != 0) = false := by simp [hz]
            have HZ := Lib.hid hz
            clear hz
            go_wp2_with fail
            refine ⟨⟨k + 1, by omega, by go_num, Lib.hid ?_, hbel⟩, by simp [intOf]; omega⟩
            rw [HSS.out, if_pos HZ.out, List.append_nil]
            exact HO.out
          · have h1 : (y0 != 0) = true := by simpa using hz
            go_wp2_with (at_builtin; go_must (refine wpl_app1 (w0 := w) w.heap.size rfl (.tmp 52) (.tmp 56) _ _ _ 2 16 rfl Try.underlying32 infoLn rfl (by decide) (by decide) Ln.enc Ln.enc_len _ _ ⟨(k : Int) + 1, y0⟩ _ rfl rfl rfl (Ln.one _) HO.out hbel hbel.size ?hl ?_; (case hl => omega); intro v1 w5 hown1 hbel1 hg1 _; have HO1 := Lib.hid hown1; clear hown1 hg1))
            refine ⟨⟨k + 1, by omega, by go_num, Lib.hid ?_, hbel1⟩, by simp [intOf]; omega⟩
            rw [HSS.out, if_neg hz]
            exact HO1.out
    · have hge : ¬ (k : Int) + 1 ≤ 7 := by omega
      obtain rfl : k = 7 := by omega
      go_wp2_with fail
      go_ret
      exact ⟨_, rfl, HO.out, hbel⟩

end Go.Proofs.Ytegmobdpbaeijaa
