/- The ledger's lines between two states, and the reference's: each returns the same list, or the same error. -/
import Derived.Test.YtegmobdpbaeijaaLedB
namespace Go.Proofs.Ytegmobdpbaeijaa
open Go.RowKit

structure St where
  day : Int
  rate : Int
  prin : Int
  intr : Int
  fees : Int
  cred : Int
  out : Int
  inn : Int
  accr : Int
  chrg : Int
  late : Int
  buck : Int

def St.eight (s : St) : List Int := [s.prin, s.intr, s.fees, s.cred, s.out, s.inn, s.accr, s.chrg]
def inBd (v : Int) : Bool := decide (-4000000000000000 ≤ v) && decide (v ≤ 4000000000000000)
def St.within (s : St) : Bool := s.eight.all inBd
def St.seven (s : St) : List Int := [wrap64 (s.inn - s.out), s.prin, s.intr, s.fees, wrap64 (-s.cred), wrap64 (-s.accr), wrap64 (-s.chrg)]

set_option maxHeartbeats 400000 in
theorem amounts_any (s : St) (w : World) :
    Calls Try.prog 27 #[.agg #[.int .i64 s.day, .int .i64 s.rate, .int .i64 s.prin, .int .i64 s.intr, .int .i64 s.fees, .int .i64 s.cred, .int .i64 s.out, .int .i64 s.inn, .int .i64 s.accr, .int .i64 s.chrg, .int .i64 s.late, .int .i64 s.buck]] w fun e w' => e = .returned (.agg #[.int .i64 (wrap64 (s.inn - s.out)), .int .i64 s.prin, .int .i64 s.intr, .int .i64 s.fees, .int .i64 (wrap64 (-s.cred)), .int .i64 (wrap64 (-s.accr)), .int .i64 (wrap64 (-s.chrg))]) ∧ Below w.heap.size w w' := by
  go_enter Try.func27, Try.ntmps27
  go_wp2
  refine bodyPost_ret (v := .agg #[.int .i64 (wrap64 (s.inn - s.out)), .int .i64 s.prin, .int .i64 s.intr, .int .i64 s.fees, .int .i64 (wrap64 (-s.cred)), .int .i64 (wrap64 (-s.accr)), .int .i64 (wrap64 (-s.chrg))]) (by simp [results, Try.results27, go_sem]) rfl ⟨rfl, ?_⟩
  exact ((Below.refl _ _).alloc (Nat.le_refl _) _).alloc (by simp) _

theorem even_any (s : St) (w : World) :
    Calls Try.prog 32 #[.agg #[.int .i64 s.day, .int .i64 s.rate, .int .i64 s.prin, .int .i64 s.intr, .int .i64 s.fees, .int .i64 s.cred, .int .i64 s.out, .int .i64 s.inn, .int .i64 s.accr, .int .i64 s.chrg, .int .i64 s.late, .int .i64 s.buck]] w fun e w' => e = .returned (.bool (wrap64 (wrap64 (wrap64 (s.prin + s.intr) + s.fees) - s.cred) == wrap64 (wrap64 (wrap64 (s.out + s.accr) + s.chrg) - s.inn))) ∧ Below w.heap.size w w' := by
  go_enter Try.func32, Try.ntmps32
  go_wp2
  go_ret
  exact ⟨rfl, (Below.refl _ _).alloc (Nat.le_refl _) _⟩

theorem eight_len (s : St) : s.eight.length = 8 := rfl
theorem eight_cell (s : St) (k : Nat) (h : k < 8) : (#[Value.int .i64 s.prin, .int .i64 s.intr, .int .i64 s.fees, .int .i64 s.cred, .int .i64 s.out, .int .i64 s.inn, .int .i64 s.accr, .int .i64 s.chrg] : Array Value)[k]? = some (.int .i64 (s.eight.getD k 0)) := by
  rcases k with _ | _ | _ | _ | _ | _ | _ | _ | k <;> first | rfl | omega
theorem all_snoc (s : St) (k : Nat) (h : k < 8) : (s.eight.take (k + 1)).all inBd = ((s.eight.take k).all inBd && inBd (s.eight.getD k 0)) := by
  rw [take_snoc _ k (by rw [eight_len]; exact h), List.all_append]
  simp [List.getD_eq_getElem?_getD, List.getElem?_eq_getElem (show k < s.eight.length by rw [eight_len]; exact h)]

set_option maxHeartbeats 400000 in
theorem within21_any (s : St) (w : World) :
    Calls Try.prog 31 #[.agg #[.int .i64 s.day, .int .i64 s.rate, .int .i64 s.prin, .int .i64 s.intr, .int .i64 s.fees, .int .i64 s.cred, .int .i64 s.out, .int .i64 s.inn, .int .i64 s.accr, .int .i64 s.chrg, .int .i64 s.late, .int .i64 s.buck]] w fun e w' => e = .returned (.bool s.within) ∧ Below w.heap.size w w' := by
  go_enter Try.func31, Try.ntmps31
  go_wp2
  go_loopw [4, 24] (fun i j wr => ∃ k : Nat, k ≤ 8 ∧ j = .int .i64 k ∧ Hid (((s.eight.take k).all inBd) = true) ∧ Hid (wr.heap[w.heap.size + 1]? = some (.cells #[.int .i64 s.prin, .int .i64 s.intr, .int .i64 s.fees, .int .i64 s.cred, .int .i64 s.out, .int .i64 s.inn, .int .i64 s.accr, .int .i64 s.chrg] 2)) ∧ Below w.heap.size w wr) (fun _ j _ => 8 - (intOf j).toNat)
  case atStart => exact ⟨0, by omega, rfl, Lib.hid rfl, Lib.hid (heap_alloc2_new _ _ _), ((Below.refl _ _).alloc (Nat.le_refl _) _).alloc (by simp) _⟩
  case round =>
    obtain ⟨k, hk, rfl, HT, HB, hbel⟩ := hrel
    by_cases hlt : k < 8
    · have hc := cell_of_row _ _ k _ _ _ HB.out
      rw [eight_cell s k hlt] at hc
      have hsn := all_snoc s k hlt
      rw [HT.out, Bool.true_and] at hsn
      have HSN := Lib.hid hsn
      clear hsn
      generalize s.eight.getD k 0 = x at hc HSN
      have hltI : (k : Int) < 8 := by omega
      have hfin : inBd x = false → s.within = false := fun hx => by
        have h1 := HSN.out
        rw [hx] at h1
        have h2 := List.take_append_drop (k + 1) s.eight
        rw [St.within, ← h2, List.all_append, h1, Bool.false_and]
      have HF := Lib.hid hfin
      clear hfin
      by_cases hx : x < -4000000000000000
      · go_wp2
        go_ret
        exact ⟨ret_bool (HF.out (by simp [inBd]; omega)).symm, hbel⟩
      · by_cases hy : 4000000000000000 < x
        · go_wp2
          go_ret
          exact ⟨ret_bool (HF.out (by simp [inBd]; omega)).symm, hbel⟩
        · go_wp2
          refine ⟨⟨k + 1, by omega, by go_num, Lib.hid ?_, HB, hbel⟩, by simp [intOf]; omega⟩
          rw [HSN.out]
          simp [inBd]
          omega
    · have hgeI : ¬ (k : Int) < 8 := by omega
      go_wp2
      go_ret
      have h := HT.out
      rw [List.take_of_length_le (by rw [eight_len]; omega)] at h
      exact ⟨ret_bool (by rw [St.within, h]), hbel⟩

/-- The lines that seven amounts make. -/
def mkLn (l : List Int) (i : Nat) : Ln := ⟨(i : Int) + 1, l.getD i 0⟩
def mkLines (l : List Int) : List Ln := ((List.range 7).map (mkLn l)).filter fun x => !(x.amt == 0)
def seven21 (f t : St) : List Int := [wrap64 (wrap64 (wrap64 (t.inn - t.out) - f.inn) + f.out), wrap64 (t.prin - f.prin), wrap64 (t.intr - f.intr), wrap64 (t.fees - f.fees), wrap64 (f.cred - t.cred), wrap64 (f.accr - t.accr), wrap64 (f.chrg - t.chrg)]
def St.even (s : St) : Bool := wrap64 (wrap64 (wrap64 (s.prin + s.intr) + s.fees) - s.cred) == wrap64 (wrap64 (wrap64 (s.out + s.accr) + s.chrg) - s.inn)
theorem even_any' (s : St) (w : World) :
    Calls Try.prog 32 #[.agg #[.int .i64 s.day, .int .i64 s.rate, .int .i64 s.prin, .int .i64 s.intr, .int .i64 s.fees, .int .i64 s.cred, .int .i64 s.out, .int .i64 s.inn, .int .i64 s.accr, .int .i64 s.chrg, .int .i64 s.late, .int .i64 s.buck]] w fun e w' => e = .returned (.bool s.even) ∧ Below w.heap.size w w' := even_any s w
def err21 (f t : St) : Int := if !(f.within && t.within) then 2 else if !(f.even && t.even) then 52 else 0
def res21 (f t : St) : List Ln := if err21 f t = 0 then mkLines (seven21 f t) else []

theorem map_range_at {α : Type} (g : Nat → α) (n k : Nat) (h : k < n) : ((List.range n).map g)[k]'(by simpa using h) = g k := by simp

end Go.Proofs.Ytegmobdpbaeijaa
