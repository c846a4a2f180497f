/- The ledger's own lines between two states. -/
import Derived.Test.YtegmobdpbaeijaaLedC
import Derived.Deep.WholeRow
import Derived.Deep.MidRow
namespace Go.Proofs.Ytegmobdpbaeijaa
open Go.RowKit

/-- The sum of a state's seven accounts. -/
def sum7 (l : List Int) : Int := l.foldl (fun a v => wrap64 (a + v)) 0
def St.bal (s : St) : Bool := sum7 s.seven == 0
def errLed (f t : St) : Int := if !(f.within && t.within) then 2 else if !(f.bal && t.bal) then 52 else 0
def mkLn2 (f t : St) (i : Nat) : Ln := ⟨(i : Int) + 1, wrap64 (t.seven.getD i 0 - f.seven.getD i 0)⟩
def linesLed (f t : St) : List Ln := ((List.range 7).filter fun i => !(t.seven.getD i 0 == f.seven.getD i 0)).map (mkLn2 f t)
def resLed (f t : St) : List Ln := if errLed f t = 0 then linesLed f t else []
/-- The two states as an array reads. -/
def stsAt (f t : St) (k : Nat) : St := if k = 0 then f else t

theorem idxSt0 (f t : St) (w : World) : (Instr.index 66 (.agg #[.int .i64 f.day, .int .i64 f.rate, .int .i64 f.prin, .int .i64 f.intr, .int .i64 f.fees, .int .i64 f.cred, .int .i64 f.out, .int .i64 f.inn, .int .i64 f.accr, .int .i64 f.chrg, .int .i64 f.late, .int .i64 f.buck, .int .i64 t.day, .int .i64 t.rate, .int .i64 t.prin, .int .i64 t.intr, .int .i64 t.fees, .int .i64 t.cred, .int .i64 t.out, .int .i64 t.inn, .int .i64 t.accr, .int .i64 t.chrg, .int .i64 t.late, .int .i64 t.buck]) (.int .i64 0)).run Try.prog w = .ok (.agg #[.int .i64 f.day, .int .i64 f.rate, .int .i64 f.prin, .int .i64 f.intr, .int .i64 f.fees, .int .i64 f.cred, .int .i64 f.out, .int .i64 f.inn, .int .i64 f.accr, .int .i64 f.chrg, .int .i64 f.late, .int .i64 f.buck]) w := by kernel_rfl
theorem idxSt1 (f t : St) (w : World) : (Instr.index 66 (.agg #[.int .i64 f.day, .int .i64 f.rate, .int .i64 f.prin, .int .i64 f.intr, .int .i64 f.fees, .int .i64 f.cred, .int .i64 f.out, .int .i64 f.inn, .int .i64 f.accr, .int .i64 f.chrg, .int .i64 f.late, .int .i64 f.buck, .int .i64 t.day, .int .i64 t.rate, .int .i64 t.prin, .int .i64 t.intr, .int .i64 t.fees, .int .i64 t.cred, .int .i64 t.out, .int .i64 t.inn, .int .i64 t.accr, .int .i64 t.chrg, .int .i64 t.late, .int .i64 t.buck]) (.int .i64 1)).run Try.prog w = .ok (.agg #[.int .i64 t.day, .int .i64 t.rate, .int .i64 t.prin, .int .i64 t.intr, .int .i64 t.fees, .int .i64 t.cred, .int .i64 t.out, .int .i64 t.inn, .int .i64 t.accr, .int .i64 t.chrg, .int .i64 t.late, .int .i64 t.buck]) w := by kernel_rfl

theorem builtSt (f t : St) : Try.prog.built 66 [(0, .agg #[.int .i64 f.day, .int .i64 f.rate, .int .i64 f.prin, .int .i64 f.intr, .int .i64 f.fees, .int .i64 f.cred, .int .i64 f.out, .int .i64 f.inn, .int .i64 f.accr, .int .i64 f.chrg, .int .i64 f.late, .int .i64 f.buck]), (1, .agg #[.int .i64 t.day, .int .i64 t.rate, .int .i64 t.prin, .int .i64 t.intr, .int .i64 t.fees, .int .i64 t.cred, .int .i64 t.out, .int .i64 t.inn, .int .i64 t.accr, .int .i64 t.chrg, .int .i64 t.late, .int .i64 t.buck])] = some #[.int .i64 f.day, .int .i64 f.rate, .int .i64 f.prin, .int .i64 f.intr, .int .i64 f.fees, .int .i64 f.cred, .int .i64 f.out, .int .i64 f.inn, .int .i64 f.accr, .int .i64 f.chrg, .int .i64 f.late, .int .i64 f.buck, .int .i64 t.day, .int .i64 t.rate, .int .i64 t.prin, .int .i64 t.intr, .int .i64 t.fees, .int .i64 t.cred, .int .i64 t.out, .int .i64 t.inn, .int .i64 t.accr, .int .i64 t.chrg, .int .i64 t.late, .int .i64 t.buck] := by kernel_rfl
theorem infoSts : (Try.prog.info? 66).map (·.size) = some 24 := by kernel_rfl

theorem sts_hi (f t : St) : (Try.prog.info? 66).map (·.size) = some (#[.int .i64 f.day, .int .i64 f.rate, .int .i64 f.prin, .int .i64 f.intr, .int .i64 f.fees, .int .i64 f.cred, .int .i64 f.out, .int .i64 f.inn, .int .i64 f.accr, .int .i64 f.chrg, .int .i64 f.late, .int .i64 f.buck, .int .i64 t.day, .int .i64 t.rate, .int .i64 t.prin, .int .i64 t.intr, .int .i64 t.fees, .int .i64 t.cred, .int .i64 t.out, .int .i64 t.inn, .int .i64 t.accr, .int .i64 t.chrg, .int .i64 t.late, .int .i64 t.buck] : Array Value).size := by rw [infoSts]; rfl
theorem sts_hs (f t : St) : (#[.int .i64 0, .int .i64 0, .int .i64 0, .int .i64 0, .int .i64 0, .int .i64 0, .int .i64 0, .int .i64 0, .int .i64 0, .int .i64 0, .int .i64 0, .int .i64 0, .int .i64 0, .int .i64 0, .int .i64 0, .int .i64 0, .int .i64 0, .int .i64 0, .int .i64 0, .int .i64 0, .int .i64 0, .int .i64 0, .int .i64 0, .int .i64 0] : Array Value).size = (#[.int .i64 f.day, .int .i64 f.rate, .int .i64 f.prin, .int .i64 f.intr, .int .i64 f.fees, .int .i64 f.cred, .int .i64 f.out, .int .i64 f.inn, .int .i64 f.accr, .int .i64 f.chrg, .int .i64 f.late, .int .i64 f.buck, .int .i64 t.day, .int .i64 t.rate, .int .i64 t.prin, .int .i64 t.intr, .int .i64 t.fees, .int .i64 t.cred, .int .i64 t.out, .int .i64 t.inn, .int .i64 t.accr, .int .i64 t.chrg, .int .i64 t.late, .int .i64 t.buck] : Array Value).size := by rfl
theorem sts_h1 (f t : St) : (#[.int .i64 f.day, .int .i64 f.rate, .int .i64 f.prin, .int .i64 f.intr, .int .i64 f.fees, .int .i64 f.cred, .int .i64 f.out, .int .i64 f.inn, .int .i64 f.accr, .int .i64 f.chrg, .int .i64 f.late, .int .i64 f.buck, .int .i64 t.day, .int .i64 t.rate, .int .i64 t.prin, .int .i64 t.intr, .int .i64 t.fees, .int .i64 t.cred, .int .i64 t.out, .int .i64 t.inn, .int .i64 t.accr, .int .i64 t.chrg, .int .i64 t.late, .int .i64 t.buck] : Array Value).toList.all (·.oneCell') = true := by rfl

/-- What is known of an array of seven numbers that was made from a list. -/
structure Arr7 (A : Array Value) (l : List Int) : Prop where
  size : (Try.prog.info? 68).map (·.size) = some A.size
  zero : (#[.int .i64 0, .int .i64 0, .int .i64 0, .int .i64 0, .int .i64 0, .int .i64 0, .int .i64 0] : Array Value).size = A.size
  one : A.toList.all (·.oneCell') = true
  cell : ∀ m : Nat, m < 7 → A[m]? = some (.int .i64 (l.getD m 0))
  idx : ∀ m : Nat, m < 7 → ∀ W, (Instr.index 68 (.agg A) (.int .i64 (m : Int))).run Try.prog W = .ok (.int .i64 (l.getD m 0)) W
theorem info7 : (Try.prog.info? 68).map (·.size) = some 7 := by kernel_rfl
theorem arr7 (a b c d e f g : Int) : Arr7 #[.int .i64 a, .int .i64 b, .int .i64 c, .int .i64 d, .int .i64 e, .int .i64 f, .int .i64 g] [a, b, c, d, e, f, g] where
  size := by rw [info7]; rfl
  zero := by rfl
  one := by rfl
  cell := by intro m hm; rcases m with _ | _ | _ | _ | _ | _ | _ | m <;> first | rfl | omega
  idx := by intro m hm W; rcases m with _ | _ | _ | _ | _ | _ | _ | m <;> first | omega | kernel_rfl
theorem amounts_arr (s : St) (w : World) :
    Calls Try.prog 27 #[.agg #[.int .i64 s.day, .int .i64 s.rate, .int .i64 s.prin, .int .i64 s.intr, .int .i64 s.fees, .int .i64 s.cred, .int .i64 s.out, .int .i64 s.inn, .int .i64 s.accr, .int .i64 s.chrg, .int .i64 s.late, .int .i64 s.buck]] w fun e w' => (∃ A, e = .returned (.agg A) ∧ Arr7 A s.seven) ∧ Below w.heap.size w w' :=
  (amounts_any s w).mono fun _ _ ⟨he, hb⟩ => ⟨⟨_, he, arr7 _ _ _ _ _ _ _⟩, hb⟩

/-- The three variables of Lines that stand all the while. -/
structure Base (w wr : World) (f t : St) (C : Array Value) : Prop where
  f : wr.heap[w.heap.size]? = some (.cells #[.int .i64 f.day, .int .i64 f.rate, .int .i64 f.prin, .int .i64 f.intr, .int .i64 f.fees, .int .i64 f.cred, .int .i64 f.out, .int .i64 f.inn, .int .i64 f.accr, .int .i64 f.chrg, .int .i64 f.late, .int .i64 f.buck] 29)
  t : wr.heap[w.heap.size + 1]? = some (.cells #[.int .i64 t.day, .int .i64 t.rate, .int .i64 t.prin, .int .i64 t.intr, .int .i64 t.fees, .int .i64 t.cred, .int .i64 t.out, .int .i64 t.inn, .int .i64 t.accr, .int .i64 t.chrg, .int .i64 t.late, .int .i64 t.buck] 29)
  c : wr.heap[w.heap.size + 1 + 1]? = some (.cells C 66)
  below : Below w.heap.size w wr
theorem Base.grow {w wr wx : World} {f t : St} {C : Array Value} (h : Base w wr f t C) (hb : Below wr.heap.size wr wx) : Base w wx f t C :=
  ⟨keep_blk hb h.f, keep_blk hb h.t, keep_blk hb h.c, below_then h.below h.below.size hb⟩
theorem Base.lt {w wr : World} {f t : St} {C : Array Value} (h : Base w wr f t C) : w.heap.size + 2 < wr.heap.size := (Array.getElem?_eq_some_iff.1 h.c).1
theorem idxSts (f t : St) (k : Nat) (hk : k < 2) (W : World) : (Instr.index 66 (.agg #[.int .i64 f.day, .int .i64 f.rate, .int .i64 f.prin, .int .i64 f.intr, .int .i64 f.fees, .int .i64 f.cred, .int .i64 f.out, .int .i64 f.inn, .int .i64 f.accr, .int .i64 f.chrg, .int .i64 f.late, .int .i64 f.buck, .int .i64 t.day, .int .i64 t.rate, .int .i64 t.prin, .int .i64 t.intr, .int .i64 t.fees, .int .i64 t.cred, .int .i64 t.out, .int .i64 t.inn, .int .i64 t.accr, .int .i64 t.chrg, .int .i64 t.late, .int .i64 t.buck]) (.int .i64 (k : Int))).run Try.prog W = .ok (.agg #[.int .i64 (stsAt f t k).day, .int .i64 (stsAt f t k).rate, .int .i64 (stsAt f t k).prin, .int .i64 (stsAt f t k).intr, .int .i64 (stsAt f t k).fees, .int .i64 (stsAt f t k).cred, .int .i64 (stsAt f t k).out, .int .i64 (stsAt f t k).inn, .int .i64 (stsAt f t k).accr, .int .i64 (stsAt f t k).chrg, .int .i64 (stsAt f t k).late, .int .i64 (stsAt f t k).buck]) W := by
  rcases k with _ | _ | k
  · exact idxSt0 f t W
  · exact idxSt1 f t W
  · omega
/-- Have the first k states their amounts within bounds? -/
def okW (f t : St) (k : Nat) : Prop := ∀ i, i < k → (stsAt f t i).within = true
theorem within_false (s : St) (k : Nat) (x : Int) (h1 : ((s.eight.take (k + 1)).all inBd) = inBd x) (hx : inBd x = false) : s.within = false := by
  rw [hx] at h1
  have h2 := List.take_append_drop (k + 1) s.eight
  rw [St.within, ← h2, List.all_append, h1, Bool.false_and]
theorem err2 (f t : St) (k : Nat) (hk : k < 2) (h : (stsAt f t k).within = false) : errLed f t = 2 := by
  rcases k with _ | _ | k
  · have h' : f.within = false := h
    simp [errLed, h']
  · have h' : t.within = false := h
    simp [errLed, h']
  · omega

theorem seven_len (s : St) : s.seven.length = 7 := rfl
theorem sum7_snoc (s : St) (m : Nat) (h : m < 7) : sum7 (s.seven.take (m + 1)) = wrap64 (sum7 (s.seven.take m) + s.seven.getD m 0) := by
  rw [take_snoc _ m (by rw [seven_len]; exact h), sum7, List.foldl_append]
  simp [sum7, List.getD_eq_getElem?_getD, List.getElem?_eq_getElem (show m < s.seven.length by rw [seven_len]; exact h)]
theorem err52 (f t : St) (k : Nat) (hk : k < 2) (hw : okW f t 2) (h : (stsAt f t k).bal = false) : errLed f t = 52 := by
  have h1 : f.within = true := hw 0 (by omega)
  have h2 : t.within = true := hw 1 (by omega)
  rcases k with _ | _ | k
  · have h' : f.bal = false := h
    simp [errLed, h', h1, h2]
  · have h' : t.bal = false := h
    simp [errLed, h', h1, h2]
  · omega
def okB (f t : St) (k : Nat) : Prop := ∀ i, i < k → (stsAt f t i).bal = true
theorem err0 (f t : St) (hw : okW f t 2) (hb : okB f t 2) : errLed f t = 0 := by
  have h1 : f.within = true := hw 0 (by omega)
  have h2 : t.within = true := hw 1 (by omega)
  have h3 : f.bal = true := hb 0 (by omega)
  have h4 : t.bal = true := hb 1 (by omega)
  simp [errLed, h1, h2, h3, h4]
def linesTo (f t : St) (k : Nat) : List Ln := ((List.range k).filter fun i => !(t.seven.getD i 0 == f.seven.getD i 0)).map (mkLn2 f t)
theorem linesTo_succ (f t : St) (k : Nat) : linesTo f t (k + 1) = linesTo f t k ++ if t.seven.getD k 0 = f.seven.getD k 0 then [] else [mkLn2 f t k] := by
  rw [linesTo, List.range_succ, List.filter_append, List.map_append]
  congr 1
  by_cases h : t.seven.getD k 0 = f.seven.getD k 0
  · have e : (!(t.seven.getD k 0 == f.seven.getD k 0)) = false := by rw [h]; simp
    rw [if_pos h]
    simp only [List.filter_cons, e]
    rfl
  · have e : (!(t.seven.getD k 0 == f.seven.getD k 0)) = true := by simpa using h
    rw [if_neg h]
    simp only [List.filter_cons, e]
    rfl
theorem linesTo_len (f t : St) (k : Nat) : (linesTo f t k).length ≤ k := by
  rw [linesTo, List.length_map]
  exact Nat.le_trans (List.length_filter_le _ _) (by simp)

set_option maxHeartbeats 2000000 in
theorem lines_any (f t : St) (w : World) :
    Calls Try.prog 11 #[.agg #[.int .i64 f.day, .int .i64 f.rate, .int .i64 f.prin, .int .i64 f.intr, .int .i64 f.fees, .int .i64 f.cred, .int .i64 f.out, .int .i64 f.inn, .int .i64 f.accr, .int .i64 f.chrg, .int .i64 f.late, .int .i64 f.buck], .agg #[.int .i64 t.day, .int .i64 t.rate, .int .i64 t.prin, .int .i64 t.intr, .int .i64 t.fees, .int .i64 t.cred, .int .i64 t.out, .int .i64 t.inn, .int .i64 t.accr, .int .i64 t.chrg, .int .i64 t.late, .int .i64 t.buck]] w fun e w' =>
      ∃ v, e = .returned (.tuple #[v, .int .i64 (errLed f t)]) ∧ Own w' w.heap.size 41 2 Ln.enc v (resLed f t) ∧ Below w.heap.size w w' := by
  obtain ⟨C, hC⟩ : ∃ C : Array Value, C = #[.int .i64 f.day, .int .i64 f.rate, .int .i64 f.prin, .int .i64 f.intr, .int .i64 f.fees, .int .i64 f.cred, .int .i64 f.out, .int .i64 f.inn, .int .i64 f.accr, .int .i64 f.chrg, .int .i64 f.late, .int .i64 f.buck, .int .i64 t.day, .int .i64 t.rate, .int .i64 t.prin, .int .i64 t.intr, .int .i64 t.fees, .int .i64 t.cred, .int .i64 t.out, .int .i64 t.inn, .int .i64 t.accr, .int .i64 t.chrg, .int .i64 t.late, .int .i64 t.buck] := ⟨_, rfl⟩
  have B1 := Lib.hid (show Try.prog.built 66 [(0, .agg #[.int .i64 f.day, .int .i64 f.rate, .int .i64 f.prin, .int .i64 f.intr, .int .i64 f.fees, .int .i64 f.cred, .int .i64 f.out, .int .i64 f.inn, .int .i64 f.accr, .int .i64 f.chrg, .int .i64 f.late, .int .i64 f.buck]), (1, .agg #[.int .i64 t.day, .int .i64 t.rate, .int .i64 t.prin, .int .i64 t.intr, .int .i64 t.fees, .int .i64 t.cred, .int .i64 t.out, .int .i64 t.inn, .int .i64 t.accr, .int .i64 t.chrg, .int .i64 t.late, .int .i64 t.buck])] = some C by rw [hC]; exact builtSt f t)
  have B2 := Lib.hid (show (Try.prog.info? 66).map (·.size) = some C.size by rw [hC]; exact sts_hi f t)
  have B3 := Lib.hid (show (#[.int .i64 0, .int .i64 0, .int .i64 0, .int .i64 0, .int .i64 0, .int .i64 0, .int .i64 0, .int .i64 0, .int .i64 0, .int .i64 0, .int .i64 0, .int .i64 0, .int .i64 0, .int .i64 0, .int .i64 0, .int .i64 0, .int .i64 0, .int .i64 0, .int .i64 0, .int .i64 0, .int .i64 0, .int .i64 0, .int .i64 0, .int .i64 0] : Array Value).size = C.size by rw [hC]; exact sts_hs f t)
  have B4 := Lib.hid (show C.toList.all (·.oneCell') = true by rw [hC]; exact sts_h1 f t)
  have IX := Lib.hid (show ∀ k : Nat, k < 2 → ∀ W, (Instr.index 66 (.agg C) (.int .i64 (k : Int))).run Try.prog W = .ok (.agg #[.int .i64 (stsAt f t k).day, .int .i64 (stsAt f t k).rate, .int .i64 (stsAt f t k).prin, .int .i64 (stsAt f t k).intr, .int .i64 (stsAt f t k).fees, .int .i64 (stsAt f t k).cred, .int .i64 (stsAt f t k).out, .int .i64 (stsAt f t k).inn, .int .i64 (stsAt f t k).accr, .int .i64 (stsAt f t k).chrg, .int .i64 (stsAt f t k).late, .int .i64 (stsAt f t k).buck]) W from fun k hk W => by rw [hC]; exact idxSts f t k hk W)
  clear hC
  go_enter Try.func11, Try.ntmps11
  go_wp2_with (first | (with_reducible refine wpl_build (o := ⟨some 22, .build _ _, _, _, _, none⟩) rfl 66 _ rfl [(0, .agg #[.int .i64 f.day, .int .i64 f.rate, .int .i64 f.prin, .int .i64 f.intr, .int .i64 f.fees, .int .i64 f.cred, .int .i64 f.out, .int .i64 f.inn, .int .i64 f.accr, .int .i64 f.chrg, .int .i64 f.late, .int .i64 f.buck]), (1, .agg #[.int .i64 t.day, .int .i64 t.rate, .int .i64 t.prin, .int .i64 t.intr, .int .i64 t.fees, .int .i64 t.cred, .int .i64 t.out, .int .i64 t.inn, .int .i64 t.accr, .int .i64 t.chrg, .int .i64 t.late, .int .i64 t.buck])] ?hv _ B1.out ?_; (case hv => simp [Act.eval])) | (with_reducible refine wpl_store_new (o := ⟨none, .store 66 _ _, _, _, _, none⟩) rfl 66 (.tmp 6) (.tmp 22) rfl _ C ?hx ?hy B2.out B3.out B4.out rfl ?_; (case hx => simp [Act.eval]); (case hy => simp [Act.eval])) | (with_reducible refine wpl_load_new (o := ⟨some 23, .load _ _, _, _, _, none⟩) rfl 66 (.tmp 6) rfl C _ ?hx Try.underlying66 ?hu B2.out ?_; (case hx => simp [Act.eval]); (case hu => rfl)))
  go_loopw [8, 10, 24] (fun p x j wr => ∃ k : Nat, k ≤ 2 ∧ j = .int .i64 k ∧ Hid (okW f t k) ∧ Hid (Base w wr f t C)) (fun _ _ j _ => 2 - (intOf j).toNat)
  case atStart =>
    refine ⟨0, by omega, rfl, Lib.hid (fun i hi => by omega), Lib.hid ⟨?_, ?_, ?_, ?_⟩⟩
    · exact (Below.heap_alloc _ _ _ (by simp; omega)).trans (heap_alloc2_old _ _ _)
    · exact (Below.heap_alloc _ _ _ (by simp)).trans (heap_alloc2_new _ _ _)
    · have h := heap_alloc_new ((w.alloc (.cells #[.int .i64 f.day, .int .i64 f.rate, .int .i64 f.prin, .int .i64 f.intr, .int .i64 f.fees, .int .i64 f.cred, .int .i64 f.out, .int .i64 f.inn, .int .i64 f.accr, .int .i64 f.chrg, .int .i64 f.late, .int .i64 f.buck] 29)).alloc (.cells #[.int .i64 t.day, .int .i64 t.rate, .int .i64 t.prin, .int .i64 t.intr, .int .i64 t.fees, .int .i64 t.cred, .int .i64 t.out, .int .i64 t.inn, .int .i64 t.accr, .int .i64 t.chrg, .int .i64 t.late, .int .i64 t.buck] 29)) (.cells C 66)
      simpa using h
    · exact (((Below.refl _ _).alloc (Nat.le_refl _) _).alloc (by simp) _).alloc (by simp; omega) _
  case round =>
    obtain ⟨k, hk, rfl, HW, HB⟩ := hrel
    by_cases hlt : k < 2
    · have hltI : (k : Int) < 2 := by omega
      have ix := IX.out k hlt
      generalize hs : stsAt f t k = s at ix
      have HS := Lib.hid hs
      clear hs
      obtain ⟨wo, rfl⟩ : ∃ wo : World, wo = wr := ⟨_, rfl⟩
      go_wp2_with fail
      clear ix
      go_loopw [10, 45] (fun x j wi => ∃ m : Nat, m ≤ 8 ∧ j = .int .i64 m ∧ Hid ((s.eight.take m).all inBd = true) ∧ Hid (wi.heap[wo.heap.size + 1]? = some (.cells #[.int .i64 s.prin, .int .i64 s.intr, .int .i64 s.fees, .int .i64 s.cred, .int .i64 s.out, .int .i64 s.inn, .int .i64 s.accr, .int .i64 s.chrg] 2)) ∧ Hid (Base w wi f t C)) (fun _ j _ => 8 - (intOf j).toNat)
      case atStart => exact ⟨0, by omega, rfl, Lib.hid rfl, Lib.hid (heap_alloc2_new _ _ _), Lib.hid (HB.out.grow (((Below.refl _ _).alloc (Nat.le_refl _) _).alloc (by simp) _))⟩
      case round =>
        obtain ⟨m, hm, rfl, HT, HC, HBI⟩ := hrel
        by_cases hlm : m < 8
        · have hc := cell_of_row _ _ m _ _ _ HC.out
          rw [eight_cell s m hlm] at hc
          have hsn := all_snoc s m hlm
          rw [HT.out, Bool.true_and] at hsn
          have HSN := Lib.hid hsn
          clear hsn
          generalize s.eight.getD m 0 = x at hc HSN
          have hlmI : (m : Int) < 8 := by omega
          have HF := Lib.hid (show inBd x = false → errLed f t = 2 from fun hx => err2 f t k hlt (by rw [HS.out]; exact within_false s m x HSN.out hx))
          have HF2 := Lib.hid (show inBd x = false → resLed f t = [] from fun hx => by rw [resLed, if_neg (by rw [HF.out hx]; decide)])
          by_cases hx : x < -4000000000000000
          · have hbd : inBd x = false := by simp [inBd]; omega
            have HBD := Lib.hid hbd
            clear hbd
            go_wp2_with fail
            go_ret2
            exact ⟨_, ret2_int (HF.out HBD.out).symm, by rw [HF2.out HBD.out]; exact Own.nil _ _ _ _ _, HBI.out.below⟩
          · by_cases hy : 4000000000000000 < x
            · have hbd : inBd x = false := by simp [inBd]; omega
              have HBD := Lib.hid hbd
              clear hbd
              go_wp2_with fail
              go_ret2
              exact ⟨_, ret2_int (HF.out HBD.out).symm, by rw [HF2.out HBD.out]; exact Own.nil _ _ _ _ _, HBI.out.below⟩
            · go_wp2_with fail
              refine ⟨⟨m + 1, by omega, by go_num, Lib.hid ?_, HC, HBI⟩, by simp [intOf]; omega⟩
              rw [HSN.out]
              simp [inBd]
              omega
        · have hgeI : ¬ (m : Int) < 8 := by omega
          go_wp2_with fail
          refine ⟨⟨k + 1, by omega, by go_num, Lib.hid (fun i hi => ?_), HBI⟩, by simp [intOf]; omega⟩
          rcases Nat.lt_or_ge i k with h | h
          · exact HW.out i h
          · obtain rfl : i = k := by omega
            have h8 := HT.out
            rw [List.take_of_length_le (by rw [eight_len]; omega)] at h8
            rw [HS.out, St.within, h8]
    · have hgeI : ¬ (k : Int) < 2 := by omega
      obtain rfl : k = 2 := by omega
      have hc2 := Lib.hid HB.out.c
      go_wp2_with (with_reducible refine wpList_load_row (o := ⟨some 57, .load _ _, _, _, _, none⟩) rfl 66 (.tmp 6) rfl _ ?hx 66 C (0, 0) _ hc2.out Try.underlying66 ?hu B2.out ?_; (case hx => simp [Act.eval]); (case hu => rfl))
      clear hc2
      go_loopw [12, 13, 15, 58] (fun p sm x j wi => ∃ k : Nat, k ≤ 2 ∧ j = .int .i64 k ∧ Hid (okB f t k) ∧ Hid (Base w wi f t C)) (fun _ _ _ j _ => 2 - (intOf j).toNat)
      case atStart => exact ⟨0, by omega, rfl, Lib.hid (fun i hi => by omega), HB⟩
      case round =>
        obtain ⟨k, hk, rfl, HK, HBI⟩ := hrel
        by_cases hlt2 : k < 2
        · have hltI : (k : Int) < 2 := by omega
          have ix := IX.out k hlt2
          generalize hs : stsAt f t k = s at ix
          have HS := Lib.hid hs
          clear hs
          obtain ⟨wo, rfl⟩ : ∃ wo : World, wo = wr := ⟨_, rfl⟩
          go_wp2_with fail
          clear ix
          refine (amounts_arr s _).mono ?_
          rintro e w1 ⟨⟨A, rfl, hA⟩, hb1⟩
          have HB1 := Lib.hid (HBI.out.grow (below_then ((Below.refl _ _).alloc (Nat.le_refl _) _) (by simp) hb1))
          have HA := Lib.hid hA
          clear hA hb1
          go_wp2_with fail
          go_loopw [13, 15, 63] (fun sm x j wi => ∃ m : Nat, m ≤ 7 ∧ j = .int .i64 m ∧ sm = .int .i64 (sum7 (s.seven.take m)) ∧ Hid (Base w wi f t C)) (fun _ _ j _ => 7 - (intOf j).toNat)
          case atStart => exact ⟨0, by omega, rfl, rfl, HB1⟩
          case round =>
            obtain ⟨m, hm, rfl, rfl, HBJ⟩ := hrel
            by_cases hlm : m < 7
            · have hlmI : (m : Int) < 7 := by omega
              have ix := HA.out.idx m hlm
              have HSN := Lib.hid (sum7_snoc s m hlm)
              generalize s.seven.getD m 0 = x at ix HSN
              generalize sum7 (s.seven.take m) = y at HSN ⊢
              go_wp2_with fail
              refine ⟨⟨m + 1, by omega, by go_num, ?_, HBJ⟩, by simp [intOf]; omega⟩
              rw [HSN.out]
            · have hgeI : ¬ (m : Int) < 7 := by omega
              obtain rfl : m = 7 := by omega
              have hfull : s.seven.take 7 = s.seven := rfl
              rw [hfull]
              clear hfull
              by_cases hz : sum7 s.seven = 0
              · have HZ := Lib.hid (show s.bal = true by rw [St.bal, hz]; rfl)
                have hz1 : (sum7 s.seven != 0) = false := by simp [hz]
                clear hz
                generalize sum7 s.seven = y at *
                go_wp2_with fail
                refine ⟨⟨k + 1, by omega, by go_num, Lib.hid (fun i hi => ?_), HBJ⟩, by simp [intOf]; omega⟩
                rcases Nat.lt_or_ge i k with h | h
                · exact HK.out i h
                · obtain rfl : i = k := by omega
                  rw [HS.out]
                  exact HZ.out
              · have hz1 : (sum7 s.seven != 0) = true := by simpa using hz
                have HF := Lib.hid (show errLed f t = 52 from err52 f t k hlt2 HW.out (by rw [HS.out, St.bal]; simpa using hz))
                clear hz
                generalize sum7 s.seven = y at *
                go_wp2_with fail
                go_ret2
                exact ⟨_, ret2_int HF.out.symm, by rw [resLed, if_neg (by rw [HF.out]; decide)]; exact Own.nil _ _ _ _ _, HBJ.out.below⟩
        · have hgeI : ¬ (k : Int) < 2 := by omega
          obtain rfl : k = 2 := by omega
          have HE := Lib.hid (err0 f t HW.out HK.out)
          obtain ⟨c0, f0, z0⟩ := blk_cells HBI.out.f
          obtain ⟨wo, rfl⟩ : ∃ wo : World, wo = wr := ⟨_, rfl⟩
          go_wp2_with fail
          refine (amounts_arr f _).mono ?_
          rintro e w1 ⟨⟨A, rfl, hA⟩, hb1⟩
          have HB1 := Lib.hid (HBI.out.grow hb1)
          have HA := Lib.hid hA
          clear hA hb1 c0 f0 z0
          obtain ⟨c1, f1, z1⟩ := blk_cells HB1.out.t
          go_wp2_with (with_reducible refine wpl_store_new (o := ⟨none, .store 68 _ _, _, _, _, none⟩) rfl 68 (.tmp 16) (.tmp 74) rfl _ A ?hx ?hy HA.out.size HA.out.zero HA.out.one rfl ?_; (case hx => simp [Act.eval]); (case hy => simp [Act.eval]))
          refine (amounts_arr t _).mono ?_
          rintro e w2 ⟨⟨A2, rfl, hA2⟩, hb2⟩
          have HB2 := Lib.hid (HB1.out.grow (below_then ((Below.refl _ _).alloc (Nat.le_refl _) _) (by simp) hb2))
          have HW1 := Lib.hid (keep_blk hb2 (heap_alloc_new w1 (.cells A 68)))
          have HA2 := Lib.hid hA2
          clear hA2 hb2 c1 f1 z1
          go_wp2_with fail
          go_loopw [17, 18, 19, 77] (fun out x y j wi => ∃ m : Nat, m ≤ 7 ∧ j = .int .i64 m ∧ Hid (Own wi w.heap.size 41 2 Ln.enc out (linesTo f t m)) ∧ Hid (wi.heap[w1.heap.size]? = some (.cells A 68)) ∧ Below w.heap.size w wi) (fun _ _ _ j _ => 7 - (intOf j).toNat)
          case atStart => exact ⟨0, by omega, rfl, Lib.hid (Own.nil _ _ _ _ _), HW1, HB2.out.below⟩
          case round =>
            obtain ⟨m, hm, rfl, HO, HWI, hbel⟩ := hrel
            by_cases hlm : m < 7
            · have hlmI : (m : Int) < 7 := by omega
              have ix := HA2.out.idx m hlm
              have hc := cell_of_row _ _ m _ _ _ HWI.out
              rw [HA.out.cell m hlm] at hc
              have HSU := Lib.hid (linesTo_succ f t m)
              have HMK := Lib.hid (show mkLn2 f t m = ⟨(m : Int) + 1, wrap64 (t.seven.getD m 0 - f.seven.getD m 0)⟩ from rfl)
              have hle := linesTo_len f t m
              generalize t.seven.getD m 0 = x at ix HSU HMK
              generalize f.seven.getD m 0 = y at hc HSU HMK
              by_cases hxy : x = y
              · have h1 : (x != y) = false := by simp [hxy]
                have HXY := Lib.hid hxy
                clear hxy
                go_wp2_with fail
                refine ⟨⟨m + 1, by omega, by go_num, Lib.hid ?_, HWI, hbel⟩, by simp [intOf]; omega⟩
                rw [HSU.out, if_pos HXY.out, List.append_nil]
                exact HO.out
              · have h1 : (x != y) = true := by simpa using hxy
                go_wp2_with (at_builtin; go_must (refine wpl_app1 (w0 := w) w.heap.size rfl (.tmp 86) (.tmp 95) _ _ _ 2 16 rfl Try.underlying32 infoLn rfl (by decide) (by decide) Ln.enc Ln.enc_len _ _ ⟨(m : Int) + 1, wrap64 (x - y)⟩ _ rfl rfl rfl (Ln.one _) HO.out hbel hbel.size ?hl ?_; (case hl => omega); intro v1 w5 hown1 hbel1 hg1 _; have HO1 := Lib.hid hown1; have HG1 := Lib.hid hg1; clear hown1 hg1))
                refine ⟨⟨m + 1, by omega, by go_num, Lib.hid ?_, Lib.hid (grownBy_blk HG1.out HWI.out (HO.out.ne_blk HWI.out (by decide))), hbel1⟩, by simp [intOf]; omega⟩
                rw [HSU.out, if_neg hxy, HMK.out]
                exact HO1.out
            · have hgeI : ¬ (m : Int) < 7 := by omega
              obtain rfl : m = 7 := by omega
              go_wp2_with fail
              go_ret2
              refine ⟨_, ret2_int HE.out.symm, ?_, hbel⟩
              rw [resLed, if_pos HE.out]
              exact HO.out

end Go.Proofs.Ytegmobdpbaeijaa
