/- The reference's Post. -/
import Derived.Test.YtegmobdpbaeijaaLedH
import Derived.Test.YtegmobdpbaeijaaLedD
import Derived.Test.YtegmobdpbaeijaaLibB
namespace Go.Proofs.Ytegmobdpbaeijaa
open Go.RowKit

def goodB (d : Int) : Bool := decide (-719162 ≤ d) && decide (d ≤ 2932896)
theorem good_any (d : Int) (w : World) : Calls Try.prog 17 #[.int .i64 d] w fun e w' => e = .returned (.bool (goodB d)) ∧ w = w' := by
  by_cases h1 : -719162 ≤ d <;> by_cases h2 : d ≤ 2932896
  all_goals
    have E := Lib.hid (show goodB d = (decide (-719162 ≤ d) && decide (d ≤ 2932896)) from rfl)
    go_enter Try.func17, Try.ntmps17
    go_wp2
    go_ret
    exact ⟨ret_bool (by rw [E.out]; first | rfl | (simp; done) | (simp; omega)), rfl⟩
theorem good_iff (d : Int) : goodB d = true ↔ ¬ (d < -719162 ∨ 2932896 < d) := by simp [goodB]
theorem lines21_same (f t : St) (w : World) :
    Calls Try.prog 19 #[.agg #[.int .i64 f.day, .int .i64 f.rate, .int .i64 f.prin, .int .i64 f.intr, .int .i64 f.fees, .int .i64 f.cred, .int .i64 f.out, .int .i64 f.inn, .int .i64 f.accr, .int .i64 f.chrg, .int .i64 f.late, .int .i64 f.buck], .agg #[.int .i64 t.day, .int .i64 t.rate, .int .i64 t.prin, .int .i64 t.intr, .int .i64 t.fees, .int .i64 t.cred, .int .i64 t.out, .int .i64 t.inn, .int .i64 t.accr, .int .i64 t.chrg, .int .i64 t.late, .int .i64 t.buck]] w fun e w' =>
      ∃ v, e = .returned (.tuple #[v, .int .i64 (errLed f t)]) ∧ Own w' w.heap.size 41 2 Ln.enc v (resLed f t) ∧ Below w.heap.size w w' := by
  have h := lines21_any f t w
  rw [← err_same, ← res_same] at h
  exact h

/-- What the reference's Post leaves. -/
def RefPost (w : World) (B base : Nat) (v : Value) (ps : List Pv) (gs : List Pg) (closed : Int) (r : Int × Option Pg) (e : Ending) (w' : World) : Prop :=
  ∃ v' ps' val, e = .returned val ∧ JR 54 w' B base v' ps' (gs ++ r.2.toList) closed ∧ Mods (fun k => k = B) w w' ∧ (∀ q ∈ ps', q ∈ ps ∨ ∀ b, q.lines.ownBlock = some b → w.heap.size ≤ b) ∧ ∀ b, v'.ownBlock = some b → v.ownBlock = some b ∨ w.heap.size ≤ b
theorem ref_none {w w' : World} {B base : Nat} {v : Value} {ps : List Pv} {gs : List Pg} {closed : Int} {r : Int × Option Pg} {k : Int} {e : Ending} {val : Value} (h : JR 54 w B base v ps gs closed) (hb : Below w.heap.size w w') (hr : r = (k, none)) (he : e = .returned val) :
    RefPost w B base v ps gs closed r e w' := by
  subst hr
  exact ⟨v, ps, val, he, by simpa using h.kept hb, Mods.of_below hb _, fun q hq => .inl hq, fun b h => .inl h⟩

set_option maxHeartbeats 1000000 in
theorem ref_day (B base : Nat) (v : Value) (ps : List Pv) (gs : List Pg) (closed day : Int) (loan : ByteArray) (f t : St) (w : World)
    (hj : JR 54 w B base v ps gs closed) (hd : day < -719162 ∨ 2932896 < day) :
    Calls Try.prog 8 #[.pointer (some ⟨B, 0, none⟩), .int .i64 day, .string loan, .agg #[.int .i64 f.day, .int .i64 f.rate, .int .i64 f.prin, .int .i64 f.intr, .int .i64 f.fees, .int .i64 f.cred, .int .i64 f.out, .int .i64 f.inn, .int .i64 f.accr, .int .i64 f.chrg, .int .i64 f.late, .int .i64 f.buck], .agg #[.int .i64 t.day, .int .i64 t.rate, .int .i64 t.prin, .int .i64 t.intr, .int .i64 t.fees, .int .i64 t.cred, .int .i64 t.out, .int .i64 t.inn, .int .i64 t.accr, .int .i64 t.chrg, .int .i64 t.late, .int .i64 t.buck]] w (RefPost w B base v ps gs closed (postR gs.length closed day loan f t)) := by
  have HR := Lib.hid (show postR gs.length closed day loan f t = (6, none) by rw [postR, if_pos hd])
  have HG := Lib.hid (show goodB day = false by simp [goodB]; omega)
  clear hd
  obtain ⟨Av, cv, hv⟩ := hj.own.shape
  subst hv
  rw [hj.len] at *
  go_enter Try.func8, Try.ntmps8
  go_wp2_with fail
  refine (good_any day _).mono ?_
  rintro e w0 ⟨rfl, rfl⟩
  rw [HG.out]
  go_wp2_with fail
  refine bodyPost_ret (v := .tuple #[.agg #[.int .i64 0, .int .i64 0, .string ⟨#[]⟩, .slice none 0 0], .bool false, .int .i64 (6)]) (by simp [results, Try.results8, go_sem]) rfl ?_
  refine ref_none hj ?_ HR.out rfl
  repeat (first | exact Below.refl _ _ | (with_reducible exact Below.refl _ _) | refine Below.setCell ?_ (by simp; try omega) _ | refine Below.alloc ?_ (by simp; try omega) _)

set_option maxHeartbeats 1000000 in
theorem ref_name (B base : Nat) (v : Value) (ps : List Pv) (gs : List Pg) (closed day : Int) (loan : ByteArray) (f t : St) (w : World)
    (hj : JR 54 w B base v ps gs closed) (hl : loan.size ≤ 9223372036854775807) (hd : ¬ (day < -719162 ∨ 2932896 < day)) (hn : nameB loan = false) :
    Calls Try.prog 8 #[.pointer (some ⟨B, 0, none⟩), .int .i64 day, .string loan, .agg #[.int .i64 f.day, .int .i64 f.rate, .int .i64 f.prin, .int .i64 f.intr, .int .i64 f.fees, .int .i64 f.cred, .int .i64 f.out, .int .i64 f.inn, .int .i64 f.accr, .int .i64 f.chrg, .int .i64 f.late, .int .i64 f.buck], .agg #[.int .i64 t.day, .int .i64 t.rate, .int .i64 t.prin, .int .i64 t.intr, .int .i64 t.fees, .int .i64 t.cred, .int .i64 t.out, .int .i64 t.inn, .int .i64 t.accr, .int .i64 t.chrg, .int .i64 t.late, .int .i64 t.buck]] w (RefPost w B base v ps gs closed (postR gs.length closed day loan f t)) := by
  have HR := Lib.hid (show postR gs.length closed day loan f t = (51, none) by rw [postR, if_neg hd, if_pos hn])
  have HG := Lib.hid ((good_iff day).2 hd)
  have HN := Lib.hid hn
  clear hd hn
  obtain ⟨Av, cv, hv⟩ := hj.own.shape
  subst hv
  rw [hj.len] at *
  go_enter Try.func8, Try.ntmps8
  go_wp2_with fail
  refine (good_any day _).mono ?_
  rintro e w0 ⟨rfl, rfl⟩
  rw [HG.out]
  go_wp2_with fail
  refine (loan_any loan _ hl).mono ?_
  rintro e w0 ⟨rfl, rfl⟩
  rw [HN.out]
  go_wp2_with fail
  refine bodyPost_ret (v := .tuple #[.agg #[.int .i64 0, .int .i64 0, .string ⟨#[]⟩, .slice none 0 0], .bool false, .int .i64 (51)]) (by simp [results, Try.results8, go_sem]) rfl ?_
  refine ref_none hj ?_ HR.out rfl
  repeat (first | exact Below.refl _ _ | (with_reducible exact Below.refl _ _) | refine Below.setCell ?_ (by simp; try omega) _ | refine Below.alloc ?_ (by simp; try omega) _)

set_option maxHeartbeats 1000000 in
theorem ref_err (B base : Nat) (v : Value) (ps : List Pv) (gs : List Pg) (closed day : Int) (loan : ByteArray) (f t : St) (w : World)
    (hj : JR 54 w B base v ps gs closed) (hl : loan.size ≤ 9223372036854775807) (hd : ¬ (day < -719162 ∨ 2932896 < day)) (hn : nameB loan = true) (he : ¬ errLed f t = 0) :
    Calls Try.prog 8 #[.pointer (some ⟨B, 0, none⟩), .int .i64 day, .string loan, .agg #[.int .i64 f.day, .int .i64 f.rate, .int .i64 f.prin, .int .i64 f.intr, .int .i64 f.fees, .int .i64 f.cred, .int .i64 f.out, .int .i64 f.inn, .int .i64 f.accr, .int .i64 f.chrg, .int .i64 f.late, .int .i64 f.buck], .agg #[.int .i64 t.day, .int .i64 t.rate, .int .i64 t.prin, .int .i64 t.intr, .int .i64 t.fees, .int .i64 t.cred, .int .i64 t.out, .int .i64 t.inn, .int .i64 t.accr, .int .i64 t.chrg, .int .i64 t.late, .int .i64 t.buck]] w (RefPost w B base v ps gs closed (postR gs.length closed day loan f t)) := by
  have HR := Lib.hid (show postR gs.length closed day loan f t = (errLed f t, none) by rw [postR, if_neg hd, if_neg (by rw [hn]; decide), if_pos he])
  have HG := Lib.hid ((good_iff day).2 hd)
  have hlo := hj.lo
  have hhi := hj.hi
  have hmany := hj.many
  have HN := Lib.hid hn
  have he' : (errLed f t != 0) = true := by simpa using he
  clear he
  clear hn hd
  obtain ⟨Av, cv, hv⟩ := hj.own.shape
  subst hv
  rw [hj.len] at *
  go_enter Try.func8, Try.ntmps8
  go_wp2_with fail
  refine (good_any day _).mono ?_
  rintro e w0 ⟨rfl, rfl⟩
  rw [HG.out]
  go_wp2_with fail
  refine (loan_any loan _ hl).mono ?_
  rintro e w0 ⟨rfl, rfl⟩
  rw [HN.out]
  go_wp2_with fail
  refine (lines21_same f t _).mono ?_
  rintro e w2 ⟨lv, rfl, hown, hb2⟩
  obtain ⟨Al, cl, hlv⟩ := hown.shape
  subst hlv
  have HB2 := Lib.hid (below_then (below3 w (.cells #[.int .i64 f.day, .int .i64 f.rate, .int .i64 f.prin, .int .i64 f.intr, .int .i64 f.fees, .int .i64 f.cred, .int .i64 f.out, .int .i64 f.inn, .int .i64 f.accr, .int .i64 f.chrg, .int .i64 f.late, .int .i64 f.buck] 29) (.cells #[.int .i64 t.day, .int .i64 t.rate, .int .i64 t.prin, .int .i64 t.intr, .int .i64 t.fees, .int .i64 t.cred, .int .i64 t.out, .int .i64 t.inn, .int .i64 t.accr, .int .i64 t.chrg, .int .i64 t.late, .int .i64 t.buck] 29) (.cells #[.int .i64 0, .int .i64 0, .string ⟨#[]⟩, .slice none 0 0] 34)) (by simp; omega) hb2)
  have kr := Lib.hid (keep_blk hb2 (heap3_2 w (.cells #[.int .i64 f.day, .int .i64 f.rate, .int .i64 f.prin, .int .i64 f.intr, .int .i64 f.fees, .int .i64 f.cred, .int .i64 f.out, .int .i64 f.inn, .int .i64 f.accr, .int .i64 f.chrg, .int .i64 f.late, .int .i64 f.buck] 29) (.cells #[.int .i64 t.day, .int .i64 t.rate, .int .i64 t.prin, .int .i64 t.intr, .int .i64 t.fees, .int .i64 t.cred, .int .i64 t.out, .int .i64 t.inn, .int .i64 t.accr, .int .i64 t.chrg, .int .i64 t.late, .int .i64 t.buck] 29) (.cells #[.int .i64 0, .int .i64 0, .string ⟨#[]⟩, .slice none 0 0] 34)))
  have kj := Lib.hid (keep_blk HB2.out hj.blk)
  have HO := Lib.hid hown
  clear hb2 hown
  obtain ⟨c2, f2, z2⟩ := blk_cells kr.out
  obtain ⟨c3, f3, z3⟩ := blk_cells kj.out
  go_wp2_with fail
  refine bodyPost_ret (v := .tuple #[.agg #[.int .i64 0, .int .i64 0, .string ⟨#[]⟩, .slice none 0 0], .bool false, .int .i64 (errLed f t)]) (by simp [results, Try.results8, go_sem, c2]) rfl ?_
  refine ref_none hj ?_ HR.out rfl
  repeat (first | exact Below.refl _ _ | (with_reducible exact HB2.out) | refine Below.setCell ?_ (by simp; try omega) _ | refine Below.alloc ?_ (by simp; try omega) _)

set_option maxHeartbeats 1000000 in
theorem ref_long (B base : Nat) (v : Value) (ps : List Pv) (gs : List Pg) (closed day : Int) (loan : ByteArray) (f t : St) (w : World)
    (hj : JR 54 w B base v ps gs closed) (hl : loan.size ≤ 9223372036854775807) (hd : ¬ (day < -719162 ∨ 2932896 < day)) (hn : nameB loan = true) (he : errLed f t = 0) (hm : gs.length = 65536) :
    Calls Try.prog 8 #[.pointer (some ⟨B, 0, none⟩), .int .i64 day, .string loan, .agg #[.int .i64 f.day, .int .i64 f.rate, .int .i64 f.prin, .int .i64 f.intr, .int .i64 f.fees, .int .i64 f.cred, .int .i64 f.out, .int .i64 f.inn, .int .i64 f.accr, .int .i64 f.chrg, .int .i64 f.late, .int .i64 f.buck], .agg #[.int .i64 t.day, .int .i64 t.rate, .int .i64 t.prin, .int .i64 t.intr, .int .i64 t.fees, .int .i64 t.cred, .int .i64 t.out, .int .i64 t.inn, .int .i64 t.accr, .int .i64 t.chrg, .int .i64 t.late, .int .i64 t.buck]] w (RefPost w B base v ps gs closed (postR gs.length closed day loan f t)) := by
  have HR := Lib.hid (show postR gs.length closed day loan f t = (3, none) by rw [postR, if_neg hd, if_neg (by rw [hn]; decide), if_neg (by rw [he]; decide), if_pos hm])
  have HG := Lib.hid ((good_iff day).2 hd)
  have hlo := hj.lo
  have hhi := hj.hi
  have hmany := hj.many
  have HN := Lib.hid hn
  have HE := Lib.hid he
  clear he
  have hm' : (65536 : Int) ≤ (gs.length : Int) := by omega
  clear hm
  clear hn hd
  obtain ⟨Av, cv, hv⟩ := hj.own.shape
  subst hv
  rw [hj.len] at *
  go_enter Try.func8, Try.ntmps8
  go_wp2_with fail
  refine (good_any day _).mono ?_
  rintro e w0 ⟨rfl, rfl⟩
  rw [HG.out]
  go_wp2_with fail
  refine (loan_any loan _ hl).mono ?_
  rintro e w0 ⟨rfl, rfl⟩
  rw [HN.out]
  go_wp2_with fail
  refine (lines21_same f t _).mono ?_
  rintro e w2 ⟨lv, rfl, hown, hb2⟩
  obtain ⟨Al, cl, hlv⟩ := hown.shape
  subst hlv
  have HB2 := Lib.hid (below_then (below3 w (.cells #[.int .i64 f.day, .int .i64 f.rate, .int .i64 f.prin, .int .i64 f.intr, .int .i64 f.fees, .int .i64 f.cred, .int .i64 f.out, .int .i64 f.inn, .int .i64 f.accr, .int .i64 f.chrg, .int .i64 f.late, .int .i64 f.buck] 29) (.cells #[.int .i64 t.day, .int .i64 t.rate, .int .i64 t.prin, .int .i64 t.intr, .int .i64 t.fees, .int .i64 t.cred, .int .i64 t.out, .int .i64 t.inn, .int .i64 t.accr, .int .i64 t.chrg, .int .i64 t.late, .int .i64 t.buck] 29) (.cells #[.int .i64 0, .int .i64 0, .string ⟨#[]⟩, .slice none 0 0] 34)) (by simp; omega) hb2)
  have kr := Lib.hid (keep_blk hb2 (heap3_2 w (.cells #[.int .i64 f.day, .int .i64 f.rate, .int .i64 f.prin, .int .i64 f.intr, .int .i64 f.fees, .int .i64 f.cred, .int .i64 f.out, .int .i64 f.inn, .int .i64 f.accr, .int .i64 f.chrg, .int .i64 f.late, .int .i64 f.buck] 29) (.cells #[.int .i64 t.day, .int .i64 t.rate, .int .i64 t.prin, .int .i64 t.intr, .int .i64 t.fees, .int .i64 t.cred, .int .i64 t.out, .int .i64 t.inn, .int .i64 t.accr, .int .i64 t.chrg, .int .i64 t.late, .int .i64 t.buck] 29) (.cells #[.int .i64 0, .int .i64 0, .string ⟨#[]⟩, .slice none 0 0] 34)))
  have kj := Lib.hid (keep_blk HB2.out hj.blk)
  have HO := Lib.hid hown
  clear hb2 hown
  obtain ⟨c2, f2, z2⟩ := blk_cells kr.out
  obtain ⟨c3, f3, z3⟩ := blk_cells kj.out
  rw [HE.out]
  go_wp2_with fail
  refine bodyPost_ret (v := .tuple #[.agg #[.int .i64 0, .int .i64 0, .string ⟨#[]⟩, .slice none 0 0], .bool false, .int .i64 (3)]) (by simp [results, Try.results8, go_sem, c2]) rfl ?_
  refine ref_none hj ?_ HR.out rfl
  repeat (first | exact Below.refl _ _ | (with_reducible exact HB2.out) | refine Below.setCell ?_ (by simp; try omega) _ | refine Below.alloc ?_ (by simp; try omega) _)

set_option maxRecDepth 100000 in
set_option maxHeartbeats 1000000 in
theorem ref_late (B base : Nat) (v : Value) (ps : List Pv) (gs : List Pg) (closed day : Int) (loan : ByteArray) (f t : St) (w : World)
    (hj : JR 54 w B base v ps gs closed) (hl : loan.size ≤ 9223372036854775807) (hd : ¬ (day < -719162 ∨ 2932896 < day)) (hn : nameB loan = true) (he : errLed f t = 0) (hm : ¬ gs.length = 65536) (hx : 2932896 < max day (closed + 1)) :
    Calls Try.prog 8 #[.pointer (some ⟨B, 0, none⟩), .int .i64 day, .string loan, .agg #[.int .i64 f.day, .int .i64 f.rate, .int .i64 f.prin, .int .i64 f.intr, .int .i64 f.fees, .int .i64 f.cred, .int .i64 f.out, .int .i64 f.inn, .int .i64 f.accr, .int .i64 f.chrg, .int .i64 f.late, .int .i64 f.buck], .agg #[.int .i64 t.day, .int .i64 t.rate, .int .i64 t.prin, .int .i64 t.intr, .int .i64 t.fees, .int .i64 t.cred, .int .i64 t.out, .int .i64 t.inn, .int .i64 t.accr, .int .i64 t.chrg, .int .i64 t.late, .int .i64 t.buck]] w (RefPost w B base v ps gs closed (postR gs.length closed day loan f t)) := by
  have HR := Lib.hid (show postR gs.length closed day loan f t = (6, none) by rw [postR, if_neg hd, if_neg (by rw [hn]; decide), if_neg (by rw [he]; decide), if_neg hm, if_pos hx])
  have HG := Lib.hid ((good_iff day).2 hd)
  have hlo := hj.lo
  have hhi := hj.hi
  have hmany := hj.many
  have HN := Lib.hid hn
  have HE := Lib.hid he
  clear he
  have hm' : decide ((65536 : Int) ≤ (gs.length : Int)) = false := by simp; omega
  have HG1 := Lib.hid (show goodB (max day (closed + 1)) = false by simp [goodB]; omega)
  clear hm hx
  clear hn hd
  obtain ⟨Av, cv, hv⟩ := hj.own.shape
  subst hv
  rw [hj.len] at *
  go_enter Try.func8, Try.ntmps8
  go_wp2_with fail
  refine (good_any day _).mono ?_
  rintro e w0 ⟨rfl, rfl⟩
  rw [HG.out]
  go_wp2_with fail
  refine (loan_any loan _ hl).mono ?_
  rintro e w0 ⟨rfl, rfl⟩
  rw [HN.out]
  go_wp2_with fail
  refine (lines21_same f t _).mono ?_
  rintro e w2 ⟨lv, rfl, hown, hb2⟩
  obtain ⟨Al, cl, hlv⟩ := hown.shape
  subst hlv
  have HB2 := Lib.hid (below_then (below3 w (.cells #[.int .i64 f.day, .int .i64 f.rate, .int .i64 f.prin, .int .i64 f.intr, .int .i64 f.fees, .int .i64 f.cred, .int .i64 f.out, .int .i64 f.inn, .int .i64 f.accr, .int .i64 f.chrg, .int .i64 f.late, .int .i64 f.buck] 29) (.cells #[.int .i64 t.day, .int .i64 t.rate, .int .i64 t.prin, .int .i64 t.intr, .int .i64 t.fees, .int .i64 t.cred, .int .i64 t.out, .int .i64 t.inn, .int .i64 t.accr, .int .i64 t.chrg, .int .i64 t.late, .int .i64 t.buck] 29) (.cells #[.int .i64 0, .int .i64 0, .string ⟨#[]⟩, .slice none 0 0] 34)) (by simp; omega) hb2)
  have kr := Lib.hid (keep_blk hb2 (heap3_2 w (.cells #[.int .i64 f.day, .int .i64 f.rate, .int .i64 f.prin, .int .i64 f.intr, .int .i64 f.fees, .int .i64 f.cred, .int .i64 f.out, .int .i64 f.inn, .int .i64 f.accr, .int .i64 f.chrg, .int .i64 f.late, .int .i64 f.buck] 29) (.cells #[.int .i64 t.day, .int .i64 t.rate, .int .i64 t.prin, .int .i64 t.intr, .int .i64 t.fees, .int .i64 t.cred, .int .i64 t.out, .int .i64 t.inn, .int .i64 t.accr, .int .i64 t.chrg, .int .i64 t.late, .int .i64 t.buck] 29) (.cells #[.int .i64 0, .int .i64 0, .string ⟨#[]⟩, .slice none 0 0] 34)))
  have kj := Lib.hid (keep_blk HB2.out hj.blk)
  have HO := Lib.hid hown
  clear hb2 hown
  obtain ⟨c2, f2, z2⟩ := blk_cells kr.out
  obtain ⟨c3, f3, z3⟩ := blk_cells kj.out
  rw [HE.out]
  go_wp2_with fail
  refine (good_any _ _).mono ?_
  rintro e w0 ⟨rfl, rfl⟩
  rw [HG1.out]
  go_wp2_with fail
  refine bodyPost_ret (v := .tuple #[.agg #[.int .i64 0, .int .i64 0, .string ⟨#[]⟩, .slice none 0 0], .bool false, .int .i64 (6)]) (by simp [results, Try.results8, go_sem, c2]) rfl ?_
  refine ref_none hj ?_ HR.out rfl
  repeat (first | exact Below.refl _ _ | (with_reducible exact HB2.out) | refine Below.setCell ?_ (by simp; try omega) _ | refine Below.alloc ?_ (by simp; try omega) _)

set_option maxRecDepth 100000 in
set_option maxHeartbeats 1000000 in
theorem ref_same (B base : Nat) (v : Value) (ps : List Pv) (gs : List Pg) (closed day : Int) (loan : ByteArray) (f t : St) (w : World)
    (hj : JR 54 w B base v ps gs closed) (hl : loan.size ≤ 9223372036854775807) (hd : ¬ (day < -719162 ∨ 2932896 < day)) (hn : nameB loan = true) (he : errLed f t = 0) (hm : ¬ gs.length = 65536) (hx : ¬ 2932896 < max day (closed + 1)) (hz : (resLed f t).length = 0) :
    Calls Try.prog 8 #[.pointer (some ⟨B, 0, none⟩), .int .i64 day, .string loan, .agg #[.int .i64 f.day, .int .i64 f.rate, .int .i64 f.prin, .int .i64 f.intr, .int .i64 f.fees, .int .i64 f.cred, .int .i64 f.out, .int .i64 f.inn, .int .i64 f.accr, .int .i64 f.chrg, .int .i64 f.late, .int .i64 f.buck], .agg #[.int .i64 t.day, .int .i64 t.rate, .int .i64 t.prin, .int .i64 t.intr, .int .i64 t.fees, .int .i64 t.cred, .int .i64 t.out, .int .i64 t.inn, .int .i64 t.accr, .int .i64 t.chrg, .int .i64 t.late, .int .i64 t.buck]] w (RefPost w B base v ps gs closed (postR gs.length closed day loan f t)) := by
  have HR := Lib.hid (show postR gs.length closed day loan f t = (0, none) by rw [postR, if_neg hd, if_neg (by rw [hn]; decide), if_neg (by rw [he]; decide), if_neg hm, if_neg hx, if_pos hz])
  have HG := Lib.hid ((good_iff day).2 hd)
  have hlo := hj.lo
  have hhi := hj.hi
  have hmany := hj.many
  have HN := Lib.hid hn
  have HE := Lib.hid he
  clear he
  have hm' : decide ((65536 : Int) ≤ (gs.length : Int)) = false := by simp; omega
  have HG1 := Lib.hid (show goodB (max day (closed + 1)) = true by simp [goodB]; omega)
  have hz' : (((resLed f t).length : Int) == 0) = true := by simp [hz]
  clear hz hm hx
  clear hn hd
  obtain ⟨Av, cv, hv⟩ := hj.own.shape
  subst hv
  rw [hj.len] at *
  go_enter Try.func8, Try.ntmps8
  go_wp2_with fail
  refine (good_any day _).mono ?_
  rintro e w0 ⟨rfl, rfl⟩
  rw [HG.out]
  go_wp2_with fail
  refine (loan_any loan _ hl).mono ?_
  rintro e w0 ⟨rfl, rfl⟩
  rw [HN.out]
  go_wp2_with fail
  refine (lines21_same f t _).mono ?_
  rintro e w2 ⟨lv, rfl, hown, hb2⟩
  obtain ⟨Al, cl, hlv⟩ := hown.shape
  subst hlv
  have HB2 := Lib.hid (below_then (below3 w (.cells #[.int .i64 f.day, .int .i64 f.rate, .int .i64 f.prin, .int .i64 f.intr, .int .i64 f.fees, .int .i64 f.cred, .int .i64 f.out, .int .i64 f.inn, .int .i64 f.accr, .int .i64 f.chrg, .int .i64 f.late, .int .i64 f.buck] 29) (.cells #[.int .i64 t.day, .int .i64 t.rate, .int .i64 t.prin, .int .i64 t.intr, .int .i64 t.fees, .int .i64 t.cred, .int .i64 t.out, .int .i64 t.inn, .int .i64 t.accr, .int .i64 t.chrg, .int .i64 t.late, .int .i64 t.buck] 29) (.cells #[.int .i64 0, .int .i64 0, .string ⟨#[]⟩, .slice none 0 0] 34)) (by simp; omega) hb2)
  have kr := Lib.hid (keep_blk hb2 (heap3_2 w (.cells #[.int .i64 f.day, .int .i64 f.rate, .int .i64 f.prin, .int .i64 f.intr, .int .i64 f.fees, .int .i64 f.cred, .int .i64 f.out, .int .i64 f.inn, .int .i64 f.accr, .int .i64 f.chrg, .int .i64 f.late, .int .i64 f.buck] 29) (.cells #[.int .i64 t.day, .int .i64 t.rate, .int .i64 t.prin, .int .i64 t.intr, .int .i64 t.fees, .int .i64 t.cred, .int .i64 t.out, .int .i64 t.inn, .int .i64 t.accr, .int .i64 t.chrg, .int .i64 t.late, .int .i64 t.buck] 29) (.cells #[.int .i64 0, .int .i64 0, .string ⟨#[]⟩, .slice none 0 0] 34)))
  have kj := Lib.hid (keep_blk HB2.out hj.blk)
  have HO := Lib.hid hown
  clear hb2 hown
  obtain ⟨c2, f2, z2⟩ := blk_cells kr.out
  obtain ⟨c3, f3, z3⟩ := blk_cells kj.out
  rw [HE.out]
  go_wp2_with fail
  refine (good_any _ _).mono ?_
  rintro e w0 ⟨rfl, rfl⟩
  rw [HG1.out]
  go_wp2_with fail
  refine bodyPost_ret (v := .tuple #[.agg #[.int .i64 0, .int .i64 0, .string ⟨#[]⟩, .slice none 0 0], .bool false, .int .i64 (0)]) (by simp [results, Try.results8, go_sem, c2]) rfl ?_
  refine ref_none hj ?_ HR.out rfl
  repeat (first | exact Below.refl _ _ | (with_reducible exact HB2.out) | refine Below.setCell ?_ (by simp; try omega) _ | refine Below.alloc ?_ (by simp; try omega) _)

end Go.Proofs.Ytegmobdpbaeijaa
