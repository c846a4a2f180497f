/- Post's other ways, and Post whole. -/
import Derived.Test.YtegmobdpbaeijaaLedG
namespace Go.Proofs.Ytegmobdpbaeijaa
open Go.RowKit

set_option maxHeartbeats 1000000 in
theorem post_err (B base : Nat) (v : Value) (ps : List Pv) (gs : List Pg) (closed day : Int) (loan : ByteArray) (f t : St) (w : World)
    (hj : JR 52 w B base v ps gs closed) (hl : loan.size ≤ 9223372036854775807) (hd : ¬ (day < -719162 ∨ 2932896 < day)) (hn : nameB loan = true) (he : ¬ errLed f t = 0) :
    Calls Try.prog 7 #[.pointer (some ⟨B, 0, none⟩), .int .i64 day, .string loan, .agg #[.int .i64 f.day, .int .i64 f.rate, .int .i64 f.prin, .int .i64 f.intr, .int .i64 f.fees, .int .i64 f.cred, .int .i64 f.out, .int .i64 f.inn, .int .i64 f.accr, .int .i64 f.chrg, .int .i64 f.late, .int .i64 f.buck], .agg #[.int .i64 t.day, .int .i64 t.rate, .int .i64 t.prin, .int .i64 t.intr, .int .i64 t.fees, .int .i64 t.cred, .int .i64 t.out, .int .i64 t.inn, .int .i64 t.accr, .int .i64 t.chrg, .int .i64 t.late, .int .i64 t.buck]] w (PostPost 52 w B base v gs closed (postR gs.length closed day loan f t)) := by
  have HR := Lib.hid (show postR gs.length closed day loan f t = (errLed f t, none) by rw [postR, if_neg hd, if_neg (by rw [hn]; decide), if_pos he])
  have h1 : ¬ day < -719162 := by omega
  have h2 : ¬ 2932896 < day := by omega
  have hlo := hj.lo
  have hhi := hj.hi
  have hmany := hj.many
  have HN := Lib.hid hn
  have he' : (errLed f t != 0) = true := by simpa using he
  clear he
  clear hn hd
  obtain ⟨Av, cv, hv⟩ := hj.own.shape
  subst hv
  rw [hj.len] at *
  go_enter Try.func7, Try.ntmps7
  go_wp2_with fail
  refine (name_any loan _ hl).mono ?_
  rintro e w1 ⟨rfl, hb1⟩
  have HB1 := Lib.hid (below_then (below3 w (.cells #[.int .i64 f.day, .int .i64 f.rate, .int .i64 f.prin, .int .i64 f.intr, .int .i64 f.fees, .int .i64 f.cred, .int .i64 f.out, .int .i64 f.inn, .int .i64 f.accr, .int .i64 f.chrg, .int .i64 f.late, .int .i64 f.buck] 29) (.cells #[.int .i64 t.day, .int .i64 t.rate, .int .i64 t.prin, .int .i64 t.intr, .int .i64 t.fees, .int .i64 t.cred, .int .i64 t.out, .int .i64 t.inn, .int .i64 t.accr, .int .i64 t.chrg, .int .i64 t.late, .int .i64 t.buck] 29) (.cells #[.int .i64 0, .int .i64 0, .string ⟨#[]⟩, .slice none 0 0] 34)) (by simp; omega) hb1)
  have k0 := Lib.hid (keep_blk hb1 (heap3_0 w (.cells #[.int .i64 f.day, .int .i64 f.rate, .int .i64 f.prin, .int .i64 f.intr, .int .i64 f.fees, .int .i64 f.cred, .int .i64 f.out, .int .i64 f.inn, .int .i64 f.accr, .int .i64 f.chrg, .int .i64 f.late, .int .i64 f.buck] 29) (.cells #[.int .i64 t.day, .int .i64 t.rate, .int .i64 t.prin, .int .i64 t.intr, .int .i64 t.fees, .int .i64 t.cred, .int .i64 t.out, .int .i64 t.inn, .int .i64 t.accr, .int .i64 t.chrg, .int .i64 t.late, .int .i64 t.buck] 29) (.cells #[.int .i64 0, .int .i64 0, .string ⟨#[]⟩, .slice none 0 0] 34)))
  have k1 := Lib.hid (keep_blk hb1 (heap3_1 w (.cells #[.int .i64 f.day, .int .i64 f.rate, .int .i64 f.prin, .int .i64 f.intr, .int .i64 f.fees, .int .i64 f.cred, .int .i64 f.out, .int .i64 f.inn, .int .i64 f.accr, .int .i64 f.chrg, .int .i64 f.late, .int .i64 f.buck] 29) (.cells #[.int .i64 t.day, .int .i64 t.rate, .int .i64 t.prin, .int .i64 t.intr, .int .i64 t.fees, .int .i64 t.cred, .int .i64 t.out, .int .i64 t.inn, .int .i64 t.accr, .int .i64 t.chrg, .int .i64 t.late, .int .i64 t.buck] 29) (.cells #[.int .i64 0, .int .i64 0, .string ⟨#[]⟩, .slice none 0 0] 34)))
  have k2 := Lib.hid (keep_blk hb1 (heap3_2 w (.cells #[.int .i64 f.day, .int .i64 f.rate, .int .i64 f.prin, .int .i64 f.intr, .int .i64 f.fees, .int .i64 f.cred, .int .i64 f.out, .int .i64 f.inn, .int .i64 f.accr, .int .i64 f.chrg, .int .i64 f.late, .int .i64 f.buck] 29) (.cells #[.int .i64 t.day, .int .i64 t.rate, .int .i64 t.prin, .int .i64 t.intr, .int .i64 t.fees, .int .i64 t.cred, .int .i64 t.out, .int .i64 t.inn, .int .i64 t.accr, .int .i64 t.chrg, .int .i64 t.late, .int .i64 t.buck] 29) (.cells #[.int .i64 0, .int .i64 0, .string ⟨#[]⟩, .slice none 0 0] 34)))
  clear hb1
  rw [HN.out]
  obtain ⟨c0, f0, z0⟩ := blk_cells k0.out
  obtain ⟨c1, f1, z1⟩ := blk_cells k1.out
  go_wp2_with fail
  refine (lines_any f t _).mono ?_
  rintro e w2 ⟨lv, rfl, hown, hb2⟩
  obtain ⟨Al, cl, hlv⟩ := hown.shape
  subst hlv
  have HB2 := Lib.hid (below_then HB1.out HB1.out.size hb2)
  have kr := Lib.hid (keep_blk hb2 k2.out)
  have kj := Lib.hid (keep_blk HB2.out hj.blk)
  have HO := Lib.hid hown
  clear hb2 hown c0 f0 z0 c1 f1 z1
  obtain ⟨c2, f2, z2⟩ := blk_cells kr.out
  obtain ⟨c3, f3, z3⟩ := blk_cells kj.out
  go_wp2_with fail
  refine bodyPost_ret (v := .tuple #[.agg #[.int .i64 0, .int .i64 0, .string ⟨#[]⟩, .slice none 0 0], .bool false, .int .i64 (errLed f t)]) (by simp [results, Try.results7, go_sem, c2]) rfl ?_
  refine post_none hj ?_ HR.out
  repeat (first | exact HB2.out | refine Below.setCell ?_ (by simp; try omega) _)

set_option maxHeartbeats 1000000 in
theorem post_long (B base : Nat) (v : Value) (ps : List Pv) (gs : List Pg) (closed day : Int) (loan : ByteArray) (f t : St) (w : World)
    (hj : JR 52 w B base v ps gs closed) (hl : loan.size ≤ 9223372036854775807) (hd : ¬ (day < -719162 ∨ 2932896 < day)) (hn : nameB loan = true) (he : errLed f t = 0) (hm : gs.length = 65536) :
    Calls Try.prog 7 #[.pointer (some ⟨B, 0, none⟩), .int .i64 day, .string loan, .agg #[.int .i64 f.day, .int .i64 f.rate, .int .i64 f.prin, .int .i64 f.intr, .int .i64 f.fees, .int .i64 f.cred, .int .i64 f.out, .int .i64 f.inn, .int .i64 f.accr, .int .i64 f.chrg, .int .i64 f.late, .int .i64 f.buck], .agg #[.int .i64 t.day, .int .i64 t.rate, .int .i64 t.prin, .int .i64 t.intr, .int .i64 t.fees, .int .i64 t.cred, .int .i64 t.out, .int .i64 t.inn, .int .i64 t.accr, .int .i64 t.chrg, .int .i64 t.late, .int .i64 t.buck]] w (PostPost 52 w B base v gs closed (postR gs.length closed day loan f t)) := by
  have HR := Lib.hid (show postR gs.length closed day loan f t = (3, none) by rw [postR, if_neg hd, if_neg (by rw [hn]; decide), if_neg (by rw [he]; decide), if_pos hm])
  have h1 : ¬ day < -719162 := by omega
  have h2 : ¬ 2932896 < day := by omega
  have hlo := hj.lo
  have hhi := hj.hi
  have hmany := hj.many
  have HN := Lib.hid hn
  have HE := Lib.hid he
  clear he
  have hm' : ((gs.length : Int) == 65536) = true := by simp [hm]
  clear hm
  clear hn hd
  obtain ⟨Av, cv, hv⟩ := hj.own.shape
  subst hv
  rw [hj.len] at *
  go_enter Try.func7, Try.ntmps7
  go_wp2_with fail
  refine (name_any loan _ hl).mono ?_
  rintro e w1 ⟨rfl, hb1⟩
  have HB1 := Lib.hid (below_then (below3 w (.cells #[.int .i64 f.day, .int .i64 f.rate, .int .i64 f.prin, .int .i64 f.intr, .int .i64 f.fees, .int .i64 f.cred, .int .i64 f.out, .int .i64 f.inn, .int .i64 f.accr, .int .i64 f.chrg, .int .i64 f.late, .int .i64 f.buck] 29) (.cells #[.int .i64 t.day, .int .i64 t.rate, .int .i64 t.prin, .int .i64 t.intr, .int .i64 t.fees, .int .i64 t.cred, .int .i64 t.out, .int .i64 t.inn, .int .i64 t.accr, .int .i64 t.chrg, .int .i64 t.late, .int .i64 t.buck] 29) (.cells #[.int .i64 0, .int .i64 0, .string ⟨#[]⟩, .slice none 0 0] 34)) (by simp; omega) hb1)
  have k0 := Lib.hid (keep_blk hb1 (heap3_0 w (.cells #[.int .i64 f.day, .int .i64 f.rate, .int .i64 f.prin, .int .i64 f.intr, .int .i64 f.fees, .int .i64 f.cred, .int .i64 f.out, .int .i64 f.inn, .int .i64 f.accr, .int .i64 f.chrg, .int .i64 f.late, .int .i64 f.buck] 29) (.cells #[.int .i64 t.day, .int .i64 t.rate, .int .i64 t.prin, .int .i64 t.intr, .int .i64 t.fees, .int .i64 t.cred, .int .i64 t.out, .int .i64 t.inn, .int .i64 t.accr, .int .i64 t.chrg, .int .i64 t.late, .int .i64 t.buck] 29) (.cells #[.int .i64 0, .int .i64 0, .string ⟨#[]⟩, .slice none 0 0] 34)))
  have k1 := Lib.hid (keep_blk hb1 (heap3_1 w (.cells #[.int .i64 f.day, .int .i64 f.rate, .int .i64 f.prin, .int .i64 f.intr, .int .i64 f.fees, .int .i64 f.cred, .int .i64 f.out, .int .i64 f.inn, .int .i64 f.accr, .int .i64 f.chrg, .int .i64 f.late, .int .i64 f.buck] 29) (.cells #[.int .i64 t.day, .int .i64 t.rate, .int .i64 t.prin, .int .i64 t.intr, .int .i64 t.fees, .int .i64 t.cred, .int .i64 t.out, .int .i64 t.inn, .int .i64 t.accr, .int .i64 t.chrg, .int .i64 t.late, .int .i64 t.buck] 29) (.cells #[.int .i64 0, .int .i64 0, .string ⟨#[]⟩, .slice none 0 0] 34)))
  have k2 := Lib.hid (keep_blk hb1 (heap3_2 w (.cells #[.int .i64 f.day, .int .i64 f.rate, .int .i64 f.prin, .int .i64 f.intr, .int .i64 f.fees, .int .i64 f.cred, .int .i64 f.out, .int .i64 f.inn, .int .i64 f.accr, .int .i64 f.chrg, .int .i64 f.late, .int .i64 f.buck] 29) (.cells #[.int .i64 t.day, .int .i64 t.rate, .int .i64 t.prin, .int .i64 t.intr, .int .i64 t.fees, .int .i64 t.cred, .int .i64 t.out, .int .i64 t.inn, .int .i64 t.accr, .int .i64 t.chrg, .int .i64 t.late, .int .i64 t.buck] 29) (.cells #[.int .i64 0, .int .i64 0, .string ⟨#[]⟩, .slice none 0 0] 34)))
  clear hb1
  rw [HN.out]
  obtain ⟨c0, f0, z0⟩ := blk_cells k0.out
  obtain ⟨c1, f1, z1⟩ := blk_cells k1.out
  go_wp2_with fail
  refine (lines_any f t _).mono ?_
  rintro e w2 ⟨lv, rfl, hown, hb2⟩
  obtain ⟨Al, cl, hlv⟩ := hown.shape
  subst hlv
  have HB2 := Lib.hid (below_then HB1.out HB1.out.size hb2)
  have kr := Lib.hid (keep_blk hb2 k2.out)
  have kj := Lib.hid (keep_blk HB2.out hj.blk)
  have HO := Lib.hid hown
  clear hb2 hown c0 f0 z0 c1 f1 z1
  obtain ⟨c2, f2, z2⟩ := blk_cells kr.out
  obtain ⟨c3, f3, z3⟩ := blk_cells kj.out
  rw [HE.out]
  go_wp2_with fail
  refine bodyPost_ret (v := .tuple #[.agg #[.int .i64 0, .int .i64 0, .string ⟨#[]⟩, .slice none 0 0], .bool false, .int .i64 (3)]) (by simp [results, Try.results7, go_sem, c2]) rfl ?_
  refine post_none hj ?_ HR.out
  repeat (first | exact HB2.out | refine Below.setCell ?_ (by simp; try omega) _)

set_option maxHeartbeats 1000000 in
theorem post_late (B base : Nat) (v : Value) (ps : List Pv) (gs : List Pg) (closed day : Int) (loan : ByteArray) (f t : St) (w : World)
    (hj : JR 52 w B base v ps gs closed) (hl : loan.size ≤ 9223372036854775807) (hd : ¬ (day < -719162 ∨ 2932896 < day)) (hn : nameB loan = true) (he : errLed f t = 0) (hm : ¬ gs.length = 65536) (hx : 2932896 < max day (closed + 1)) :
    Calls Try.prog 7 #[.pointer (some ⟨B, 0, none⟩), .int .i64 day, .string loan, .agg #[.int .i64 f.day, .int .i64 f.rate, .int .i64 f.prin, .int .i64 f.intr, .int .i64 f.fees, .int .i64 f.cred, .int .i64 f.out, .int .i64 f.inn, .int .i64 f.accr, .int .i64 f.chrg, .int .i64 f.late, .int .i64 f.buck], .agg #[.int .i64 t.day, .int .i64 t.rate, .int .i64 t.prin, .int .i64 t.intr, .int .i64 t.fees, .int .i64 t.cred, .int .i64 t.out, .int .i64 t.inn, .int .i64 t.accr, .int .i64 t.chrg, .int .i64 t.late, .int .i64 t.buck]] w (PostPost 52 w B base v gs closed (postR gs.length closed day loan f t)) := by
  have HR := Lib.hid (show postR gs.length closed day loan f t = (6, none) by rw [postR, if_neg hd, if_neg (by rw [hn]; decide), if_neg (by rw [he]; decide), if_neg hm, if_pos hx])
  have h1 : ¬ day < -719162 := by omega
  have h2 : ¬ 2932896 < day := by omega
  have hlo := hj.lo
  have hhi := hj.hi
  have hmany := hj.many
  have HN := Lib.hid hn
  have HE := Lib.hid he
  clear he
  clear hn hd
  obtain ⟨Av, cv, hv⟩ := hj.own.shape
  subst hv
  rw [hj.len] at *
  go_enter Try.func7, Try.ntmps7
  go_wp2_with fail
  refine (name_any loan _ hl).mono ?_
  rintro e w1 ⟨rfl, hb1⟩
  have HB1 := Lib.hid (below_then (below3 w (.cells #[.int .i64 f.day, .int .i64 f.rate, .int .i64 f.prin, .int .i64 f.intr, .int .i64 f.fees, .int .i64 f.cred, .int .i64 f.out, .int .i64 f.inn, .int .i64 f.accr, .int .i64 f.chrg, .int .i64 f.late, .int .i64 f.buck] 29) (.cells #[.int .i64 t.day, .int .i64 t.rate, .int .i64 t.prin, .int .i64 t.intr, .int .i64 t.fees, .int .i64 t.cred, .int .i64 t.out, .int .i64 t.inn, .int .i64 t.accr, .int .i64 t.chrg, .int .i64 t.late, .int .i64 t.buck] 29) (.cells #[.int .i64 0, .int .i64 0, .string ⟨#[]⟩, .slice none 0 0] 34)) (by simp; omega) hb1)
  have k0 := Lib.hid (keep_blk hb1 (heap3_0 w (.cells #[.int .i64 f.day, .int .i64 f.rate, .int .i64 f.prin, .int .i64 f.intr, .int .i64 f.fees, .int .i64 f.cred, .int .i64 f.out, .int .i64 f.inn, .int .i64 f.accr, .int .i64 f.chrg, .int .i64 f.late, .int .i64 f.buck] 29) (.cells #[.int .i64 t.day, .int .i64 t.rate, .int .i64 t.prin, .int .i64 t.intr, .int .i64 t.fees, .int .i64 t.cred, .int .i64 t.out, .int .i64 t.inn, .int .i64 t.accr, .int .i64 t.chrg, .int .i64 t.late, .int .i64 t.buck] 29) (.cells #[.int .i64 0, .int .i64 0, .string ⟨#[]⟩, .slice none 0 0] 34)))
  have k1 := Lib.hid (keep_blk hb1 (heap3_1 w (.cells #[.int .i64 f.day, .int .i64 f.rate, .int .i64 f.prin, .int .i64 f.intr, .int .i64 f.fees, .int .i64 f.cred, .int .i64 f.out, .int .i64 f.inn, .int .i64 f.accr, .int .i64 f.chrg, .int .i64 f.late, .int .i64 f.buck] 29) (.cells #[.int .i64 t.day, .int .i64 t.rate, .int .i64 t.prin, .int .i64 t.intr, .int .i64 t.fees, .int .i64 t.cred, .int .i64 t.out, .int .i64 t.inn, .int .i64 t.accr, .int .i64 t.chrg, .int .i64 t.late, .int .i64 t.buck] 29) (.cells #[.int .i64 0, .int .i64 0, .string ⟨#[]⟩, .slice none 0 0] 34)))
  have k2 := Lib.hid (keep_blk hb1 (heap3_2 w (.cells #[.int .i64 f.day, .int .i64 f.rate, .int .i64 f.prin, .int .i64 f.intr, .int .i64 f.fees, .int .i64 f.cred, .int .i64 f.out, .int .i64 f.inn, .int .i64 f.accr, .int .i64 f.chrg, .int .i64 f.late, .int .i64 f.buck] 29) (.cells #[.int .i64 t.day, .int .i64 t.rate, .int .i64 t.prin, .int .i64 t.intr, .int .i64 t.fees, .int .i64 t.cred, .int .i64 t.out, .int .i64 t.inn, .int .i64 t.accr, .int .i64 t.chrg, .int .i64 t.late, .int .i64 t.buck] 29) (.cells #[.int .i64 0, .int .i64 0, .string ⟨#[]⟩, .slice none 0 0] 34)))
  clear hb1
  rw [HN.out]
  obtain ⟨c0, f0, z0⟩ := blk_cells k0.out
  obtain ⟨c1, f1, z1⟩ := blk_cells k1.out
  go_wp2_with fail
  refine (lines_any f t _).mono ?_
  rintro e w2 ⟨lv, rfl, hown, hb2⟩
  obtain ⟨Al, cl, hlv⟩ := hown.shape
  subst hlv
  have HB2 := Lib.hid (below_then HB1.out HB1.out.size hb2)
  have kr := Lib.hid (keep_blk hb2 k2.out)
  have kj := Lib.hid (keep_blk HB2.out hj.blk)
  have HO := Lib.hid hown
  clear hb2 hown c0 f0 z0 c1 f1 z1
  obtain ⟨c2, f2, z2⟩ := blk_cells kr.out
  obtain ⟨c3, f3, z3⟩ := blk_cells kj.out
  rw [HE.out]
  go_wp2_with fail
  refine bodyPost_ret (v := .tuple #[.agg #[.int .i64 0, .int .i64 0, .string ⟨#[]⟩, .slice none 0 0], .bool false, .int .i64 (6)]) (by simp [results, Try.results7, go_sem, c2]) rfl ?_
  refine post_none hj ?_ HR.out
  repeat (first | exact HB2.out | refine Below.setCell ?_ (by simp; try omega) _)

set_option maxHeartbeats 1000000 in
theorem post_same (B base : Nat) (v : Value) (ps : List Pv) (gs : List Pg) (closed day : Int) (loan : ByteArray) (f t : St) (w : World)
    (hj : JR 52 w B base v ps gs closed) (hl : loan.size ≤ 9223372036854775807) (hd : ¬ (day < -719162 ∨ 2932896 < day)) (hn : nameB loan = true) (he : errLed f t = 0) (hm : ¬ gs.length = 65536) (hx : ¬ 2932896 < max day (closed + 1)) (hz : (resLed f t).length = 0) :
    Calls Try.prog 7 #[.pointer (some ⟨B, 0, none⟩), .int .i64 day, .string loan, .agg #[.int .i64 f.day, .int .i64 f.rate, .int .i64 f.prin, .int .i64 f.intr, .int .i64 f.fees, .int .i64 f.cred, .int .i64 f.out, .int .i64 f.inn, .int .i64 f.accr, .int .i64 f.chrg, .int .i64 f.late, .int .i64 f.buck], .agg #[.int .i64 t.day, .int .i64 t.rate, .int .i64 t.prin, .int .i64 t.intr, .int .i64 t.fees, .int .i64 t.cred, .int .i64 t.out, .int .i64 t.inn, .int .i64 t.accr, .int .i64 t.chrg, .int .i64 t.late, .int .i64 t.buck]] w (PostPost 52 w B base v gs closed (postR gs.length closed day loan f t)) := by
  have HR := Lib.hid (show postR gs.length closed day loan f t = (0, none) by rw [postR, if_neg hd, if_neg (by rw [hn]; decide), if_neg (by rw [he]; decide), if_neg hm, if_neg hx, if_pos hz])
  have h1 : ¬ day < -719162 := by omega
  have h2 : ¬ 2932896 < day := by omega
  have hlo := hj.lo
  have hhi := hj.hi
  have hmany := hj.many
  have HN := Lib.hid hn
  have HE := Lib.hid he
  clear he
  have hz' : (((resLed f t).length : Int) == 0) = true := by simp [hz]
  clear hz
  clear hn hd
  obtain ⟨Av, cv, hv⟩ := hj.own.shape
  subst hv
  rw [hj.len] at *
  go_enter Try.func7, Try.ntmps7
  go_wp2_with fail
  refine (name_any loan _ hl).mono ?_
  rintro e w1 ⟨rfl, hb1⟩
  have HB1 := Lib.hid (below_then (below3 w (.cells #[.int .i64 f.day, .int .i64 f.rate, .int .i64 f.prin, .int .i64 f.intr, .int .i64 f.fees, .int .i64 f.cred, .int .i64 f.out, .int .i64 f.inn, .int .i64 f.accr, .int .i64 f.chrg, .int .i64 f.late, .int .i64 f.buck] 29) (.cells #[.int .i64 t.day, .int .i64 t.rate, .int .i64 t.prin, .int .i64 t.intr, .int .i64 t.fees, .int .i64 t.cred, .int .i64 t.out, .int .i64 t.inn, .int .i64 t.accr, .int .i64 t.chrg, .int .i64 t.late, .int .i64 t.buck] 29) (.cells #[.int .i64 0, .int .i64 0, .string ⟨#[]⟩, .slice none 0 0] 34)) (by simp; omega) hb1)
  have k0 := Lib.hid (keep_blk hb1 (heap3_0 w (.cells #[.int .i64 f.day, .int .i64 f.rate, .int .i64 f.prin, .int .i64 f.intr, .int .i64 f.fees, .int .i64 f.cred, .int .i64 f.out, .int .i64 f.inn, .int .i64 f.accr, .int .i64 f.chrg, .int .i64 f.late, .int .i64 f.buck] 29) (.cells #[.int .i64 t.day, .int .i64 t.rate, .int .i64 t.prin, .int .i64 t.intr, .int .i64 t.fees, .int .i64 t.cred, .int .i64 t.out, .int .i64 t.inn, .int .i64 t.accr, .int .i64 t.chrg, .int .i64 t.late, .int .i64 t.buck] 29) (.cells #[.int .i64 0, .int .i64 0, .string ⟨#[]⟩, .slice none 0 0] 34)))
  have k1 := Lib.hid (keep_blk hb1 (heap3_1 w (.cells #[.int .i64 f.day, .int .i64 f.rate, .int .i64 f.prin, .int .i64 f.intr, .int .i64 f.fees, .int .i64 f.cred, .int .i64 f.out, .int .i64 f.inn, .int .i64 f.accr, .int .i64 f.chrg, .int .i64 f.late, .int .i64 f.buck] 29) (.cells #[.int .i64 t.day, .int .i64 t.rate, .int .i64 t.prin, .int .i64 t.intr, .int .i64 t.fees, .int .i64 t.cred, .int .i64 t.out, .int .i64 t.inn, .int .i64 t.accr, .int .i64 t.chrg, .int .i64 t.late, .int .i64 t.buck] 29) (.cells #[.int .i64 0, .int .i64 0, .string ⟨#[]⟩, .slice none 0 0] 34)))
  have k2 := Lib.hid (keep_blk hb1 (heap3_2 w (.cells #[.int .i64 f.day, .int .i64 f.rate, .int .i64 f.prin, .int .i64 f.intr, .int .i64 f.fees, .int .i64 f.cred, .int .i64 f.out, .int .i64 f.inn, .int .i64 f.accr, .int .i64 f.chrg, .int .i64 f.late, .int .i64 f.buck] 29) (.cells #[.int .i64 t.day, .int .i64 t.rate, .int .i64 t.prin, .int .i64 t.intr, .int .i64 t.fees, .int .i64 t.cred, .int .i64 t.out, .int .i64 t.inn, .int .i64 t.accr, .int .i64 t.chrg, .int .i64 t.late, .int .i64 t.buck] 29) (.cells #[.int .i64 0, .int .i64 0, .string ⟨#[]⟩, .slice none 0 0] 34)))
  clear hb1
  rw [HN.out]
  obtain ⟨c0, f0, z0⟩ := blk_cells k0.out
  obtain ⟨c1, f1, z1⟩ := blk_cells k1.out
  go_wp2_with fail
  refine (lines_any f t _).mono ?_
  rintro e w2 ⟨lv, rfl, hown, hb2⟩
  obtain ⟨Al, cl, hlv⟩ := hown.shape
  subst hlv
  have HB2 := Lib.hid (below_then HB1.out HB1.out.size hb2)
  have kr := Lib.hid (keep_blk hb2 k2.out)
  have kj := Lib.hid (keep_blk HB2.out hj.blk)
  have HO := Lib.hid hown
  clear hb2 hown c0 f0 z0 c1 f1 z1
  obtain ⟨c2, f2, z2⟩ := blk_cells kr.out
  obtain ⟨c3, f3, z3⟩ := blk_cells kj.out
  rw [HE.out]
  go_wp2_with fail
  refine bodyPost_ret (v := .tuple #[.agg #[.int .i64 0, .int .i64 0, .string ⟨#[]⟩, .slice none 0 0], .bool false, .int .i64 (0)]) (by simp [results, Try.results7, go_sem, c2]) rfl ?_
  refine post_none hj ?_ HR.out
  repeat (first | exact HB2.out | refine Below.setCell ?_ (by simp; try omega) _)

theorem post_any (B base : Nat) (v : Value) (ps : List Pv) (gs : List Pg) (closed day : Int) (loan : ByteArray) (f t : St) (w : World)
    (hj : JR 52 w B base v ps gs closed) (hbase : base ≤ w.heap.size) (hl : loan.size ≤ 9223372036854775807) :
    Calls Try.prog 7 #[.pointer (some ⟨B, 0, none⟩), .int .i64 day, .string loan, .agg #[.int .i64 f.day, .int .i64 f.rate, .int .i64 f.prin, .int .i64 f.intr, .int .i64 f.fees, .int .i64 f.cred, .int .i64 f.out, .int .i64 f.inn, .int .i64 f.accr, .int .i64 f.chrg, .int .i64 f.late, .int .i64 f.buck], .agg #[.int .i64 t.day, .int .i64 t.rate, .int .i64 t.prin, .int .i64 t.intr, .int .i64 t.fees, .int .i64 t.cred, .int .i64 t.out, .int .i64 t.inn, .int .i64 t.accr, .int .i64 t.chrg, .int .i64 t.late, .int .i64 t.buck]] w (PostPost 52 w B base v gs closed (postR gs.length closed day loan f t)) := by
  by_cases hd : day < -719162 ∨ 2932896 < day
  · rcases hd with hd | hd
    · exact post_lo B base v ps gs closed day loan f t w hj hd
    · exact post_hi B base v ps gs closed day loan f t w hj hd
  · by_cases hn : nameB loan = true
    · by_cases he : errLed f t = 0
      · by_cases hm : gs.length = 65536
        · exact post_long B base v ps gs closed day loan f t w hj hl hd hn he hm
        · by_cases hx : 2932896 < max day (closed + 1)
          · exact post_late B base v ps gs closed day loan f t w hj hl hd hn he hm hx
          · by_cases hz : (resLed f t).length = 0
            · exact post_same B base v ps gs closed day loan f t w hj hl hd hn he hm hx hz
            · exact post_ok B base v ps gs closed day loan f t w hj hbase hl hd hn he hm hx hz
      · exact post_err B base v ps gs closed day loan f t w hj hl hd hn he
    · exact post_name B base v ps gs closed day loan f t w hj hl hd (by simpa using hn)

end Go.Proofs.Ytegmobdpbaeijaa
