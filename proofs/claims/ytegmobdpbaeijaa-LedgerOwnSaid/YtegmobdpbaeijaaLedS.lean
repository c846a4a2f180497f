/- The law's start: the packages answer. -/
import Derived.Test.YtegmobdpbaeijaaLedR
namespace Go.Proofs.Ytegmobdpbaeijaa
open Go.RowKit

def St.nul : St := ⟨0, 0, 0, 0, 0, 0, 0, 0, 0, 0, 0, 0⟩
def St.one : St := ⟨0, 0, 10000, 0, 0, 0, 10000, 0, 0, 0, 0, 0⟩
def St.two : St := ⟨0, 0, 1, 0, 0, 0, 0, 0, 0, 0, 0, 0⟩
theorem w_e1 : errLed .nul .one = 0 := by decide +kernel
theorem w_e2 : errLed .nul .two = 52 := by decide +kernel
theorem w_r1 : resLed .nul .one = [⟨1, -10000⟩, ⟨2, 10000⟩] := by decide +kernel
theorem w_post : postR 0 5 3 ⟨#[97]⟩ .nul .one = (0, some ⟨1, 6, ⟨#[97]⟩, [⟨1, -10000⟩, ⟨2, 10000⟩]⟩) := by
  rw [postR, if_neg (by decide), if_neg (by decide), if_neg (by rw [w_e1]; decide), if_neg (by decide), if_neg (by decide), if_neg (by rw [w_r1]; decide), w_r1]
  rfl

def twoL : List Ln := [⟨1, -10000⟩, ⟨2, 10000⟩]
theorem post_w (B base : Nat) (w : World) (hj : JR 52 w B base (.slice none 0 0) [] [] 5) (hb : base ≤ w.heap.size) :
    Calls Try.prog 7 #[.pointer (some ⟨B, 0, none⟩), .int .i64 3, .string ⟨#[97]⟩, .agg #[.int .i64 St.nul.day, .int .i64 St.nul.rate, .int .i64 St.nul.prin, .int .i64 St.nul.intr, .int .i64 St.nul.fees, .int .i64 St.nul.cred, .int .i64 St.nul.out, .int .i64 St.nul.inn, .int .i64 St.nul.accr, .int .i64 St.nul.chrg, .int .i64 St.nul.late, .int .i64 St.nul.buck], .agg #[.int .i64 St.one.day, .int .i64 St.one.rate, .int .i64 St.one.prin, .int .i64 St.one.intr, .int .i64 St.one.fees, .int .i64 St.one.cred, .int .i64 St.one.out, .int .i64 St.one.inn, .int .i64 St.one.accr, .int .i64 St.one.chrg, .int .i64 St.one.late, .int .i64 St.one.buck]] w fun e w' =>
      ∃ A c, e = .returned (.tuple #[.agg #[.int .i64 1, .int .i64 6, .string ⟨#[97]⟩, .slice A 2 c], .bool true, .int .i64 0]) ∧ Own w' w.heap.size 41 2 Ln.enc (.slice A 2 c) twoL ∧ Mods (fun k => k = B) w w' := by
  refine (post_any B base _ [] [] 5 3 ⟨#[97]⟩ .nul .one _ hj hb (by decide)).mono ?_
  rw [show postR ([] : List Pg).length 5 3 ⟨#[97]⟩ .nul .one = (0, some ⟨1, 6, ⟨#[97]⟩, twoL⟩) from w_post]
  rintro e w5 ⟨v5, ps5, ⟨pn, pd, pl, pls⟩, rfl, _, hd5, _, hm5, _⟩
  obtain ⟨hn, hd, hl, hl5⟩ := hd5
  obtain ⟨A5, c5, hs5⟩ := Own.shape hl5
  simp only [Option.getD_some] at hn hd hl hl5 hs5
  subst hn hd hl hs5
  exact ⟨A5, c5, rfl, hl5, hm5.mono fun i _ h => h.elim id fun h => by cases h⟩

set_option maxHeartbeats 1000000 in
theorem wakes_any (w : World) : Calls Try.prog 4 #[] w fun e w' => e = .returned (.bool true) ∧ Below w.heap.size w w' := by
  go_enter Try.func4, Try.ntmps4
  go_wp2_with fail
  refine (lines_any .nul .one _).mono ?_
  rintro e w1 ⟨l1, rfl, hown1, hb1⟩
  have H1 := Lib.hid hown1
  have B1 := Lib.hid hb1
  rw [w_e1]
  rw [w_r1] at H1
  clear hown1 hb1
  go_wp2_with fail
  refine (lines_any .nul .two _).mono ?_
  rintro e w2 ⟨l2, rfl, hown2, hb2⟩
  have B2 := Lib.hid (below_then B1.out B1.out.size hb2)
  have H2 := Lib.hid (H1.out.below hb2)
  rw [w_e2]
  clear hown2 hb2 H1 B1
  go_wp2_with fail
  refine (newJ_any _).mono ?_
  rintro e w3 ⟨rfl, rfl⟩
  have HJ := Lib.hid (JR.new 52 w2 w.heap.size)
  have B3 := Lib.hid (B2.out.alloc B2.out.size (.cells #[.slice none 0 0, .int .i64 (-719163)] 52))
  have H3 := Lib.hid (H2.out.alloc (.cells #[.slice none 0 0, .int .i64 (-719163)] 52))
  have hz2 : w.heap.size ≤ w2.heap.size := B2.out.size
  obtain ⟨w3, hw3⟩ : ∃ w3, w2.alloc (.cells #[.slice none 0 0, .int .i64 (-719163)] 52) = w3 := ⟨_, rfl⟩
  rw [hw3] at HJ B3 H3 ⊢
  have HW3 := Lib.hid hw3
  have H2s := Lib.hid (show ∀ b, l1.ownBlock = some b → b < w2.heap.size from fun b hb => (H2.out.lt hb).2)
  clear hw3 H2
  go_wp2_with fail
  refine (closed_any w2.heap.size w.heap.size _ [] [] (-719163) _ HJ.out).mono ?_
  rintro e w' ⟨rfl, rfl⟩
  go_wp2_with fail
  refine (close_ok w2.heap.size w.heap.size _ [] [] (-719163) 5 _ HJ.out (by omega) (by omega) (by omega)).mono ?_
  rintro e w4 ⟨rfl, hj4, hm4⟩
  have HJ4 := Lib.hid hj4
  have HM4 := Lib.hid hm4
  clear hj4 hm4
  go_wp2_with fail
  refine (close_no w2.heap.size w.heap.size _ [] [] 5 5 _ HJ4.out (by omega) (by omega) (by omega)).mono ?_
  rintro e w' ⟨rfl, rfl⟩
  go_wp2_with fail
  have hs4 := HM4.out.size
  have hs3 := B3.out.size
  refine (post_w w2.heap.size w.heap.size _ HJ4.out (by omega)).mono ?_
  rintro e w5 ⟨A5, c5, rfl, hl5, hm5⟩
  have hne : ∀ b, l1.ownBlock = some b → b ≠ w2.heap.size := fun b hb => Nat.ne_of_lt (H2s.out b hb)
  have h15 := ((H3.out.mods HM4.out hne).mods hm5 hne)
  have HB5 : Below w.heap.size w w5 := (B3.out.trans (HM4.out.below hs3 fun i hi => by omega)).trans (hm5.below (by omega) fun i hi => by omega)
  have B5 := Lib.hid HB5
  have H15 := Lib.hid (h15.sl Ln.enc_len)
  have H5 := Lib.hid (hl5.sl Ln.enc_len)
  clear hm5 hl5 hne h15 HB5
  go_wp2_with fail
  refine (t_sameL l1 _ twoL _ (H15.out.below (((Below.refl _ _).alloc (Nat.le_refl _) _).alloc (by simp) _)) (Sl.of_blk (xs := twoL) Ln.enc_len (heap_alloc2_new w5 _ _) rfl (by decide))).mono ?_
  rintro e w6 ⟨rfl, hb6⟩
  have hbx := keep_blk hb6 (heap_alloc2_old w5 (.cells #[.int .i64 1, .int .i64 6, .string ⟨#[97]⟩, .slice A5 2 c5] 34) (.cells #[.int .i64 1, .int .i64 (-10000), .int .i64 2, .int .i64 10000] 41))
  have hb56 : Below w5.heap.size w5 w6 := below_then (((Below.refl _ _).alloc (Nat.le_refl _) _).alloc (by simp) _) (by simp; omega) hb6
  have HB6 := Lib.hid (below_then B5.out B5.out.size hb56)
  have H16 := Lib.hid (H15.out.below hb56)
  have H56 := Lib.hid (H5.out.below hb56)
  obtain ⟨c6, f6, z6⟩ := blk_cells hbx
  clear hb6 hb56 hbx
  go_wp2_with fail
  refine (t_sameL _ l1 twoL _ H56.out H16.out).mono ?_
  rintro e w7 ⟨rfl, hb7⟩
  have HB7 := Lib.hid (below_then HB6.out HB6.out.size hb7)
  clear hb7
  go_wp2_with fail
  go_ret
  exact ⟨rfl, HB7.out⟩

end Go.Proofs.Ytegmobdpbaeijaa
