/- The law's question: are all answers alike? -/
import Derived.Test.YtegmobdpbaeijaaLedQ
import Derived.Test.YtegmobdpbaeijaaLedM
import Derived.Deep.RegionHeld3
import Derived.Deep.DrawnRows
namespace Go.Proofs.Ytegmobdpbaeijaa
open Go.RowKit
attribute [local go_sem ↓] Go.wp_at_zero Go.wp_at_succ

/-- What told's regions read, in a world that has grown. -/
abbrev ToldC (w : World) (C : Array Value) (Br : Nat) (day to_ : Int) (loan : ByteArray) (sl : Value) (closed : Int) (W : World) : Prop :=
  (Below w.heap.size w W ∧ W.heap[w.heap.size]? = some (.cells C 31)) ∧ W.cell? ⟨w.heap.size, 1, none⟩ = some (.int .i64 day) ∧ W.cell? ⟨w.heap.size, 2, none⟩ = some (.int .i64 to_) ∧
    W.cell? ⟨w.heap.size, 3, none⟩ = some (.string loan) ∧ W.cell? ⟨Br, 0, none⟩ = some sl ∧ W.cell? ⟨Br, 1, none⟩ = some (.int .i64 closed)
def ToldH (w : World) (C : Array Value) (Br : Nat) (day to_ : Int) (loan : ByteArray) (sl : Value) (closed : Int) (W : World) : Prop := ToldC w C Br day to_ loan sl closed W
theorem ToldH.out {w : World} {C : Array Value} {Br : Nat} {day to_ : Int} {loan : ByteArray} {sl : Value} {closed : Int} {W : World} (h : ToldH w C Br day to_ loan sl closed W) : ToldC w C Br day to_ loan sl closed W := h
theorem ToldH.mk {w : World} {C : Array Value} {Br : Nat} {day to_ : Int} {loan : ByteArray} {sl : Value} {closed : Int} {W : World} (hB : Below w.heap.size w W) (hb : W.heap[w.heap.size]? = some (.cells C 31))
    (hC1 : C[1]? = some (.int .i64 day)) (hC2 : C[2]? = some (.int .i64 to_)) (hC3 : C[3]? = some (.string loan)) (hR : w.heap[Br]? = some (.cells #[sl, .int .i64 closed] 54)) : ToldH w C Br day to_ loan sl closed W := by
  have c := (blk_cells hb).1
  have r := (blk_cells (keep_blk hB hR)).1
  exact ⟨⟨hB, hb⟩, by rw [c, hC1], by rw [c, hC2], by rw [c, hC3], by rw [r]; rfl, by rw [r]; rfl⟩
theorem ToldH.next {w : World} {C : Array Value} {Br : Nat} {day to_ : Int} {loan : ByteArray} {sl : Value} {closed : Int} {W W' : World} (h : ToldC w C Br day to_ loan sl closed W) (hb : Below W.heap.size W W') : ToldH w C Br day to_ loan sl closed W' :=
  ⟨⟨h.1.1.trans (hb.mono h.1.1.size), keep_blk hb h.1.2⟩, kept_cell hb h.2.1, kept_cell hb h.2.2.1, kept_cell hb h.2.2.2.1, kept_cell hb h.2.2.2.2.1, kept_cell hb h.2.2.2.2.2⟩

theorem JR.from {T : TypeId} {w w' : World} {B base : Nat} {v : Value} {ps : List Pv} {gs : List Pg} {closed : Int} (h : JR T w B base v ps gs closed) (hb : Below w.heap.size w w') : JR T w' B base v ps gs closed := h.kept hb

theorem refPostings_any (B base : Nat) (v : Value) (ps : List Pv) (gs : List Pg) (closed from_ to_ : Int) (w : World) (hj : JR 54 w B base v ps gs closed) :
    Calls Try.prog 21 #[v, .int .i64 from_, .int .i64 to_] w fun e w' =>
      ∃ u qs, e = .returned u ∧ Own w' w.heap.size 34 4 Pv.enc u qs ∧ All2 (Hdr w') qs (gs.filter fun g => inB from_ to_ g.day) ∧ Below w.heap.size w w' := by
  refine (postings_any v ps from_ to_ w (hj.own.sl Pv.enc_len) (fun p hp => ?_) (by rw [hj.len]; have := hj.many; omega)).mono ?_
  · obtain ⟨g, _, h⟩ := hj.hdr.mem p hp
    exact slice_one (h.lines.sl Ln.enc_len)
  · rintro e w' ⟨u, rfl, h1, h2⟩
    refine ⟨u, _, rfl, h1, ?_, h2⟩
    exact ((hj.hdr.mono fun p g _ _ h => h.hdr).filter fun p g h => by rw [h.day]).mono fun p g _ _ h => ⟨h.num, h.day, h.loan, h.lines.below h2⟩

/-- u is a slice that reads as the postings gs. -/
def Reads (W : World) (u : Value) (gs : List Pg) : Prop := ∃ qs, Sl W 4 Pv.enc u qs ∧ All2 (Hdr W) qs gs
theorem Reads.below {W W' : World} {u : Value} {gs : List Pg} (h : Reads W u gs) (hb : Below W.heap.size W W') : Reads W' u gs := by
  obtain ⟨qs, h1, h2⟩ := h
  exact ⟨qs, h1.below hb, h2.mono fun p g _ _ h => ⟨h.num, h.day, h.loan, h.lines.below hb⟩⟩
theorem t_post (B base : Nat) (v : Value) (ps : List Pv) (gs : List Pg) (closed from_ to_ : Int) (w : World) (hj : JR 54 w B base v ps gs closed) :
    Calls Try.prog 21 #[v, .int .i64 from_, .int .i64 to_] w fun e w' => ∃ u, e = .returned u ∧ Reads w' u (gs.filter fun g => inB from_ to_ g.day) ∧ Below w.heap.size w w' :=
  (refPostings_any B base v ps gs closed from_ to_ w hj).mono fun _ _ ⟨u, qs, h0, h1, h2, h3⟩ => ⟨u, h0, ⟨qs, h1.sl Pv.enc_len, h2⟩, h3⟩
theorem t_postJ (B base : Nat) (v : Value) (ps : List Pv) (gs : List Pg) (closed from_ to_ : Int) (w : World) (hj : JR 52 w B base v ps gs closed) :
    Calls Try.prog 9 #[.pointer (some ⟨B, 0, none⟩), .int .i64 from_, .int .i64 to_] w fun e w' => ∃ u, e = .returned u ∧ Reads w' u (gs.filter fun g => inB from_ to_ g.day) ∧ Below w.heap.size w w' :=
  (postingsJ_any B base v ps gs closed from_ to_ w hj).mono fun _ _ ⟨u, qs, h0, h1, h2, h3⟩ => ⟨u, h0, ⟨qs, h1.sl Pv.enc_len, h2.mono fun _ _ _ _ h => h.hdr⟩, h3⟩
theorem t_same (u v : Value) (gs : List Pg) (w : World) (hu : Reads w u gs) (hv : Reads w v gs) :
    Calls Try.prog 22 #[u, v] w fun e w' => e = .returned (.bool true) ∧ Below w.heap.size w w' := by
  obtain ⟨ps, h1, h2⟩ := hu
  obtain ⟨qs, h3, h4⟩ := hv
  refine (sameP_any u v ps qs gs gs w h1 h2 h3 h4).mono ?_
  rintro e w' ⟨rfl, hw⟩
  exact ⟨ret_bool (samePs_refl gs), drawn_below hw⟩
theorem t_sameL (u v : Value) (xs : List Ln) (w : World) (hu : Sl w 2 Ln.enc u xs) (hv : Sl w 2 Ln.enc v xs) :
    Calls Try.prog 14 #[u, v] w fun e w' => e = .returned (.bool true) ∧ Below w.heap.size w w' := by
  refine (same_any u v xs xs w hu hv).mono ?_
  rintro e w' ⟨rfl, hw⟩
  exact ⟨ret_bool (by simp [sameLn]), drawn_below hw⟩
theorem t_trial (B base : Nat) (v : Value) (ps : List Pv) (gs : List Pg) (closed from_ to_ : Int) (w : World) (hj : JR 52 w B base v ps gs closed) (hwf : ∀ g ∈ gs, ∀ l ∈ g.lines, wfL l) :
    Calls Try.prog 23 #[.pointer (some ⟨B, 0, none⟩), .int .i64 from_, .int .i64 to_] w fun e w' => ∃ u, e = .returned u ∧ Sl w' 2 Ln.enc u (sumsOf (gs.filter fun g => inB from_ to_ g.day)) ∧ Below w.heap.size w w' :=
  (trial_any B base v ps gs closed from_ to_ w hj hwf).mono fun _ _ ⟨u, h0, h1, h2⟩ => ⟨u, h0, h1.sl Ln.enc_len, h2⟩
theorem t_sums (u : Value) (gs : List Pg) (w : World) (hu : Reads w u gs) :
    Calls Try.prog 24 #[u] w fun e w' => ∃ u, e = .returned u ∧ Sl w' 2 Ln.enc u (sumsOf gs) ∧ Below w.heap.size w w' := by
  obtain ⟨ps, h1, h2⟩ := hu
  exact (sums21_any u ps gs w h1 h2).mono fun _ _ ⟨u, h0, h1, h2⟩ => ⟨u, h0, h1.sl Ln.enc_len, h2⟩
theorem t_bal (B base : Nat) (v : Value) (ps : List Pv) (gs : List Pg) (closed : Int) (loan : ByteArray) (w : World) (hj : JR 52 w B base v ps gs closed) (hwf : ∀ g ∈ gs, ∀ l ∈ g.lines, wfL l) :
    Calls Try.prog 25 #[.pointer (some ⟨B, 0, none⟩), .string loan] w fun e w' => ∃ u, e = .returned u ∧ Sl w' 2 Ln.enc u (sumsOf (gs.filter (isL loan))) ∧ Below w.heap.size w w' :=
  (balanceJ_any B base v ps gs closed loan w hj hwf).mono fun _ _ ⟨u, h0, h1, h2⟩ => ⟨u, h0, h1.sl Ln.enc_len, h2⟩
theorem t_bal21 (B base : Nat) (v : Value) (ps : List Pv) (gs : List Pg) (closed : Int) (loan : ByteArray) (w : World) (hj : JR 54 w B base v ps gs closed) :
    Calls Try.prog 26 #[v, .string loan] w fun e w' => ∃ u, e = .returned u ∧ Sl w' 2 Ln.enc u (sumsOf (gs.filter (isL loan))) ∧ Below w.heap.size w w' :=
  (balance21_any v ps gs loan w (hj.own.sl Pv.enc_len) (hj.hdr.mono fun _ _ _ _ h => h.hdr) (by rw [hj.len]; have := hj.many; omega)).mono fun _ _ ⟨u, h0, h1, h2⟩ => ⟨u, h0, h1.sl Ln.enc_len, h2⟩

set_option maxHeartbeats 2000000 in
theorem told_any (Bj Br base : Nat) (vj vr : Value) (pj pr : List Pv) (gs : List Pg) (closed day to_ : Int) (loan : ByteArray) (C : Array Value) (w : World)
    (hj : JR 52 w Bj base vj pj gs closed) (hr : JR 54 w Br base vr pr gs closed) (hwf : ∀ g ∈ gs, ∀ l ∈ g.lines, wfL l)
    (hC : C.size = 28) (hC1 : C[1]? = some (.int .i64 day)) (hC2 : C[2]? = some (.int .i64 to_)) (hC3 : C[3]? = some (.string loan)) :
    Calls Try.prog 10 #[.pointer (some ⟨Bj, 0, none⟩), .pointer (some ⟨Br, 0, none⟩), .agg C] w fun e w' => e = .returned (.bool true) ∧ Below w.heap.size w w' := by
  have HJ := Lib.hid hj
  have HR := Lib.hid hr
  have HWF := Lib.hid hwf
  have HC := Lib.hid (And.intro hC (And.intro hC1 (And.intro hC2 hC3)))
  clear hj hwf hC hC1 hC2 hC3
  obtain ⟨c0, f0, z0⟩ := blk_cells hr.blk
  obtain ⟨Av, cv, hv⟩ := hr.own.shape
  subst hv
  clear hr
  go_enter Try.func10, Try.ntmps10
  have HS : ToldH w C Br day to_ loan (.slice Av pr.length cv) closed (w.alloc (.cells C 31)).drew :=
    ToldH.mk (((Below.refl _ _).alloc (Nat.le_refl _) _).drew) (heap_alloc_new _ _) HC.out.2.1 HC.out.2.2.1 HC.out.2.2.2 HR.out.blk
  go_wp2_with fail
  go_region_held3 (fun W => (Below w.heap.size w W ∧ W.heap[w.heap.size]? = some (.cells C 31)) ∧ W.cell? ⟨w.heap.size, 1, none⟩ = some (.int .i64 day) ∧ W.cell? ⟨w.heap.size, 2, none⟩ = some (.int .i64 to_) ∧
    W.cell? ⟨w.heap.size, 3, none⟩ = some (.string loan) ∧ W.cell? ⟨Br, 0, none⟩ = some (.slice Av pr.length cv) ∧ W.cell? ⟨Br, 1, none⟩ = some (.int .i64 closed)) (exact ToldH.out (by assumption))
    (first | (go_at_call 21; refine (t_post Br base _ pr gs closed day to_ _ (HR.out.from (And.left (And.left (by assumption))))).mono ?_; rintro e w1 ⟨lv, rfl, h1, h3⟩; have HS1 := ToldH.next (by assumption) h3; have HL := Lib.hid h1; clear h1 h3))
  have HS2 := ToldH.next HS1.out ((Below.refl _ _).drew)
  have HL2 := Lib.hid (HL.out.below ((Below.refl _ _).drew))
  go_wp2_with fail
  go_region_held3 (fun W => (Below w.heap.size w W ∧ W.heap[w.heap.size]? = some (.cells C 31)) ∧ W.cell? ⟨w.heap.size, 1, none⟩ = some (.int .i64 day) ∧ W.cell? ⟨w.heap.size, 2, none⟩ = some (.int .i64 to_) ∧
    W.cell? ⟨w.heap.size, 3, none⟩ = some (.string loan) ∧ W.cell? ⟨Br, 0, none⟩ = some (.slice Av pr.length cv) ∧ W.cell? ⟨Br, 1, none⟩ = some (.int .i64 closed)) (exact ToldH.out (by assumption))
    (first
     | (go_at_call 9; refine (t_postJ Bj base vj pj gs closed day to_ _ (HJ.out.from (And.left (And.left (by assumption))))).mono ?_; rintro e w2 ⟨u2, rfl, h1, h3⟩; have HS3 := ToldH.next (by assumption) h3; have H2 := Lib.hid h1; have HL3 := Lib.hid (HL2.out.below h3); clear h1 h3)
     | (go_at_call 22; refine (t_same u2 lv _ _ H2.out HL3.out).mono ?_; rintro e w3 ⟨rfl, h3⟩; have HS4 := ToldH.next (by assumption) h3; have HL4 := Lib.hid (HL3.out.below h3); clear h3)
     | (go_at_call 23; refine (t_trial Bj base vj pj gs closed day to_ _ (HJ.out.from (And.left (And.left (by assumption)))) HWF.out).mono ?_; rintro e w4 ⟨u4, rfl, h1, h3⟩; have HS5 := ToldH.next (by assumption) h3; have H4 := Lib.hid h1; have HL5 := Lib.hid (HL4.out.below h3); clear h1 h3)
     | (go_at_call 24; refine (t_sums lv _ _ HL5.out).mono ?_; rintro e w5 ⟨u5, rfl, h1, h3⟩; have HS6 := ToldH.next (by assumption) h3; have H5 := Lib.hid h1; have H45 := Lib.hid (H4.out.below h3); clear h1 h3)
     | (go_at_call 14; (with_reducible refine (t_sameL u4 u5 _ _ H45.out H5.out).mono ?_); rintro e w6 ⟨rfl, h3⟩; have HS7 := ToldH.next (by assumption) h3; clear h3)
     | (go_at_call 25; refine (t_bal Bj base vj pj gs closed loan _ (HJ.out.from (And.left (And.left (by assumption)))) HWF.out).mono ?_; rintro e w7 ⟨u7, rfl, h1, h3⟩; have HS8 := ToldH.next (by assumption) h3; have H7 := Lib.hid h1; clear h1 h3)
     | (go_at_call 26; refine (t_bal21 Br base _ pr gs closed loan _ (HR.out.from (And.left (And.left (by assumption))))).mono ?_; rintro e w8 ⟨u8, rfl, h1, h3⟩; have HS9 := ToldH.next (by assumption) h3; have H8 := Lib.hid h1; have H78 := Lib.hid (H7.out.below h3); clear h1 h3)
     | (go_at_call 14; (with_reducible refine (t_sameL u7 u8 _ _ H78.out H8.out).mono ?_); rintro e w9 ⟨rfl, h3⟩; have HS10 := ToldH.next (by assumption) h3; clear h3)
     | (go_at_call 12; refine (closed_any Bj base vj pj gs closed _ (HJ.out.from (And.left (And.left (by assumption))))).mono ?_; rintro e w10 ⟨rfl, rfl⟩))
  go_wp2_with fail
  go_ret
  exact ⟨rfl, HS10.out.1.1⟩
end Go.Proofs.Ytegmobdpbaeijaa
