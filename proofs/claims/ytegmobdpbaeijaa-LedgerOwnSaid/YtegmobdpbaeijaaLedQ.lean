/- The journal's Balance, Trial and Close. -/
import Derived.Test.YtegmobdpbaeijaaLedP
import Derived.Test.YtegmobdpbaeijaaLedO
import Derived.Test.YtegmobdpbaeijaaLedN
import Derived.Test.YtegmobdpbaeijaaLedL
namespace Go.Proofs.Ytegmobdpbaeijaa
open Go.RowKit

set_option maxHeartbeats 400000 in
theorem delNil_any (loan : ByteArray) (L : Nat) (w : World) (hL : w.cell? ⟨L, 0, none⟩ = some (.string loan)) :
    Calls Try.prog 34 #[.slice none 0 0, balF L] w fun e w' => e = .returned (.slice none 0 0) ∧ Below w.heap.size w w' := by
  go_enter Try.func34, Try.ntmps34
  go_wp2_with fail
  refine (idxP_any _ [] loan L _ (Sl.nil _ _ _) (by simp) hL).mono ?_
  rintro e w1 ⟨hb1, ⟨rfl, _⟩ | ⟨k, hk, _⟩⟩
  · go_wp2_with fail
    go_ret
    exact ⟨rfl, hb1⟩
  · simp at hk

theorem isL_notL {w : World} {loan : ByteArray} {p : Pv} {g : Pg} (h : Hdr w p g) : (!notL loan p) = isL loan g := by
  rw [notL, isL, h.loan]
  simp [bne]

set_option maxHeartbeats 1000000 in
theorem balanceJ_any (B base : Nat) (v : Value) (ps : List Pv) (gs : List Pg) (closed : Int) (loan : ByteArray) (w : World) (hj : JR 52 w B base v ps gs closed) (hwf : ∀ g ∈ gs, ∀ l ∈ g.lines, wfL l) :
    Calls Try.prog 25 #[.pointer (some ⟨B, 0, none⟩), .string loan] w fun e w' =>
      ∃ u, e = .returned u ∧ Own w' w.heap.size 41 2 Ln.enc u (sumsOf (gs.filter (isL loan))) ∧ Below w.heap.size w w' := by
  have HJ := Lib.hid hj
  have HWF := Lib.hid hwf
  obtain ⟨c0, f0, z0⟩ := blk_cells hj.blk
  have hone : ∀ y ∈ ps, ∀ u ∈ Pv.enc y, u.oneCell' = true := fun y hy => by
    obtain ⟨g, _, h⟩ := hj.hdr.mem y hy
    exact Pv.one y (slice_one (h.lines.sl Ln.enc_len))
  have HONE := Lib.hid hone
  obtain ⟨Av, cv, hv⟩ := hj.own.shape
  subst hv
  clear hj hwf hone
  go_enter Try.func25, Try.ntmps25
  go_wp2_with fail
  refine (cloneP_any _ ps _ ((HJ.out.own.sl Pv.enc_len).below ((Below.refl _ _).alloc (Nat.le_refl _) _)) HONE.out (by rw [HJ.out.len]; have := HJ.out.many; omega)).mono ?_
  rintro e w1 ⟨vc, rfl, hown, hb1⟩
  have hbo : Below w.heap.size w w1 := below_then ((Below.refl _ _).alloc (Nat.le_refl _) _) (by simp) hb1
  have hbx := (hb1.block w.heap.size (by simp)).trans (heap_alloc_new w (.cells #[.string loan] 9))
  obtain ⟨c7, f7, z7⟩ := blk_cells hbx
  have HB := Lib.hid hbo
  have hL : w1.cell? ⟨w.heap.size, 0, none⟩ = some (.string loan) := by rw [c7]; rfl
  have HL := Lib.hid hL
  have HO := Lib.hid hown
  clear hb1 hbo hbx hL
  rcases HO.out.form with ⟨rfl, hps⟩ | ⟨g, cap, rfl, hgb, hgl⟩
  · go_wp2_with fail
    refine (delNil_any loan w.heap.size _ HL.out).mono ?_
    rintro e w2 ⟨rfl, hb2⟩
    have HB2 := Lib.hid (below_then HB.out HB.out.size hb2)
    clear hb2
    go_wp2_with fail
    have hgs : gs = [] := List.eq_nil_of_length_eq_zero (by rw [← HJ.out.len, hps]; rfl)
    refine (sums_any _ [] [] _ (Sl.nil _ _ _) .nil (by simp)).mono ?_
    rintro e w3 ⟨u, rfl, hown3, hb3⟩
    have HF := Lib.hid (And.intro (hown3.lower HB2.out.size) (below_then HB2.out HB2.out.size hb3))
    clear hown3 hb3
    go_wp2_with fail
    go_ret
    exact ⟨_, rfl, by rw [hgs]; exact HF.out.1, HF.out.2⟩
  · have hgw : w.heap.size + 1 ≤ g := by simpa using hgb
    have hsl : ∀ p ∈ ps, isSl p.lines := fun p hp => by
      obtain ⟨g', _, h⟩ := HJ.out.hdr.mem p hp
      obtain ⟨A, c, e⟩ := h.lines.shape
      exact ⟨A, _, c, e⟩
    have HSL := Lib.hid hsl
    clear hsl
    go_wp2_with fail
    refine (delP_any g cap ps loan w.heap.size _ _ HO.out HSL.out HL.out (by omega)).mono ?_
    rintro e w2 ⟨u, rfl, hown2, hm2⟩
    have hb2 : Below w.heap.size w w2 := HB.out.trans (hm2.below HB.out.size fun i hi => by omega)
    have hal : All2 (Hdr w2) (ps.filter fun p => !notL loan p) (gs.filter (isL loan)) :=
      ((HJ.out.hdr.mono fun p g _ _ h => h.hdr).filter fun p g h => isL_notL h).mono fun p g _ _ h => ⟨h.num, h.day, h.loan, h.lines.below hb2⟩
    have HA := Lib.hid hal
    have HB2 := Lib.hid hb2
    have HO2 := Lib.hid hown2
    obtain ⟨A2, c2, hu⟩ := hown2.shape
    subst hu
    clear hm2 hb2 hal hown2
    go_wp2_with fail
    refine (sums_any _ (ps.filter fun p => !notL loan p) (gs.filter (isL loan)) _ (HO2.out.sl Pv.enc_len) HA.out fun g hg => HWF.out g (List.mem_filter.1 hg).1).mono ?_
    rintro e w3 ⟨u, rfl, hown3, hb3⟩
    have HF := Lib.hid (And.intro (hown3.lower HB2.out.size) (below_then HB2.out HB2.out.size hb3))
    clear hown3 hb3
    go_wp2_with fail
    go_ret
    exact ⟨_, rfl, HF.out.1, HF.out.2⟩

set_option maxHeartbeats 400000 in
theorem trial_any (B base : Nat) (v : Value) (ps : List Pv) (gs : List Pg) (closed from_ to_ : Int) (w : World) (hj : JR 52 w B base v ps gs closed) (hwf : ∀ g ∈ gs, ∀ l ∈ g.lines, wfL l) :
    Calls Try.prog 23 #[.pointer (some ⟨B, 0, none⟩), .int .i64 from_, .int .i64 to_] w fun e w' =>
      ∃ u, e = .returned u ∧ Own w' w.heap.size 41 2 Ln.enc u (sumsOf (gs.filter fun g => inB from_ to_ g.day)) ∧ Below w.heap.size w w' := by
  have HJ := Lib.hid hj
  have HWF := Lib.hid hwf
  clear hj hwf
  go_enter Try.func23, Try.ntmps23
  go_wp2_with fail
  refine (postingsJ_any B base v ps gs closed from_ to_ _ HJ.out).mono ?_
  rintro e w1 ⟨u, qs, rfl, hown, hal, hb⟩
  have HO := Lib.hid hown
  have HA := Lib.hid hal
  have HB := Lib.hid hb
  clear hown hal hb
  go_wp2_with fail
  refine (sums_any _ qs (gs.filter fun g => inB from_ to_ g.day) _ (HO.out.sl Pv.enc_len) (HA.out.mono fun _ _ _ _ h => h.hdr) fun g hg => HWF.out g (List.mem_filter.1 hg).1).mono ?_
  rintro e w2 ⟨u, rfl, hown2, hb2⟩
  have HF := Lib.hid (And.intro (hown2.lower HB.out.size) (below_then HB.out HB.out.size hb2))
  clear hown2 hb2
  go_wp2_with fail
  go_ret
  exact ⟨_, rfl, HF.out.1, HF.out.2⟩

theorem close_ok (B base : Nat) (v : Value) (ps : List Pv) (gs : List Pg) (closed day : Int) (w : World) (hj : JR 52 w B base v ps gs closed) (h1 : -719162 ≤ day) (h2 : day ≤ 2932896) (h3 : closed < day) :
    Calls Try.prog 13 #[.pointer (some ⟨B, 0, none⟩), .int .i64 day] w fun e w' => e = .returned (.int .i64 0) ∧ JR 52 w' B base v ps gs day ∧ Mods (fun k => k = B) w w' := by
  have HJ := Lib.hid hj
  obtain ⟨c0, f0, z0⟩ := blk_cells hj.blk
  clear hj
  go_enter Try.func13, Try.ntmps13
  go_wp2
  go_ret
  refine ⟨rfl, ⟨heap_setCell_same _ _ _ _ _ _ HJ.out.blk, ?_, ?_, HJ.out.many, HJ.out.few, by omega, by omega⟩, Mods.setCell (M := fun k => k = B) (a := ⟨B, 1, none⟩) rfl _⟩
  · refine HJ.out.own.mods (Mods.setCell (M := fun k => k = B) rfl _) fun b hb hk => ?_
    subst hk
    exact HJ.out.own.ne_blk HJ.out.blk (by decide) hb
  · refine HJ.out.hdr.mono fun p g _ _ h => ⟨h.num, h.day, h.loan, h.lines.mods (Mods.setCell (M := fun k => k = B) rfl _) fun b hb hk => ?_⟩
    subst hk
    exact h.lines.ne_blk HJ.out.blk (by decide) hb
theorem close_no (B base : Nat) (v : Value) (ps : List Pv) (gs : List Pg) (closed day : Int) (w : World) (hj : JR 52 w B base v ps gs closed) (h1 : -719162 ≤ day) (h2 : day ≤ 2932896) (h3 : day ≤ closed) :
    Calls Try.prog 13 #[.pointer (some ⟨B, 0, none⟩), .int .i64 day] w fun e w' => e = .returned (.int .i64 53) ∧ w = w' := by
  obtain ⟨c0, f0, z0⟩ := blk_cells hj.blk
  clear hj
  go_enter Try.func13, Try.ntmps13
  go_wp2
  go_ret
  exact ⟨rfl, rfl⟩

theorem wf_i64 (a : Int) (h1 : -9223372036854775808 ≤ a) (h2 : a ≤ 9223372036854775807) : (Lit.int .i64 a).wf = true := by
  simp only [Lit.wf, Bool.and_eq_true, decide_eq_true_eq]
  exact ⟨h1, h2⟩
theorem wf_lines (f t : St) : ∀ l ∈ resLed f t, wfL l := by
  intro l hl
  rw [resLed] at hl
  split at hl
  · obtain ⟨i, hi, rfl⟩ := List.mem_map.1 hl
    have hi7 : i < 7 := List.mem_range.1 (List.mem_filter.1 hi).1
    have h : (-9223372036854775808 : Int) ≤ (i : Int) + 1 ∧ (i : Int) + 1 ≤ 9223372036854775807 := by omega
    exact wf_i64 _ h.1 h.2
  · simp at hl
theorem wf_post {gs : List Pg} (h : ∀ g ∈ gs, ∀ l ∈ g.lines, wfL l) (n : Nat) (closed day : Int) (loan : ByteArray) (f t : St) : ∀ g ∈ gs ++ (postR n closed day loan f t).2.toList, ∀ l ∈ g.lines, wfL l := by
  intro g hg
  rcases List.mem_append.1 hg with hg | hg
  · exact h g hg
  · simp only [postR] at hg
    split at hg
    · simp at hg
    · split at hg
      · simp at hg
      · split at hg
        · simp at hg
        · split at hg
          · simp at hg
          · split at hg
            · simp at hg
            · split at hg
              · simp at hg
              · obtain rfl : g = _ := by simpa using hg
                exact wf_lines f t
end Go.Proofs.Ytegmobdpbaeijaa
