/- Are postings alike? -/
import Derived.Test.YtegmobdpbaeijaaLedB
namespace Go.Proofs.Ytegmobdpbaeijaa
open Go.RowKit

def samePg (a b : Pg) : Bool := a.num == b.num && (a.day == b.day && (a.loan.toList == b.loan.toList && sameLn a.lines b.lines))
/-- Are the two lists alike, element by element? -/
def samePs : List Pg → List Pg → Bool
  | [], [] => true
  | a :: l, b :: m => samePg a b && samePs l m
  | _, _ => false
theorem samePs_refl : ∀ l, samePs l l = true
  | [] => rfl
  | a :: l => by simp [samePs, samePg, sameLn, samePs_refl l]
theorem samePs_len : ∀ l m, l.length ≠ m.length → samePs l m = false
  | [], [], h => absurd rfl h
  | [], _ :: _, _ => rfl
  | _ :: _, [], _ => rfl
  | a :: l, b :: m, h => by
    have := samePs_len l m (by simpa using h)
    simp [samePs, this]
theorem samePs_at : ∀ (l m : List Pg) (k : Nat) (h : k < l.length) (h' : k < m.length), samePg l[k] m[k] = false → samePs l m = false
  | a :: l, b :: m, 0, _, _, hs => by
    have hs' : samePg a b = false := hs
    simp [samePs, hs']
  | a :: l, b :: m, k + 1, h, h', hs => by
    have := samePs_at l m k (by simpa using h) (by simpa using h') hs
    simp [samePs, this]
theorem samePs_all : ∀ (l m : List Pg), l.length = m.length → (∀ k (h : k < l.length) (h' : k < m.length), samePg l[k] m[k] = true) → samePs l m = true
  | [], [], _, _ => rfl
  | [], _ :: _, h, _ => by simp at h
  | _ :: _, [], h, _ => by simp at h
  | a :: l, b :: m, h, hs => by
    have h0 : samePg a b = true := hs 0 (by simp) (by simp)
    have := samePs_all l m (by simpa using h) fun k h1 h2 => hs (k + 1) (by simpa using h1) (by simpa using h2)
    simp [samePs, this, h0]

theorem drawn_below {w wr : World} (h : ∃ n, wr = w.drewN n) : Below w.heap.size w wr := by
  obtain ⟨n, rfl⟩ := h
  exact below_drewN' (Below.refl _ _) n
theorem drawn_more {w wr : World} (h : ∃ n, wr = w.drewN n) (m : Nat) : ∃ n, wr.drewN m = w.drewN n := by
  obtain ⟨n, rfl⟩ := h
  exact ⟨n + m, by simp⟩

set_option maxHeartbeats 1000000 in
theorem sameP_any (x y : Value) (ps qs : List Pv) (gs hs : List Pg) (w : World) (hx : Sl w 4 Pv.enc x ps) (hpx : All2 (Hdr w) ps gs) (hy : Sl w 4 Pv.enc y qs) (hpy : All2 (Hdr w) qs hs) :
    Calls Try.prog 22 #[x, y] w fun e w' => e = .returned (.bool (samePs gs hs)) ∧ ∃ n, w' = w.drewN n := by
  obtain ⟨A, c, rfl, hxl, _, hxc⟩ := hx
  obtain ⟨B, d, rfl, hyl, _, hyc⟩ := hy
  have HX := Lib.hid hxc
  have HY := Lib.hid hyc
  have HPX := Lib.hid hpx
  have HPY := Lib.hid hpy
  clear hxc hyc hpx hpy
  by_cases hl : ps.length = qs.length
  · have hl' : ((ps.length : Int) != (qs.length : Int)) = false := by simp [hl]
    have HL := Lib.hid hl
    clear hl
    go_enter Try.func22, Try.ntmps22
    go_wp2
    go_loopw [5, 13] (fun i j wr => ∃ k : Nat, k ≤ ps.length ∧ j = .int .i64 k ∧ Hid (∀ m (h : m < gs.length) (h' : m < hs.length), m < k → samePg gs[m] hs[m] = true) ∧ Hid (∃ n, wr = w.drewN n)) (fun _ j _ => ps.length - (intOf j).toNat)
    case atStart => exact ⟨0, by omega, rfl, Lib.hid (fun m h h' hm => by omega), Lib.hid ⟨0, rfl⟩⟩
    case round =>
      obtain ⟨k, hk, rfl, HT, HN⟩ := hrel
      have hbw := drawn_below HN.out
      by_cases hlt : k < ps.length
      · have hlt' : k < qs.length := by rw [← HL.out]; exact hlt
        have hg : k < gs.length := by rw [← HPX.out.len]; exact hlt
        have hh : k < hs.length := by rw [← HPY.out.len]; exact hlt'
        obtain ⟨b, off, rfl, _, a0, a1, a2, a3⟩ := cells4 HX.out k hlt
        obtain ⟨b', off', rfl, _, b0, b1, b2, b3⟩ := cells4 HY.out k hlt'
        have da := HPX.out.at k hlt hg
        have db := HPY.out.at k hlt' hh
        obtain ⟨A1, c1, e1⟩ := da.lines.shape
        obtain ⟨A2, c2, e2⟩ := db.lines.shape
        have SA := Lib.hid (show Sl wr 2 Ln.enc (.slice A1 gs[k].lines.length c1) gs[k].lines by rw [← e1]; exact da.lines.below hbw)
        have SB := Lib.hid (show Sl wr 2 Ln.enc (.slice A2 hs[k].lines.length c2) hs[k].lines by rw [← e2]; exact db.lines.below hbw)
        replace a0 := kept_cell hbw a0
        replace a1 := kept_cell hbw a1
        replace a2 := kept_cell hbw a2
        replace a3 := kept_cell hbw a3
        replace b0 := kept_cell hbw b0
        replace b1 := kept_cell hbw b1
        replace b2 := kept_cell hbw b2
        replace b3 := kept_cell hbw b3
        rw [e1] at a3
        rw [e2] at b3
        rw [da.num] at a0
        rw [da.day] at a1
        rw [da.loan] at a2
        rw [db.num] at b0
        rw [db.day] at b1
        rw [db.loan] at b2
        clear da db e1 e2
        have HSP := Lib.hid (show samePg gs[k] hs[k] = (gs[k].num == hs[k].num && (gs[k].day == hs[k].day && (gs[k].loan.toList == hs[k].loan.toList && sameLn gs[k].lines hs[k].lines))) from rfl)
        have HFIN := Lib.hid (samePs_at gs hs k hg hh)
        have HTK := Lib.hid (show samePg gs[k] hs[k] = true → ∀ m (h : m < gs.length) (h' : m < hs.length), m < k + 1 → samePg gs[m] hs[m] = true from fun hq m h h' hm => by
          rcases Nat.lt_or_ge m k with h1 | h1
          · exact HT.out m h h' h1
          · obtain rfl : m = k := by omega
            exact hq)
        generalize gs[k] = ga at *
        generalize hs[k] = hb at *
        by_cases q0 : ga.num = hb.num
        · have r0 : (ga.num != hb.num) = false := by simp [q0]
          have r0' : (ga.num == hb.num) = true := by simp [q0]
          have Q0 := Lib.hid r0'
          clear q0 r0'
          by_cases q1 : ga.day = hb.day
          · have r1 : (ga.day != hb.day) = false := by simp [q1]
            have r1' : (ga.day == hb.day) = true := by simp [q1]
            have Q1 := Lib.hid r1'
            clear q1 r1'
            by_cases q2 : ga.loan.toList = hb.loan.toList
            · have r2 : (ga.loan.toList == hb.loan.toList) = true := by simp [q2]
              have Q2 := Lib.hid r2
              clear q2
              by_cases q3 : sameLn ga.lines hb.lines = true
              · have Q3 := Lib.hid q3
                clear q3
                have hC := fun nq => same_any (.slice A1 ga.lines.length c1) (.slice A2 hb.lines.length c2) ga.lines hb.lines (wr.drewN nq) (SA.out.below (below_drewN' (Below.refl _ _) nq)) (SB.out.below (below_drewN' (Below.refl _ _) nq))
                rw [Q3.out] at hC
                have HCC := Lib.hid hC
                clear hC
                go_wp2_with fail
                go_quiet ((go_at_call 14; exact Calls.quiet_of (HCC.out _)))
                go_wp2
                refine ⟨⟨k + 1, by omega, by go_num, Lib.hid (HTK.out (by rw [HSP.out, Q0.out, Q1.out, Q2.out, Q3.out]; rfl)), Lib.hid (drawn_more HN.out _)⟩, by simp [intOf]; omega⟩
              · have q3' : sameLn ga.lines hb.lines = false := by simpa using q3
                have Q3 := Lib.hid q3'
                clear q3 q3'
                have hC := fun nq => same_any (.slice A1 ga.lines.length c1) (.slice A2 hb.lines.length c2) ga.lines hb.lines (wr.drewN nq) (SA.out.below (below_drewN' (Below.refl _ _) nq)) (SB.out.below (below_drewN' (Below.refl _ _) nq))
                rw [Q3.out] at hC
                have HCC := Lib.hid hC
                clear hC
                go_wp2_with fail
                go_quiet ((go_at_call 14; exact Calls.quiet_of (HCC.out _)))
                go_wp2
                go_ret
                exact ⟨ret_bool (HFIN.out (by rw [HSP.out, Q0.out, Q1.out, Q2.out, Q3.out]; rfl)).symm, drawn_more HN.out _⟩
            · have r2 : (ga.loan.toList == hb.loan.toList) = false := by simpa using q2
              have Q2 := Lib.hid r2
              clear q2
              go_wp2_with fail
              go_quiet (fail)
              go_wp2
              go_ret
              exact ⟨ret_bool (HFIN.out (by rw [HSP.out, Q0.out, Q1.out, Q2.out]; rfl)).symm, drawn_more HN.out _⟩
          · have r1 : (ga.day != hb.day) = true := by simpa using q1
            have r1' : (ga.day == hb.day) = false := by simpa using q1
            have Q1 := Lib.hid r1'
            clear q1 r1'
            go_wp2_with fail
            go_quiet (fail)
            go_wp2
            go_ret
            exact ⟨ret_bool (HFIN.out (by rw [HSP.out, Q0.out, Q1.out]; rfl)).symm, drawn_more HN.out _⟩
        · have r0 : (ga.num != hb.num) = true := by simpa using q0
          have r0' : (ga.num == hb.num) = false := by simpa using q0
          have Q0 := Lib.hid r0'
          clear q0 r0'
          go_wp2_with fail
          go_quiet (fail)
          go_wp2
          go_ret
          exact ⟨ret_bool (HFIN.out (by rw [HSP.out, Q0.out]; rfl)).symm, drawn_more HN.out _⟩
      · have HF := Lib.hid (samePs_all gs hs (by rw [← HPX.out.len, ← HPY.out.len, HL.out]) fun m h h' => HT.out m h h' (by have := HPX.out.len; omega))
        go_wp2_with fail
        go_ret
        exact ⟨ret_bool HF.out.symm, HN.out⟩
  · have hl' : ((ps.length : Int) != (qs.length : Int)) = true := by simp; omega
    have HF := Lib.hid (samePs_len gs hs (by rw [← HPX.out.len, ← HPY.out.len]; exact hl))
    go_enter Try.func22, Try.ntmps22
    go_wp2_with fail
    go_ret
    exact ⟨ret_bool HF.out.symm, 0, rfl⟩

end Go.Proofs.Ytegmobdpbaeijaa
