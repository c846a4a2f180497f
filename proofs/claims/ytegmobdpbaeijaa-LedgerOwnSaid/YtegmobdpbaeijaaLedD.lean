/- The reference's lines between two states. -/
import Derived.Test.YtegmobdpbaeijaaLedC
namespace Go.Proofs.Ytegmobdpbaeijaa
open Go.RowKit

set_option maxHeartbeats 1000000 in
theorem lines21_ok (f t : St) (w : World) (hf : f.within = true) (ht : t.within = true) (ef : f.even = true) (et : t.even = true) :
    Calls Try.prog 19 #[.agg #[.int .i64 f.day, .int .i64 f.rate, .int .i64 f.prin, .int .i64 f.intr, .int .i64 f.fees, .int .i64 f.cred, .int .i64 f.out, .int .i64 f.inn, .int .i64 f.accr, .int .i64 f.chrg, .int .i64 f.late, .int .i64 f.buck], .agg #[.int .i64 t.day, .int .i64 t.rate, .int .i64 t.prin, .int .i64 t.intr, .int .i64 t.fees, .int .i64 t.cred, .int .i64 t.out, .int .i64 t.inn, .int .i64 t.accr, .int .i64 t.chrg, .int .i64 t.late, .int .i64 t.buck]] w fun e w' =>
      ∃ v, e = .returned (.tuple #[v, .int .i64 (err21 f t)]) ∧ Own w' w.heap.size 41 2 Ln.enc v (res21 f t) ∧ Below w.heap.size w w' := by
  have HE := Lib.hid (show err21 f t = 0 by simp [err21, hf, ht, ef, et])
  go_enter Try.func19, Try.ntmps19
  go_wp2_with fail
  refine (within21_any f _).mono ?_
  rintro e w1 ⟨rfl, hb1⟩
  have k0 := Lib.hid (keep_blk hb1 (heap_alloc2_old w (.cells #[.int .i64 f.day, .int .i64 f.rate, .int .i64 f.prin, .int .i64 f.intr, .int .i64 f.fees, .int .i64 f.cred, .int .i64 f.out, .int .i64 f.inn, .int .i64 f.accr, .int .i64 f.chrg, .int .i64 f.late, .int .i64 f.buck] 29) (.cells #[.int .i64 t.day, .int .i64 t.rate, .int .i64 t.prin, .int .i64 t.intr, .int .i64 t.fees, .int .i64 t.cred, .int .i64 t.out, .int .i64 t.inn, .int .i64 t.accr, .int .i64 t.chrg, .int .i64 t.late, .int .i64 t.buck] 29)))
  have k1 := Lib.hid (keep_blk hb1 (heap_alloc2_new w (.cells #[.int .i64 f.day, .int .i64 f.rate, .int .i64 f.prin, .int .i64 f.intr, .int .i64 f.fees, .int .i64 f.cred, .int .i64 f.out, .int .i64 f.inn, .int .i64 f.accr, .int .i64 f.chrg, .int .i64 f.late, .int .i64 f.buck] 29) (.cells #[.int .i64 t.day, .int .i64 t.rate, .int .i64 t.prin, .int .i64 t.intr, .int .i64 t.fees, .int .i64 t.cred, .int .i64 t.out, .int .i64 t.inn, .int .i64 t.accr, .int .i64 t.chrg, .int .i64 t.late, .int .i64 t.buck] 29)))
  have HB := Lib.hid (below_then (((Below.refl w.heap.size w).alloc (Nat.le_refl _) (.cells #[.int .i64 f.day, .int .i64 f.rate, .int .i64 f.prin, .int .i64 f.intr, .int .i64 f.fees, .int .i64 f.cred, .int .i64 f.out, .int .i64 f.inn, .int .i64 f.accr, .int .i64 f.chrg, .int .i64 f.late, .int .i64 f.buck] 29)).alloc (by simp) (.cells #[.int .i64 t.day, .int .i64 t.rate, .int .i64 t.prin, .int .i64 t.intr, .int .i64 t.fees, .int .i64 t.cred, .int .i64 t.out, .int .i64 t.inn, .int .i64 t.accr, .int .i64 t.chrg, .int .i64 t.late, .int .i64 t.buck] 29)) (by simp; omega) hb1)
  clear hb1
  obtain ⟨c0, f0, z0⟩ := blk_cells k0.out
  obtain ⟨c1, f1, z1⟩ := blk_cells k1.out
  go_wp2_with fail
  refine (within21_any t _).mono ?_
  rintro e w2 ⟨rfl, hb2⟩
  have k02 := Lib.hid (keep_blk hb2 k0.out)
  have k12 := Lib.hid (keep_blk hb2 k1.out)
  have HB2 := Lib.hid (below_then HB.out HB.out.size hb2)
  clear hb2 c0 f0 z0 c1 f1 z1
  obtain ⟨c0, f0, z0⟩ := blk_cells k02.out
  obtain ⟨c1, f1, z1⟩ := blk_cells k12.out
  go_wp2_with fail
  refine (even_any' f _).mono ?_
  rintro e w3 ⟨rfl, hb3⟩
  have k03 := Lib.hid (keep_blk hb3 k02.out)
  have k13 := Lib.hid (keep_blk hb3 k12.out)
  have HB3 := Lib.hid (below_then HB2.out HB2.out.size hb3)
  clear hb3 c0 f0 z0 c1 f1 z1
  obtain ⟨c0, f0, z0⟩ := blk_cells k03.out
  obtain ⟨c1, f1, z1⟩ := blk_cells k13.out
  go_wp2_with fail
  refine (even_any' t _).mono ?_
  rintro e w4 ⟨rfl, hb4⟩
  have k04 := Lib.hid (keep_blk hb4 k03.out)
  have k14 := Lib.hid (keep_blk hb4 k13.out)
  have HB4 := Lib.hid (below_then HB3.out HB3.out.size hb4)
  clear hb4 c0 f0 z0 c1 f1 z1
  obtain ⟨c0, f0, z0⟩ := blk_cells k04.out
  obtain ⟨c1, f1, z1⟩ := blk_cells k14.out
  go_wp2_with fail
  generalize hS : seven21 f t = S
  have hcells : ∀ k, k < 7 → (#[.int .i64 1, .int .i64 (wrap64 (wrap64 (wrap64 (t.inn - t.out) - f.inn) + f.out)), .int .i64 2, .int .i64 (wrap64 (t.prin - f.prin)), .int .i64 3, .int .i64 (wrap64 (t.intr - f.intr)), .int .i64 4, .int .i64 (wrap64 (t.fees - f.fees)), .int .i64 5, .int .i64 (wrap64 (f.cred - t.cred)), .int .i64 6, .int .i64 (wrap64 (f.accr - t.accr)), .int .i64 7, .int .i64 (wrap64 (f.chrg - t.chrg))] : Array Value)[2 * k + 1]? = some (.int .i64 (S.getD k 0)) := by
    subst hS
    intro k hk
    rcases k with _ | _ | _ | _ | _ | _ | _ | k <;> first | rfl | omega
  have hcells0 : ∀ k, k < 7 → (#[.int .i64 1, .int .i64 (wrap64 (wrap64 (wrap64 (t.inn - t.out) - f.inn) + f.out)), .int .i64 2, .int .i64 (wrap64 (t.prin - f.prin)), .int .i64 3, .int .i64 (wrap64 (t.intr - f.intr)), .int .i64 4, .int .i64 (wrap64 (t.fees - f.fees)), .int .i64 5, .int .i64 (wrap64 (f.cred - t.cred)), .int .i64 6, .int .i64 (wrap64 (f.accr - t.accr)), .int .i64 7, .int .i64 (wrap64 (f.chrg - t.chrg))] : Array Value)[2 * k]? = some (.int .i64 ((k : Int) + 1)) := by
    intro k hk
    rcases k with _ | _ | _ | _ | _ | _ | _ | k <;> first | rfl | omega
  have HC1 := Lib.hid hcells
  have HC0 := Lib.hid hcells0
  have HS := Lib.hid hS
  clear hS hcells hcells0
  have hb4 : Below w.heap.size w (w4.alloc (.cells #[.int .i64 1, .int .i64 (wrap64 (wrap64 (wrap64 (t.inn - t.out) - f.inn) + f.out)), .int .i64 2, .int .i64 (wrap64 (t.prin - f.prin)), .int .i64 3, .int .i64 (wrap64 (t.intr - f.intr)), .int .i64 4, .int .i64 (wrap64 (t.fees - f.fees)), .int .i64 5, .int .i64 (wrap64 (f.cred - t.cred)), .int .i64 6, .int .i64 (wrap64 (f.accr - t.accr)), .int .i64 7, .int .i64 (wrap64 (f.chrg - t.chrg))] 41)) := HB4.out.alloc HB4.out.size _
  go_loopw [7, 8, 76] (fun out i j wr => ∃ k : Nat, k ≤ 7 ∧ j = .int .i64 k ∧ Hid (wr.heap[w4.heap.size]? = some (.cells #[.int .i64 1, .int .i64 (wrap64 (wrap64 (wrap64 (t.inn - t.out) - f.inn) + f.out)), .int .i64 2, .int .i64 (wrap64 (t.prin - f.prin)), .int .i64 3, .int .i64 (wrap64 (t.intr - f.intr)), .int .i64 4, .int .i64 (wrap64 (t.fees - f.fees)), .int .i64 5, .int .i64 (wrap64 (f.cred - t.cred)), .int .i64 6, .int .i64 (wrap64 (f.accr - t.accr)), .int .i64 7, .int .i64 (wrap64 (f.chrg - t.chrg))] 41)) ∧ Hid (Own wr (w4.heap.size + 1) 41 2 Ln.enc out ((((List.range 7).map (mkLn S)).take k).filter fun x => !(x.amt == 0))) ∧ w4.heap.size + 1 ≤ wr.heap.size ∧ Below w.heap.size w wr) (fun _ _ j _ => 7 - (intOf j).toNat)
  case atStart => exact ⟨0, by omega, rfl, Lib.hid (heap_alloc_new _ _), Lib.hid (by simpa using Own.nil _ _ _ _ _), by simp, hb4⟩
  case round =>
    obtain ⟨k, hk, rfl, HB, HO, hsz, hbel⟩ := hrel
    by_cases hlt : k < 7
    · have hc0 := cell_of_row _ _ (2 * k) _ _ _ HB.out
      have hc1 := cell_of_row _ _ (2 * k + 1) _ _ _ HB.out
      rw [HC0.out k hlt] at hc0
      rw [HC1.out k hlt] at hc1
      rw [Nat.mul_comm] at hc0 hc1
      have hltI : (k : Int) < 7 := by omega
      have hsn := filter_snoc (fun x : Ln => !(x.amt == 0)) ((List.range 7).map (mkLn S)) k (by simpa using hlt)
      rw [map_range_at (mkLn S) 7 k hlt] at hsn
      have HSN := Lib.hid hsn
      have hfl := filter_len (fun x : Ln => !(x.amt == 0)) ((List.range 7).map (mkLn S)) k
      clear hsn
      generalize hx : S.getD k 0 = x at hc1
      have HX := Lib.hid hx
      clear hx
      by_cases hz : x = 0
      · subst hz
        go_wp2_with fail
        refine ⟨⟨k + 1, by omega, by go_num, HB, Lib.hid ?_, hsz, hbel⟩, by simp [intOf]; omega⟩
        have e0 : (mkLn S k).amt = 0 := HX.out
        rw [HSN.out, if_neg (by simp [e0]), List.append_nil]
        exact HO.out
      · have hz' : (x != 0) = true := by simpa using hz
        have hz2 : (x == 0) = false := by simpa using hz
        go_wp2_with (at_builtin; go_must (refine wpl_app1 (w0 := wr) (w4.heap.size + 1) rfl (.tmp 85) (.tmp 90) _ _ _ 2 16 rfl Try.underlying32 infoLn rfl (by decide) (by decide) Ln.enc Ln.enc_len _ _ ⟨(k : Int) + 1, x⟩ _ rfl rfl rfl (Ln.one _) HO.out (Below.refl _ _) hsz ?hl ?_; (case hl => omega); intro v1 w5 hown1 _ hg1 _; have HO1 := Lib.hid hown1; have HG1 := Lib.hid hg1; clear hown1 hg1))
        have e0 : mkLn S k = ⟨(k : Int) + 1, x⟩ := by rw [mkLn, HX.out]
        refine ⟨⟨k + 1, by omega, by go_num, Lib.hid ?_, Lib.hid ?_, Nat.le_trans hsz HG1.out.size, ?_⟩, by simp [intOf]; omega⟩
        · refine (HG1.out.block _ (by omega) fun h => ?_).trans HB.out
          have := (HO.out.lt h.symm).1
          omega
        · rw [HSN.out, e0, if_pos (by simpa using hz)]
          exact HO1.out
        · exact hbel.grown HG1.out hbel.size fun b hb => by have := (HO.out.lt hb).1; have := HB4.out.size; omega
    · have hgeI : ¬ (k : Int) < 7 := by omega
      go_wp2_with fail
      go_ret2
      have h := HO.out
      rw [List.take_of_length_le (by simp; omega)] at h
      refine ⟨_, ret2_int HE.out.symm, ?_, hbel⟩
      rw [res21, if_pos HE.out, mkLines, HS.out]
      exact h.lower (by have := HB4.out.size; omega)

set_option maxHeartbeats 1000000 in
theorem lines21_any (f t : St) (w : World) :
    Calls Try.prog 19 #[.agg #[.int .i64 f.day, .int .i64 f.rate, .int .i64 f.prin, .int .i64 f.intr, .int .i64 f.fees, .int .i64 f.cred, .int .i64 f.out, .int .i64 f.inn, .int .i64 f.accr, .int .i64 f.chrg, .int .i64 f.late, .int .i64 f.buck], .agg #[.int .i64 t.day, .int .i64 t.rate, .int .i64 t.prin, .int .i64 t.intr, .int .i64 t.fees, .int .i64 t.cred, .int .i64 t.out, .int .i64 t.inn, .int .i64 t.accr, .int .i64 t.chrg, .int .i64 t.late, .int .i64 t.buck]] w fun e w' =>
      ∃ v, e = .returned (.tuple #[v, .int .i64 (err21 f t)]) ∧ Own w' w.heap.size 41 2 Ln.enc v (res21 f t) ∧ Below w.heap.size w w' := by
  by_cases hf : f.within = true
  · by_cases ht : t.within = true
    · by_cases ef : f.even = true
      · by_cases et : t.even = true
        · exact lines21_ok f t w hf ht ef et
        · have et' : t.even = false := by simpa using et
          have HE := Lib.hid (show err21 f t = 52 by simp [err21, hf, ht, et'])
          clear et
          go_enter Try.func19, Try.ntmps19
          go_wp2_with fail
          refine (within21_any f _).mono ?_
          rintro e w1 ⟨rfl, hb1⟩
          have k0 := Lib.hid (keep_blk hb1 (heap_alloc2_old w (.cells #[.int .i64 f.day, .int .i64 f.rate, .int .i64 f.prin, .int .i64 f.intr, .int .i64 f.fees, .int .i64 f.cred, .int .i64 f.out, .int .i64 f.inn, .int .i64 f.accr, .int .i64 f.chrg, .int .i64 f.late, .int .i64 f.buck] 29) (.cells #[.int .i64 t.day, .int .i64 t.rate, .int .i64 t.prin, .int .i64 t.intr, .int .i64 t.fees, .int .i64 t.cred, .int .i64 t.out, .int .i64 t.inn, .int .i64 t.accr, .int .i64 t.chrg, .int .i64 t.late, .int .i64 t.buck] 29)))
          have k1 := Lib.hid (keep_blk hb1 (heap_alloc2_new w (.cells #[.int .i64 f.day, .int .i64 f.rate, .int .i64 f.prin, .int .i64 f.intr, .int .i64 f.fees, .int .i64 f.cred, .int .i64 f.out, .int .i64 f.inn, .int .i64 f.accr, .int .i64 f.chrg, .int .i64 f.late, .int .i64 f.buck] 29) (.cells #[.int .i64 t.day, .int .i64 t.rate, .int .i64 t.prin, .int .i64 t.intr, .int .i64 t.fees, .int .i64 t.cred, .int .i64 t.out, .int .i64 t.inn, .int .i64 t.accr, .int .i64 t.chrg, .int .i64 t.late, .int .i64 t.buck] 29)))
          have HB := Lib.hid (below_then (((Below.refl w.heap.size w).alloc (Nat.le_refl _) (.cells #[.int .i64 f.day, .int .i64 f.rate, .int .i64 f.prin, .int .i64 f.intr, .int .i64 f.fees, .int .i64 f.cred, .int .i64 f.out, .int .i64 f.inn, .int .i64 f.accr, .int .i64 f.chrg, .int .i64 f.late, .int .i64 f.buck] 29)).alloc (by simp) (.cells #[.int .i64 t.day, .int .i64 t.rate, .int .i64 t.prin, .int .i64 t.intr, .int .i64 t.fees, .int .i64 t.cred, .int .i64 t.out, .int .i64 t.inn, .int .i64 t.accr, .int .i64 t.chrg, .int .i64 t.late, .int .i64 t.buck] 29)) (by simp; omega) hb1)
          clear hb1
          obtain ⟨c0, f0, z0⟩ := blk_cells k0.out
          obtain ⟨c1, f1, z1⟩ := blk_cells k1.out
          go_wp2_with fail
          refine (within21_any t _).mono ?_
          rintro e w2 ⟨rfl, hb2⟩
          have k02 := Lib.hid (keep_blk hb2 k0.out)
          have k12 := Lib.hid (keep_blk hb2 k1.out)
          have HB2 := Lib.hid (below_then HB.out HB.out.size hb2)
          clear hb2 c0 f0 z0 c1 f1 z1
          obtain ⟨c0, f0, z0⟩ := blk_cells k02.out
          obtain ⟨c1, f1, z1⟩ := blk_cells k12.out
          go_wp2_with fail
          refine (even_any' f _).mono ?_
          rintro e w3 ⟨rfl, hb3⟩
          have k03 := Lib.hid (keep_blk hb3 k02.out)
          have k13 := Lib.hid (keep_blk hb3 k12.out)
          have HB3 := Lib.hid (below_then HB2.out HB2.out.size hb3)
          clear hb3 c0 f0 z0 c1 f1 z1
          obtain ⟨c0, f0, z0⟩ := blk_cells k03.out
          obtain ⟨c1, f1, z1⟩ := blk_cells k13.out
          go_wp2_with fail
          refine (even_any' t _).mono ?_
          rintro e w4 ⟨rfl, hb4⟩
          have k04 := Lib.hid (keep_blk hb4 k03.out)
          have k14 := Lib.hid (keep_blk hb4 k13.out)
          have HB4 := Lib.hid (below_then HB3.out HB3.out.size hb4)
          clear hb4 c0 f0 z0 c1 f1 z1
          obtain ⟨c0, f0, z0⟩ := blk_cells k04.out
          obtain ⟨c1, f1, z1⟩ := blk_cells k14.out
          go_wp2_with fail
          go_ret2
          refine ⟨_, ret2_int HE.out.symm, ?_, HB4.out⟩
          rw [res21, if_neg (by rw [HE.out]; decide)]
          exact Own.nil _ _ _ _ _
      · have ef' : f.even = false := by simpa using ef
        have HE := Lib.hid (show err21 f t = 52 by simp [err21, hf, ht, ef'])
        clear ef
        go_enter Try.func19, Try.ntmps19
        go_wp2_with fail
        refine (within21_any f _).mono ?_
        rintro e w1 ⟨rfl, hb1⟩
        have k0 := Lib.hid (keep_blk hb1 (heap_alloc2_old w (.cells #[.int .i64 f.day, .int .i64 f.rate, .int .i64 f.prin, .int .i64 f.intr, .int .i64 f.fees, .int .i64 f.cred, .int .i64 f.out, .int .i64 f.inn, .int .i64 f.accr, .int .i64 f.chrg, .int .i64 f.late, .int .i64 f.buck] 29) (.cells #[.int .i64 t.day, .int .i64 t.rate, .int .i64 t.prin, .int .i64 t.intr, .int .i64 t.fees, .int .i64 t.cred, .int .i64 t.out, .int .i64 t.inn, .int .i64 t.accr, .int .i64 t.chrg, .int .i64 t.late, .int .i64 t.buck] 29)))
        have k1 := Lib.hid (keep_blk hb1 (heap_alloc2_new w (.cells #[.int .i64 f.day, .int .i64 f.rate, .int .i64 f.prin, .int .i64 f.intr, .int .i64 f.fees, .int .i64 f.cred, .int .i64 f.out, .int .i64 f.inn, .int .i64 f.accr, .int .i64 f.chrg, .int .i64 f.late, .int .i64 f.buck] 29) (.cells #[.int .i64 t.day, .int .i64 t.rate, .int .i64 t.prin, .int .i64 t.intr, .int .i64 t.fees, .int .i64 t.cred, .int .i64 t.out, .int .i64 t.inn, .int .i64 t.accr, .int .i64 t.chrg, .int .i64 t.late, .int .i64 t.buck] 29)))
        have HB := Lib.hid (below_then (((Below.refl w.heap.size w).alloc (Nat.le_refl _) (.cells #[.int .i64 f.day, .int .i64 f.rate, .int .i64 f.prin, .int .i64 f.intr, .int .i64 f.fees, .int .i64 f.cred, .int .i64 f.out, .int .i64 f.inn, .int .i64 f.accr, .int .i64 f.chrg, .int .i64 f.late, .int .i64 f.buck] 29)).alloc (by simp) (.cells #[.int .i64 t.day, .int .i64 t.rate, .int .i64 t.prin, .int .i64 t.intr, .int .i64 t.fees, .int .i64 t.cred, .int .i64 t.out, .int .i64 t.inn, .int .i64 t.accr, .int .i64 t.chrg, .int .i64 t.late, .int .i64 t.buck] 29)) (by simp; omega) hb1)
        clear hb1
        obtain ⟨c0, f0, z0⟩ := blk_cells k0.out
        obtain ⟨c1, f1, z1⟩ := blk_cells k1.out
        go_wp2_with fail
        refine (within21_any t _).mono ?_
        rintro e w2 ⟨rfl, hb2⟩
        have k02 := Lib.hid (keep_blk hb2 k0.out)
        have k12 := Lib.hid (keep_blk hb2 k1.out)
        have HB2 := Lib.hid (below_then HB.out HB.out.size hb2)
        clear hb2 c0 f0 z0 c1 f1 z1
        obtain ⟨c0, f0, z0⟩ := blk_cells k02.out
        obtain ⟨c1, f1, z1⟩ := blk_cells k12.out
        go_wp2_with fail
        refine (even_any' f _).mono ?_
        rintro e w3 ⟨rfl, hb3⟩
        have k03 := Lib.hid (keep_blk hb3 k02.out)
        have k13 := Lib.hid (keep_blk hb3 k12.out)
        have HB3 := Lib.hid (below_then HB2.out HB2.out.size hb3)
        clear hb3 c0 f0 z0 c1 f1 z1
        obtain ⟨c0, f0, z0⟩ := blk_cells k03.out
        obtain ⟨c1, f1, z1⟩ := blk_cells k13.out
        go_wp2_with fail
        go_ret2
        refine ⟨_, ret2_int HE.out.symm, ?_, HB3.out⟩
        rw [res21, if_neg (by rw [HE.out]; decide)]
        exact Own.nil _ _ _ _ _
    · have ht' : t.within = false := by simpa using ht
      have HE := Lib.hid (show err21 f t = 2 by simp [err21, hf, ht'])
      clear ht
      go_enter Try.func19, Try.ntmps19
      go_wp2_with fail
      refine (within21_any f _).mono ?_
      rintro e w1 ⟨rfl, hb1⟩
      have k0 := Lib.hid (keep_blk hb1 (heap_alloc2_old w (.cells #[.int .i64 f.day, .int .i64 f.rate, .int .i64 f.prin, .int .i64 f.intr, .int .i64 f.fees, .int .i64 f.cred, .int .i64 f.out, .int .i64 f.inn, .int .i64 f.accr, .int .i64 f.chrg, .int .i64 f.late, .int .i64 f.buck] 29) (.cells #[.int .i64 t.day, .int .i64 t.rate, .int .i64 t.prin, .int .i64 t.intr, .int .i64 t.fees, .int .i64 t.cred, .int .i64 t.out, .int .i64 t.inn, .int .i64 t.accr, .int .i64 t.chrg, .int .i64 t.late, .int .i64 t.buck] 29)))
      have k1 := Lib.hid (keep_blk hb1 (heap_alloc2_new w (.cells #[.int .i64 f.day, .int .i64 f.rate, .int .i64 f.prin, .int .i64 f.intr, .int .i64 f.fees, .int .i64 f.cred, .int .i64 f.out, .int .i64 f.inn, .int .i64 f.accr, .int .i64 f.chrg, .int .i64 f.late, .int .i64 f.buck] 29) (.cells #[.int .i64 t.day, .int .i64 t.rate, .int .i64 t.prin, .int .i64 t.intr, .int .i64 t.fees, .int .i64 t.cred, .int .i64 t.out, .int .i64 t.inn, .int .i64 t.accr, .int .i64 t.chrg, .int .i64 t.late, .int .i64 t.buck] 29)))
      have HB := Lib.hid (below_then (((Below.refl w.heap.size w).alloc (Nat.le_refl _) (.cells #[.int .i64 f.day, .int .i64 f.rate, .int .i64 f.prin, .int .i64 f.intr, .int .i64 f.fees, .int .i64 f.cred, .int .i64 f.out, .int .i64 f.inn, .int .i64 f.accr, .int .i64 f.chrg, .int .i64 f.late, .int .i64 f.buck] 29)).alloc (by simp) (.cells #[.int .i64 t.day, .int .i64 t.rate, .int .i64 t.prin, .int .i64 t.intr, .int .i64 t.fees, .int .i64 t.cred, .int .i64 t.out, .int .i64 t.inn, .int .i64 t.accr, .int .i64 t.chrg, .int .i64 t.late, .int .i64 t.buck] 29)) (by simp; omega) hb1)
      clear hb1
      obtain ⟨c0, f0, z0⟩ := blk_cells k0.out
      obtain ⟨c1, f1, z1⟩ := blk_cells k1.out
      go_wp2_with fail
      refine (within21_any t _).mono ?_
      rintro e w2 ⟨rfl, hb2⟩
      have k02 := Lib.hid (keep_blk hb2 k0.out)
      have k12 := Lib.hid (keep_blk hb2 k1.out)
      have HB2 := Lib.hid (below_then HB.out HB.out.size hb2)
      clear hb2 c0 f0 z0 c1 f1 z1
      obtain ⟨c0, f0, z0⟩ := blk_cells k02.out
      obtain ⟨c1, f1, z1⟩ := blk_cells k12.out
      go_wp2_with fail
      go_ret2
      refine ⟨_, ret2_int HE.out.symm, ?_, HB2.out⟩
      rw [res21, if_neg (by rw [HE.out]; decide)]
      exact Own.nil _ _ _ _ _
  · have hf' : f.within = false := by simpa using hf
    have HE := Lib.hid (show err21 f t = 2 by simp [err21, hf'])
    clear hf
    go_enter Try.func19, Try.ntmps19
    go_wp2_with fail
    refine (within21_any f _).mono ?_
    rintro e w1 ⟨rfl, hb1⟩
    have k0 := Lib.hid (keep_blk hb1 (heap_alloc2_old w (.cells #[.int .i64 f.day, .int .i64 f.rate, .int .i64 f.prin, .int .i64 f.intr, .int .i64 f.fees, .int .i64 f.cred, .int .i64 f.out, .int .i64 f.inn, .int .i64 f.accr, .int .i64 f.chrg, .int .i64 f.late, .int .i64 f.buck] 29) (.cells #[.int .i64 t.day, .int .i64 t.rate, .int .i64 t.prin, .int .i64 t.intr, .int .i64 t.fees, .int .i64 t.cred, .int .i64 t.out, .int .i64 t.inn, .int .i64 t.accr, .int .i64 t.chrg, .int .i64 t.late, .int .i64 t.buck] 29)))
    have k1 := Lib.hid (keep_blk hb1 (heap_alloc2_new w (.cells #[.int .i64 f.day, .int .i64 f.rate, .int .i64 f.prin, .int .i64 f.intr, .int .i64 f.fees, .int .i64 f.cred, .int .i64 f.out, .int .i64 f.inn, .int .i64 f.accr, .int .i64 f.chrg, .int .i64 f.late, .int .i64 f.buck] 29) (.cells #[.int .i64 t.day, .int .i64 t.rate, .int .i64 t.prin, .int .i64 t.intr, .int .i64 t.fees, .int .i64 t.cred, .int .i64 t.out, .int .i64 t.inn, .int .i64 t.accr, .int .i64 t.chrg, .int .i64 t.late, .int .i64 t.buck] 29)))
    have HB := Lib.hid (below_then (((Below.refl w.heap.size w).alloc (Nat.le_refl _) (.cells #[.int .i64 f.day, .int .i64 f.rate, .int .i64 f.prin, .int .i64 f.intr, .int .i64 f.fees, .int .i64 f.cred, .int .i64 f.out, .int .i64 f.inn, .int .i64 f.accr, .int .i64 f.chrg, .int .i64 f.late, .int .i64 f.buck] 29)).alloc (by simp) (.cells #[.int .i64 t.day, .int .i64 t.rate, .int .i64 t.prin, .int .i64 t.intr, .int .i64 t.fees, .int .i64 t.cred, .int .i64 t.out, .int .i64 t.inn, .int .i64 t.accr, .int .i64 t.chrg, .int .i64 t.late, .int .i64 t.buck] 29)) (by simp; omega) hb1)
    clear hb1
    obtain ⟨c0, f0, z0⟩ := blk_cells k0.out
    obtain ⟨c1, f1, z1⟩ := blk_cells k1.out
    go_wp2_with fail
    go_ret2
    refine ⟨_, ret2_int HE.out.symm, ?_, HB.out⟩
    rw [res21, if_neg (by rw [HE.out]; decide)]
    exact Own.nil _ _ _ _ _

end Go.Proofs.Ytegmobdpbaeijaa
