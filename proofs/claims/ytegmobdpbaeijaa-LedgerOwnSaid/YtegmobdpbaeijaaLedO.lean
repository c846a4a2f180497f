/- The ledger's sums of postings: by a map. -/
import Derived.Test.YtegmobdpbaeijaaLedK
import Derived.Test.YtegmobdpbaeijaaMapB
namespace Go.Proofs.Ytegmobdpbaeijaa
open Go.RowKit

def wfL (l : Ln) : Prop := (Lit.int .i64 l.acc).wf = true
theorem putF_addL (f : Int → Int) (l : Ln) : (fun a => addL a (f a) l) = putF f l.acc (wrap64 (f l.acc + l.amt)) := by
  funext a
  simp only [addL, putF]
  by_cases h : l.acc = a
  · rw [if_pos h, if_pos h.symm, h]
  · rw [if_neg h, if_neg fun e => h e.symm]
theorem sumL_all (f : Int → Int) (ls : List Ln) (m : Nat) (h : m < ls.length) : (fun a => sumL a (f a) (ls.take (m + 1))) = putF (fun a => sumL a (f a) (ls.take m)) ls[m].acc (wrap64 (sumL ls[m].acc (f ls[m].acc) (ls.take m) + ls[m].amt)) := by
  rw [← putF_addL]
  funext a
  rw [sumL_snoc a (f a) ls m h]
theorem sumA_all (gs : List Pg) (i : Nat) (h : i < gs.length) : (fun a => sumA a (gs.take (i + 1))) = fun a => sumL a (sumA a (gs.take i)) gs[i].lines := by
  funext a
  exact sumA_snoc a gs i h

set_option maxHeartbeats 1000000 in
theorem sums_any (v : Value) (ps : List Pv) (gs : List Pg) (w : World) (hv : Sl w 4 Pv.enc v ps) (hp : All2 (Hdr w) ps gs) (hwf : ∀ g ∈ gs, ∀ l ∈ g.lines, wfL l) :
    Calls Try.prog 33 #[v] w fun e w' => ∃ u, e = .returned u ∧ Own w' w.heap.size 41 2 Ln.enc u (sumsOf gs) ∧ Below w.heap.size w w' := by
  obtain ⟨A, c, rfl, hl, _, hc⟩ := hv
  have HC := Lib.hid hc
  have HP := Lib.hid hp
  have HWF := Lib.hid hwf
  have HLEN := Lib.hid hp.len
  clear hc hp hwf
  have hmm := @run_makeMap Try.prog
  go_enter Try.func33, Try.ntmps33
  go_wp2
  go_loopw [5, 7, 14] (fun x y j wr => ∃ i : Nat, i ≤ ps.length ∧ j = .int .i64 i ∧ Hid (MapR colK wr w.heap.size fun a => sumA a (gs.take i)) ∧ Below w.heap.size w wr ∧ w.heap.size < wr.heap.size) (fun _ _ j _ => ps.length - (intOf j).toNat)
  case atStart => exact ⟨0, by omega, rfl, Lib.hid (by simpa [sumA] using MapR.made colK w), (Below.refl _ _).alloc (Nat.le_refl _) _, by simp⟩
  case round =>
    obtain ⟨i, hi, rfl, HM, hbel, hsz⟩ := hrel
    by_cases hli : i < ps.length
    · have hgi : i < gs.length := by rw [← HLEN.out]; exact hli
      obtain ⟨b, off, rfl, hbl, h0, h1, h2, h3⟩ := cells4 HC.out i hli
      have g0 := (hbel.cell (p := ⟨b, off + i * 4, none⟩) hbl).trans h0
      have g1 := (hbel.cell (p := ⟨b, off + i * 4 + 1, none⟩) hbl).trans h1
      have g2 := (hbel.cell (p := ⟨b, off + i * 4 + 2, none⟩) hbl).trans h2
      have g3 := (hbel.cell (p := ⟨b, off + i * 4 + 3, none⟩) hbl).trans h3
      clear h0 h1 h2 h3
      have hd := (HP.out.at i hli hgi).lines
      obtain ⟨A1, c1, hs, hl1, _, hc1⟩ := hd
      rw [hs] at g3
      have HC1 := Lib.hid hc1
      have HSU := Lib.hid (sumA_all gs i hgi)
      have HW1 := Lib.hid (HWF.out _ (List.getElem_mem hgi))
      clear hs hc1
      generalize gs[i].lines = ls at *
      obtain ⟨f, hf⟩ : ∃ f : Int → Int, (fun a => sumA a (gs.take i)) = f := ⟨_, rfl⟩
      rw [hf] at HM
      have HF := Lib.hid hf
      clear hf
      obtain ⟨wo, rfl⟩ : ∃ wo : World, wo = wr := ⟨_, rfl⟩
      go_wp2_with fail
      go_loopw [7, 21] (fun y j wi => ∃ m : Nat, m ≤ ls.length ∧ j = .int .i64 m ∧ Hid (MapR colK wi w.heap.size fun a => sumL a (f a) (ls.take m)) ∧ Below w.heap.size w wi ∧ w.heap.size < wi.heap.size) (fun _ j _ => ls.length - (intOf j).toNat)
      case atStart => exact ⟨0, by omega, rfl, Lib.hid (by simpa [sumL] using HM.out.block (Below.heap_alloc _ _ _ hsz)), hbel.alloc (by omega) _, by simp; omega⟩
      case round =>
        obtain ⟨m, hm, rfl, HI, hbi, hsi⟩ := hrel
        by_cases hlm : m < ls.length
        · obtain ⟨b', off', rfl, q0, q1⟩ := Sl.cells2 HC1.out m hlm
          have r0 := (hbi.cell (p := ⟨b', off' + m * 2, none⟩) (cell_lt q0)).trans q0
          have r1 := (hbi.cell (p := ⟨b', off' + m * 2 + 1, none⟩) (cell_lt q1)).trans q1
          clear q0 q1
          have hw1 := HW1.out _ (List.getElem_mem hlm)
          have HSL := Lib.hid (sumL_all f ls m hlm)
          obtain ⟨F, hF⟩ : ∃ F : Int → Int, (fun a => sumL a (f a) (ls.take m)) = F := ⟨_, rfl⟩
          have hFa : sumL ls[m].acc (f ls[m].acc) (ls.take m) = F ls[m].acc := congrFun hF ls[m].acc
          rw [hF] at HI HSL
          rw [hFa] at HSL
          clear hF hFa
          generalize ls[m] = l at *
          have hMa : MapR colK ((wr.alloc (.cells #[.int .i64 l.acc, .int .i64 l.amt] 41)).drew) w.heap.size F := HI.out.block (Below.heap_alloc _ _ _ hsi)
          have e1 := hMa.look col_law Try.underlying78 zero_i64 colK_inj colK_key hw1
          obtain ⟨v0, st, es, cl, e2, hE⟩ := hMa.entry col_law Try.underlying78 zero_i64 colK_key hw1
          have e3 := hE.toR.look col_law Try.underlying78 zero_i64 colK_inj colK_key hw1
          obtain ⟨es', cl', e4, hS⟩ := hE.store (P := Try.prog) (t := 78) colK_inj (wrap64 (F l.acc + l.amt))
          simp only [goInt] at e2 e4
          have hbx : (ChangeMaps.setBlock ((wr.alloc (.cells #[.int .i64 l.acc, .int .i64 l.amt] 41)).drew) w.heap.size (.map es cl)).heap[wr.heap.size]? = some (.cells #[.int .i64 l.acc, .int .i64 l.amt] 41) := by
            rw [ChangeMaps.setBlock]
            simp only [World.drew]
            rw [Array.getElem?_setIfInBounds_ne (by omega)]
            exact heap_alloc_new _ _
          obtain ⟨c7, f7, z7⟩ := blk_cells hbx
          generalize hW2 : ChangeMaps.setBlock ((wr.alloc (.cells #[.int .i64 l.acc, .int .i64 l.amt] 41)).drew) w.heap.size (.map es cl) = W2 at *
          have HW2 := Lib.hid hW2
          clear hW2 hbx
          go_wp2_with fail
          go_region
          go_wp2_with fail
          have hd : Mods (fun k => k = w.heap.size) wr (ChangeMaps.setBlock W2 w.heap.size (.map es' cl')) := by
            rw [← HW2.out]
            refine ⟨rfl, rfl, rfl, by simp [ChangeMaps.setBlock, World.drew], fun k hk hn => ?_⟩
            simp only [ChangeMaps.setBlock, World.drew]
            rw [Array.getElem?_setIfInBounds_ne (fun e => hn e.symm), Array.getElem?_setIfInBounds_ne (fun e => hn e.symm)]
            exact Below.heap_alloc _ _ _ hk
          refine ⟨⟨m + 1, by omega, by go_num, Lib.hid ?_, hbi.trans (hd.below hbi.size fun i hi => by omega), Nat.lt_of_lt_of_le hsi hd.size⟩, by simp [intOf]; omega⟩
          rw [HSL.out]
          exact hS
        · obtain rfl : m = ls.length := by omega
          rw [List.take_length] at HI
          go_wp2_with fail
          refine ⟨⟨i + 1, by omega, by go_num, Lib.hid ?_, hbi, hsi⟩, by simp [intOf]; omega⟩
          rw [HSU.out, show (fun a => sumL a (sumA a (gs.take i)) ls) = fun a => sumL a (f a) ls from funext fun a => by rw [congrFun HF.out a]]
          exact HI.out
    · have hfull : gs.take i = gs := List.take_of_length_le (by rw [← HLEN.out]; omega)
      rw [hfull] at HM
      clear hfull
      obtain ⟨wq, rfl⟩ : ∃ wq : World, wq = wr := ⟨_, rfl⟩
      go_wp2_with fail
      go_loopw [8, 9, 10] (fun out x y wi => ∃ k : Nat, k ≤ 7 ∧ x = .int .i64 ((k : Int) + 1) ∧ Hid (Own wi w.heap.size 41 2 Ln.enc out (sumsTo gs k)) ∧ Hid (wi.heap[w.heap.size]? = wq.heap[w.heap.size]?) ∧ Below w.heap.size w wi ∧ w.heap.size < wi.heap.size) (fun _ x _ _ => 8 - (intOf x).toNat)
      case atStart => exact ⟨0, by omega, rfl, Lib.hid (Own.nil _ _ _ _ _), Lib.hid rfl, hbel, hsz⟩
      case round =>
        obtain ⟨k, hk, rfl, HO, HB, hbi, hsi⟩ := hrel
        have hM := HM.out.block HB.out
        by_cases hlk : k < 7
        · have hlkI : (k : Int) + 1 ≤ 7 := by omega
          have e1 := hM.look col_law Try.underlying78 zero_i64 colK_inj colK_key (a := (k : Int) + 1) (by simp only [Lit.wf, Bool.and_eq_true, decide_eq_true_eq]; show (-9223372036854775808 : Int) ≤ _ ∧ _ ≤ (9223372036854775807 : Int); omega)
          have HSS := Lib.hid (sumsTo_succ gs k)
          have hsl := sumsTo_len gs k
          obtain ⟨y0, hy⟩ : ∃ y0, sumA ((k : Int) + 1) gs = y0 := ⟨_, rfl⟩
          rw [hy] at HSS e1
          clear hy
          have hne : ∀ v, Own wr w.heap.size 41 2 Ln.enc v (sumsTo gs k) → v.ownBlock ≠ some w.heap.size := fun v h => hM.ne_own h
          have HNE := Lib.hid (hne _ HO.out)
          clear hne hM
          by_cases hz : y0 = 0
          · have h1 : (y0 != 0) = false := by simp [hz]
            have HZ := Lib.hid hz
            clear hz
            go_wp2_with fail
            refine ⟨⟨k + 1, by omega, by go_num, Lib.hid ?_, HB, hbi, hsi⟩, by simp [intOf]; omega⟩
            rw [HSS.out, if_pos HZ.out, List.append_nil]
            exact HO.out
          · have h1 : (y0 != 0) = true := by simpa using hz
            go_wp2_with (at_builtin; go_must (refine wpl_app1 (w0 := w) w.heap.size rfl (.tmp 47) (.tmp 51) _ _ _ 2 16 rfl Try.underlying32 infoLn rfl (by decide) (by decide) Ln.enc Ln.enc_len _ _ ⟨(k : Int) + 1, y0⟩ _ rfl rfl rfl (Ln.one _) HO.out hbi hbi.size ?hl ?_; (case hl => omega); intro v1 w5 hown1 hbel1 hg1 _; have HO1 := Lib.hid hown1; have HG1 := Lib.hid hg1; clear hown1 hg1))
            refine ⟨⟨k + 1, by omega, by go_num, Lib.hid ?_, Lib.hid ((HG1.out.block _ hsi HNE.out.symm).trans HB.out), hbel1, Nat.lt_of_lt_of_le hsi HG1.out.size⟩, by simp [intOf]; omega⟩
            rw [HSS.out, if_neg hz]
            exact HO1.out
        · have hge : ¬ (k : Int) + 1 ≤ 7 := by omega
          obtain rfl : k = 7 := by omega
          go_wp2_with fail
          go_ret
          exact ⟨_, rfl, HO.out, hbi⟩
end Go.Proofs.Ytegmobdpbaeijaa
