/- The reference's Balance; the journal's Postings, Closed, Close and New. -/
import Derived.Test.YtegmobdpbaeijaaLedK
import Derived.Test.YtegmobdpbaeijaaLedJ
namespace Go.Proofs.Ytegmobdpbaeijaa
open Go.RowKit

def isL (loan : ByteArray) (g : Pg) : Bool := g.loan.toList == loan.toList

set_option maxHeartbeats 1000000 in
theorem balance21_any (v : Value) (ps : List Pv) (gs : List Pg) (loan : ByteArray) (w : World) (hv : Sl w 4 Pv.enc v ps) (hp : All2 (Hdr w) ps gs) (hb : ps.length * 56 ≤ 140737488355328) :
    Calls Try.prog 26 #[v, .string loan] w fun e w' => ∃ u, e = .returned u ∧ Own w' w.heap.size 41 2 Ln.enc u (sumsOf (gs.filter (isL loan))) ∧ Below w.heap.size w w' := by
  obtain ⟨A, c, rfl, hl, _, hc⟩ := hv
  have HC := Lib.hid hc
  have HP := Lib.hid hp
  clear hc hp
  go_enter Try.func26, Try.ntmps26
  go_wp2
  go_loopw [5, 6, 9] (fun out i j wr => ∃ k : Nat, k ≤ ps.length ∧ j = .int .i64 k ∧ Hid (∃ qs, Own wr w.heap.size 34 4 Pv.enc out qs ∧ qs.length ≤ k ∧ All2 (Hdr w) qs ((gs.take k).filter (isL loan))) ∧ Below w.heap.size w wr) (fun _ _ j _ => ps.length - (intOf j).toNat)
  case atStart => exact ⟨0, by omega, rfl, Lib.hid ⟨[], Own.nil _ _ _ _ _, by simp, by simpa using All2.nil⟩, Below.refl _ _⟩
  case round =>
    obtain ⟨k, hk, rfl, HO, hbel⟩ := hrel
    by_cases hlt : k < ps.length
    · have hgl : k < gs.length := by rw [← HP.out.len]; exact hlt
      obtain ⟨b, off, rfl, hbl, h0, h1, h2, h3⟩ := cells4 HC.out k hlt
      have g0 := (hbel.cell (p := ⟨b, off + k * 4, none⟩) hbl).trans h0
      have g1 := (hbel.cell (p := ⟨b, off + k * 4 + 1, none⟩) hbl).trans h1
      have g2 := (hbel.cell (p := ⟨b, off + k * 4 + 2, none⟩) hbl).trans h2
      have g3 := (hbel.cell (p := ⟨b, off + k * 4 + 3, none⟩) hbl).trans h3
      clear h0 h1 h2 h3
      have hd := HP.out.at k hlt hgl
      obtain ⟨A1, c1, hs⟩ := hd.lines.shape
      have HD := Lib.hid hd
      clear hd
      have HSN := Lib.hid (filter_snoc (isL loan) gs k hgl)
      have HIS := Lib.hid (show isL loan gs[k] = (ps[k].loan.toList == loan.toList) by rw [isL, HD.out.loan])
      obtain ⟨qs, ho, hql, ha⟩ := HO.out
      have HO' := Lib.hid ho
      have HA' := Lib.hid ha
      clear ho ha
      by_cases hq : ps[k].loan.toList = loan.toList
      · have h1 : (ps[k].loan.toList == loan.toList) = true := by simp [hq]
        have HQ := Lib.hid h1
        clear hq
        have HP3 := Lib.hid (show ps[k] = ⟨ps[k].num, ps[k].day, ps[k].loan, .slice A1 gs[k].lines.length c1⟩ by rw [← hs])
        go_wp2_with (at_builtin; go_must (refine wpl_app1 (w0 := w) w.heap.size rfl (.tmp 19) (.tmp 24) _ _ _ 4 56 rfl Try.underlying42 infoPv rfl (by decide) (by decide) Pv.enc Pv.enc_len _ qs ⟨ps[k].num, ps[k].day, ps[k].loan, .slice A1 gs[k].lines.length c1⟩ _ rfl rfl rfl (Pv.one _ rfl) HO'.out hbel hbel.size ?hl ?_; (case hl => omega); intro v2 w2 hown2 hbel2 hg2 _; have HO2 := Lib.hid hown2; have HB2 := Lib.hid hbel2; clear hown2 hbel2 hg2))
        refine ⟨⟨k + 1, by omega, by go_num, Lib.hid ⟨_, HO2.out, by simp; omega, ?_⟩, HB2.out⟩, by simp [intOf]; omega⟩
        rw [HSN.out, if_pos (by rw [HIS.out]; exact HQ.out)]
        exact HA'.out.snoc (by rw [← HP3.out]; exact HD.out)
      · have h1 : (ps[k].loan.toList == loan.toList) = false := by simpa using hq
        go_wp2_with fail
        refine ⟨⟨k + 1, by omega, by go_num, Lib.hid ⟨qs, HO'.out, by omega, ?_⟩, hbel⟩, by simp [intOf]; omega⟩
        rw [HSN.out, if_neg (by rw [HIS.out]; simpa using hq), List.append_nil]
        exact HA'.out
    · go_wp2_with fail
      obtain ⟨qs, ho, hql, ha⟩ := HO.out
      rw [List.take_of_length_le (by rw [← HP.out.len]; omega)] at ha
      refine (sums21_any _ qs (gs.filter (isL loan)) _ (ho.sl Pv.enc_len) (ha.mono fun p g _ _ h => ⟨h.num, h.day, h.loan, h.lines.below hbel⟩)).mono ?_
      rintro e w1 ⟨u, rfl, hown, hb1⟩
      have HF := Lib.hid (And.intro (hown.lower hbel.size) (below_then hbel hbel.size hb1))
      clear hown hb1
      go_wp2_with fail
      go_ret
      exact ⟨_, rfl, HF.out.1, HF.out.2⟩

theorem postingsJ_any (B base : Nat) (v : Value) (ps : List Pv) (gs : List Pg) (closed from_ to_ : Int) (w : World) (hj : JR 52 w B base v ps gs closed) :
    Calls Try.prog 9 #[.pointer (some ⟨B, 0, none⟩), .int .i64 from_, .int .i64 to_] w fun e w' =>
      ∃ u qs, e = .returned u ∧ Own w' w.heap.size 34 4 Pv.enc u qs ∧ All2 (HdrO w' w.heap.size) qs (gs.filter fun g => inB from_ to_ g.day) ∧ Below w.heap.size w w' := by
  have HW := Lib.hid (within_any v ps gs from_ to_ w (hj.own.sl Pv.enc_len) (hj.hdr.mono fun _ _ _ _ h => h.hdr) (by rw [hj.len]; have := hj.many; omega) (fun g hg => by have := hj.few g hg; omega))
  obtain ⟨c0, f0, z0⟩ := blk_cells hj.blk
  obtain ⟨Av, cv, hv⟩ := hj.own.shape
  subst hv
  go_enter Try.func9, Try.ntmps9
  go_wp2_with fail
  refine HW.out.mono ?_
  rintro e w1 ⟨u, qs, rfl, h1, h2, h3⟩
  have HF := Lib.hid (And.intro h1 (And.intro h2 h3))
  clear h1 h2 h3
  go_wp2_with fail
  go_ret
  exact ⟨_, qs, rfl, HF.out.1, HF.out.2.1, HF.out.2.2⟩

theorem closed_any (B base : Nat) (v : Value) (ps : List Pv) (gs : List Pg) (closed : Int) (w : World) (hj : JR 52 w B base v ps gs closed) :
    Calls Try.prog 12 #[.pointer (some ⟨B, 0, none⟩)] w fun e w' => e = .returned (.int .i64 closed) ∧ w = w' := by
  obtain ⟨c0, f0, z0⟩ := blk_cells hj.blk
  go_enter Try.func12, Try.ntmps12
  go_wp2
  go_ret
  exact ⟨rfl, rfl⟩

theorem newJ_any (w : World) : Calls Try.prog 5 #[] w fun e w' => e = .returned (.pointer (some ⟨w.heap.size, 0, none⟩)) ∧ w' = w.alloc (.cells #[.slice none 0 0, .int .i64 (-719163)] 52) := by
  go_enter Try.func5, Try.ntmps5
  go_wp2
  go_ret
  exact ⟨rfl, rfl⟩
theorem newR_any (w : World) : Calls Try.prog 6 #[] w fun e w' => e = .returned (.pointer (some ⟨w.heap.size, 0, none⟩)) ∧ w' = w.alloc (.cells #[.slice none 0 0, .int .i64 (-719163)] 54) := by
  go_enter Try.func6, Try.ntmps6
  go_wp2
  go_ret
  exact ⟨rfl, rfl⟩
theorem JR.new (T : TypeId) (w : World) (base : Nat) : JR T (w.alloc (.cells #[.slice none 0 0, .int .i64 (-719163)] T)) w.heap.size base (.slice none 0 0) [] [] (-719163) :=
  ⟨heap_alloc_new _ _, Own.nil _ _ _ _ _, .nil, by simp, by simp, by omega, by omega⟩

theorem refPost_any (B base : Nat) (v : Value) (ps : List Pv) (gs : List Pg) (closed day : Int) (loan : ByteArray) (f t : St) (w : World)
    (hj : JR 54 w B base v ps gs closed) (hbase : base ≤ w.heap.size) (hl : loan.size ≤ 9223372036854775807) :
    Calls Try.prog 8 #[.pointer (some ⟨B, 0, none⟩), .int .i64 day, .string loan, .agg #[.int .i64 f.day, .int .i64 f.rate, .int .i64 f.prin, .int .i64 f.intr, .int .i64 f.fees, .int .i64 f.cred, .int .i64 f.out, .int .i64 f.inn, .int .i64 f.accr, .int .i64 f.chrg, .int .i64 f.late, .int .i64 f.buck], .agg #[.int .i64 t.day, .int .i64 t.rate, .int .i64 t.prin, .int .i64 t.intr, .int .i64 t.fees, .int .i64 t.cred, .int .i64 t.out, .int .i64 t.inn, .int .i64 t.accr, .int .i64 t.chrg, .int .i64 t.late, .int .i64 t.buck]] w (RefPost w B base v ps gs closed (postR gs.length closed day loan f t)) := by
  by_cases hd : day < -719162 ∨ 2932896 < day
  · exact ref_day B base v ps gs closed day loan f t w hj hd
  · by_cases hn : nameB loan = true
    · by_cases he : errLed f t = 0
      · by_cases hm : gs.length = 65536
        · exact ref_long B base v ps gs closed day loan f t w hj hl hd hn he hm
        · by_cases hx : 2932896 < max day (closed + 1)
          · exact ref_late B base v ps gs closed day loan f t w hj hl hd hn he hm hx
          · by_cases hz : (resLed f t).length = 0
            · exact ref_same B base v ps gs closed day loan f t w hj hl hd hn he hm hx hz
            · exact ref_ok B base v ps gs closed day loan f t w hj hl hd hn he hm hx hz hbase
      · exact ref_err B base v ps gs closed day loan f t w hj hl hd hn he
    · exact ref_name B base v ps gs closed day loan f t w hj hl hd (by simpa using hn)

end Go.Proofs.Ytegmobdpbaeijaa
