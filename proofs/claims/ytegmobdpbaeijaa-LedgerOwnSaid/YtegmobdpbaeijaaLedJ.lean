/- The reference's Post where it posts. -/
import Derived.Test.YtegmobdpbaeijaaLedI
namespace Go.Proofs.Ytegmobdpbaeijaa
open Go.RowKit

theorem JR.one {T : TypeId} {w : World} {B base : Nat} {v : Value} {ps : List Pv} {gs : List Pg} {closed : Int} (hj : JR T w B base v ps gs closed) : ∀ p ∈ ps, ∀ u ∈ Pv.enc p, u.oneCell' = true := by
  intro p hp
  obtain ⟨g, _, hg⟩ := hj.hdr.mem p hp
  obtain ⟨A, c, e⟩ := hg.lines.shape
  exact Pv.one p (by rw [e]; rfl)
theorem ref_some {w w2 w4 W : World} {B base b1 cv cl cap : Nat} {A4 Av Al : Option Addr} {ps : List Pv} {gs : List Pg} {closed day1 : Int} {loan : ByteArray} {res : List Ln} {r : Int × Option Pg} {e : Ending} {val : Value}
    (hj : JR 54 w B base (.slice Av gs.length cv) ps gs closed) (hbase : base ≤ w.heap.size) (h2 : Below w.heap.size w w2) (hR : w.heap.size + 1 + 1 < w2.heap.size)
    (HO : Own w2 b1 41 2 Ln.enc (.slice Al res.length cl) res) (hb1 : w.heap.size + 3 ≤ b1)
    (H4 : Own w4 (w2.heap.size + 1) 34 4 Pv.enc (.slice A4 (gs.length + 1) cap) (ps ++ [⟨(gs.length : Int) + 1, day1, loan, .slice Al res.length cl⟩]) ∧ Below w2.heap.size w2 w4)
    (hm : ¬ gs.length = 65536) (h7 : res.length ≤ 7) (hr : r = (0, some ⟨(gs.length : Int) + 1, day1, loan, res⟩)) (he : e = .returned val)
    (hW : Mods (fun k => k = B ∨ k = w.heap.size + 1 + 1) w4 W) (hWB : W.heap[B]? = some (.cells #[.slice A4 (gs.length + 1) cap, .int .i64 closed] 54)) :
    RefPost w B base (.slice Av gs.length cv) ps gs closed r e W := by
  subst hr
  obtain ⟨own4, hb4⟩ := H4
  have hBlt : B < w.heap.size := (Array.getElem?_eq_some_iff.1 hj.blk).1
  have hs2 := h2.size
  have hs4 := hb4.size
  have lives : ∀ (bb : Nat) (u : Value) (ls : List Ln), Own w2 bb 41 2 Ln.enc u ls → (∀ b, u.ownBlock = some b → b ≠ B ∧ b ≠ w.heap.size + 1 + 1) → Own W bb 41 2 Ln.enc u ls := fun bb u ls h hne =>
    (h.kept fun b hb => hb4.block b (h.lt hb).2 : Own w4 bb _ 2 Ln.enc u ls).mods hW fun b hb hm => by
      rcases hm with hm | hm
      · exact (hne b hb).1 hm
      · exact (hne b hb).2 hm
  refine ⟨_, _, val, he, ⟨hWB, (own4.mods hW ?_).lower (by omega), ?_, ?_, ?_, hj.lo, hj.hi⟩, ?_, ?_, ?_⟩
  · intro b hb hm
    have := (own4.lt hb).1
    omega
  · refine All2.snoc (hj.hdr.mono fun q g _ _ h => ⟨h.num, h.day, h.loan, lives _ _ _ (h.lines.below h2) fun b hb => ⟨fun e => ?_, ?_⟩⟩) ⟨rfl, rfl, rfl, (lives _ _ _ HO fun b hb => ?_).lower (by omega)⟩
    · subst e
      exact h.lines.ne_blk hj.blk (by decide) hb
    · have := (h.lines.lt hb).2
      omega
    · have := (HO.lt hb).1
      omega
  · have := hj.many
    simp
    omega
  · intro g hg
    rcases List.mem_append.1 hg with hg | hg
    · exact hj.few g hg
    · have e : g = ⟨(gs.length : Int) + 1, day1, loan, res⟩ := by simpa using hg
      rw [e]
      exact h7
  · have m1 : Mods (fun k => k = B) w w4 := Mods.of_below (h2.trans (hb4.mono hs2)) _
    refine m1.trans hW fun i hi hm => ?_
    rcases hm with hm | hm
    · exact hm
    · omega
  · intro q hq
    rcases List.mem_append.1 hq with hq | hq
    · exact .inl hq
    · right
      obtain rfl := List.mem_singleton.1 hq
      intro b hb
      have := (HO.lt hb).1
      omega
  · intro b hb
    have := (own4.lt hb).1
    exact .inr (by omega)

theorem own0 {W : World} {E base : Nat} (h : W.heap[E]? = some (.cells #[] 34)) (hb : base ≤ E) : Own W base 34 4 Pv.enc (.slice (some ⟨E, 0, none⟩) 0 0) ([] : List Pv) :=
  ⟨by simp, .inr ⟨E, 0, #[], rfl, hb, h, Nat.le_refl _, by simp, by simp, by simp⟩⟩
theorem sl1 {W : World} {X : Nat} {p : Pv} {cs : Array Value} (h : W.heap[X]? = some (.cells cs 34)) (hcs : cs.toList = p.enc) : Sl W 4 Pv.enc (.slice (some ⟨X, 0, none⟩) 1 1) [p] := by
  refine ⟨some ⟨X, 0, none⟩, 1, rfl, by simp, fun hh => (by cases hh), fun _ => ⟨X, 0, rfl, fun j hj k u hu => ?_⟩⟩
  obtain rfl : j = 0 := by simpa using hj
  rw [cell_of_row _ _ _ _ _ _ h]
  have hu' : p.enc[k]? = some u := hu
  rw [← hcs] at hu'
  simpa using hu'

set_option maxRecDepth 100000 in
set_option maxHeartbeats 1000000 in
theorem ref_ok (B base : Nat) (v : Value) (ps : List Pv) (gs : List Pg) (closed day : Int) (loan : ByteArray) (f t : St) (w : World)
    (hj : JR 54 w B base v ps gs closed) (hl : loan.size ≤ 9223372036854775807) (hd : ¬ (day < -719162 ∨ 2932896 < day)) (hn : nameB loan = true) (he : errLed f t = 0) (hm : ¬ gs.length = 65536) (hx : ¬ 2932896 < max day (closed + 1)) (hz : ¬ (resLed f t).length = 0) (hbase : base ≤ w.heap.size) :
    Calls Try.prog 8 #[.pointer (some ⟨B, 0, none⟩), .int .i64 day, .string loan, .agg #[.int .i64 f.day, .int .i64 f.rate, .int .i64 f.prin, .int .i64 f.intr, .int .i64 f.fees, .int .i64 f.cred, .int .i64 f.out, .int .i64 f.inn, .int .i64 f.accr, .int .i64 f.chrg, .int .i64 f.late, .int .i64 f.buck], .agg #[.int .i64 t.day, .int .i64 t.rate, .int .i64 t.prin, .int .i64 t.intr, .int .i64 t.fees, .int .i64 t.cred, .int .i64 t.out, .int .i64 t.inn, .int .i64 t.accr, .int .i64 t.chrg, .int .i64 t.late, .int .i64 t.buck]] w (RefPost w B base v ps gs closed (postR gs.length closed day loan f t)) := by
  have HR := Lib.hid (show postR gs.length closed day loan f t = (0, some ⟨(gs.length : Int) + 1, max day (closed + 1), loan, resLed f t⟩) by rw [postR, if_neg hd, if_neg (by rw [hn]; decide), if_neg (by rw [he]; decide), if_neg hm, if_neg hx, if_neg hz])
  have HG := Lib.hid ((good_iff day).2 hd)
  have hlo := hj.lo
  have hhi := hj.hi
  have hmany := hj.many
  have HN := Lib.hid hn
  have HE := Lib.hid he
  clear he
  have hm' : decide ((65536 : Int) ≤ (gs.length : Int)) = false := by simp; omega
  have HG1 := Lib.hid (show goodB (max day (closed + 1)) = true by simp [goodB]; omega)
  have hz' : (((resLed f t).length : Int) == 0) = false := by simpa using hz
  have hm2 := Lib.hid hm
  clear hz hm hx
  clear hn hd
  obtain ⟨Av, cv, hv⟩ := hj.own.shape
  subst hv
  rw [hj.len] at *
  go_enter Try.func8, Try.ntmps8
  go_wp2_with fail
  refine (good_any day _).mono ?_
  rintro e w0 ⟨rfl, rfl⟩
  rw [HG.out]
  go_wp2_with fail
  refine (loan_any loan _ hl).mono ?_
  rintro e w0 ⟨rfl, rfl⟩
  rw [HN.out]
  go_wp2_with fail
  refine (lines21_same f t _).mono ?_
  rintro e w2 ⟨lv, rfl, hown, hb2⟩
  obtain ⟨Al, cl, hlv⟩ := hown.shape
  subst hlv
  have HB2 := Lib.hid (below_then (below3 w (.cells #[.int .i64 f.day, .int .i64 f.rate, .int .i64 f.prin, .int .i64 f.intr, .int .i64 f.fees, .int .i64 f.cred, .int .i64 f.out, .int .i64 f.inn, .int .i64 f.accr, .int .i64 f.chrg, .int .i64 f.late, .int .i64 f.buck] 29) (.cells #[.int .i64 t.day, .int .i64 t.rate, .int .i64 t.prin, .int .i64 t.intr, .int .i64 t.fees, .int .i64 t.cred, .int .i64 t.out, .int .i64 t.inn, .int .i64 t.accr, .int .i64 t.chrg, .int .i64 t.late, .int .i64 t.buck] 29) (.cells #[.int .i64 0, .int .i64 0, .string ⟨#[]⟩, .slice none 0 0] 34)) (by simp; omega) hb2)
  have kr := Lib.hid (keep_blk hb2 (heap3_2 w (.cells #[.int .i64 f.day, .int .i64 f.rate, .int .i64 f.prin, .int .i64 f.intr, .int .i64 f.fees, .int .i64 f.cred, .int .i64 f.out, .int .i64 f.inn, .int .i64 f.accr, .int .i64 f.chrg, .int .i64 f.late, .int .i64 f.buck] 29) (.cells #[.int .i64 t.day, .int .i64 t.rate, .int .i64 t.prin, .int .i64 t.intr, .int .i64 t.fees, .int .i64 t.cred, .int .i64 t.out, .int .i64 t.inn, .int .i64 t.accr, .int .i64 t.chrg, .int .i64 t.late, .int .i64 t.buck] 29) (.cells #[.int .i64 0, .int .i64 0, .string ⟨#[]⟩, .slice none 0 0] 34)))
  have kj := Lib.hid (keep_blk HB2.out hj.blk)
  have HO := Lib.hid hown
  clear hb2 hown
  obtain ⟨c2, f2, z2⟩ := blk_cells kr.out
  obtain ⟨c3, f3, z3⟩ := blk_cells kj.out
  rw [HE.out]
  go_wp2_with fail
  refine (good_any _ _).mono ?_
  rintro e w0 ⟨rfl, rfl⟩
  rw [HG1.out]
  go_wp2_with fail
  generalize hday : max day (closed + 1) = day1 at *
  have HDAY := Lib.hid hday
  clear hday
  have hlen7 := resLed_len f t
  have zB : B < w2.heap.size := z3
  have zR : w.heap.size + 1 + 1 < w2.heap.size := z2
  have hBlt : B < w.heap.size := (Array.getElem?_eq_some_iff.1 hj.blk).1
  have e1 : ¬ B = w.heap.size + 1 + 1 := by omega
  have e2 : ¬ w.heap.size + 1 + 1 = B := by omega
  have e3 : ¬ B = w2.heap.size := by omega
  have e4 : ¬ w2.heap.size = B := by omega
  have zB1 : B < w2.heap.size + 1 := by omega
  have zB2 : B < w2.heap.size + 1 + 1 := by omega
  have zB3 : B < w2.heap.size + 1 + 1 + 1 := by omega
  have slx := Lib.hid ((hj.own.below HB2.out).sl Pv.enc_len)
  have hpl := hj.len
  have hbase2 := HB2.out.size
  have kpl := Lib.hid (JR.one hj)
  have hE1 := Lib.hid (show ((w2.alloc (.cells #[.int .i64 ((gs.length : Int) + 1), .int .i64 day1, .string loan, .slice Al (resLed f t).length cl] 34)).alloc (.cells #[] 34)).heap[w2.heap.size + 1]? = some (.cells #[] 34) from heap_alloc2_new _ _ _)
  have hX1 := Lib.hid (show ((w2.alloc (.cells #[.int .i64 ((gs.length : Int) + 1), .int .i64 day1, .string loan, .slice Al (resLed f t).length cl] 34)).alloc (.cells #[.int .i64 ((gs.length : Int) + 1), .int .i64 day1, .string loan, .slice Al (resLed f t).length cl] 34)).heap[w2.heap.size + 1]? = some (.cells #[.int .i64 ((gs.length : Int) + 1), .int .i64 day1, .string loan, .slice Al (resLed f t).length cl] 34) from heap_alloc2_new _ _ _)
  have hE2 := Lib.hid (show (((w2.alloc (.cells #[.int .i64 ((gs.length : Int) + 1), .int .i64 day1, .string loan, .slice Al (resLed f t).length cl] 34)).alloc (.cells #[.int .i64 ((gs.length : Int) + 1), .int .i64 day1, .string loan, .slice Al (resLed f t).length cl] 34)).alloc (.cells #[] 34)).heap[w2.heap.size + 1 + 1]? = some (.cells #[] 34) from heap3_2 _ _ _ _)
  have hX2 := Lib.hid (show (((w2.alloc (.cells #[.int .i64 ((gs.length : Int) + 1), .int .i64 day1, .string loan, .slice Al (resLed f t).length cl] 34)).alloc (.cells #[] 34)).alloc (.cells #[.int .i64 ((gs.length : Int) + 1), .int .i64 day1, .string loan, .slice Al (resLed f t).length cl] 34)).heap[w2.heap.size + 1 + 1]? = some (.cells #[.int .i64 ((gs.length : Int) + 1), .int .i64 day1, .string loan, .slice Al (resLed f t).length cl] 34) from heap3_2 _ _ _ _)
  have hE3 := Lib.hid (show (((w2.alloc (.cells #[.int .i64 ((gs.length : Int) + 1), .int .i64 day1, .string loan, .slice Al (resLed f t).length cl] 34)).alloc (.cells #[] 34)).alloc (.cells #[.int .i64 ((gs.length : Int) + 1), .int .i64 day1, .string loan, .slice Al (resLed f t).length cl] 34)).heap[w2.heap.size + 1]? = some (.cells #[] 34) from heap3_1 _ _ _ _)
  have hX3 := Lib.hid (show (((w2.alloc (.cells #[.int .i64 ((gs.length : Int) + 1), .int .i64 day1, .string loan, .slice Al (resLed f t).length cl] 34)).alloc (.cells #[.int .i64 ((gs.length : Int) + 1), .int .i64 day1, .string loan, .slice Al (resLed f t).length cl] 34)).alloc (.cells #[] 34)).heap[w2.heap.size + 1]? = some (.cells #[.int .i64 ((gs.length : Int) + 1), .int .i64 day1, .string loan, .slice Al (resLed f t).length cl] 34) from heap3_1 _ _ _ _)
  have hP1 := Lib.hid (show ((w2.alloc (.cells #[.int .i64 ((gs.length : Int) + 1), .int .i64 day1, .string loan, .slice Al (resLed f t).length cl] 34)).alloc (.cells #[] 34)).heap[w2.heap.size]? = some (.cells #[.int .i64 ((gs.length : Int) + 1), .int .i64 day1, .string loan, .slice Al (resLed f t).length cl] 34) from heap_alloc2_old _ _ _)
  have hP2 := Lib.hid (show (((w2.alloc (.cells #[.int .i64 ((gs.length : Int) + 1), .int .i64 day1, .string loan, .slice Al (resLed f t).length cl] 34)).alloc (.cells #[] 34)).alloc (.cells #[.int .i64 ((gs.length : Int) + 1), .int .i64 day1, .string loan, .slice Al (resLed f t).length cl] 34)).heap[w2.heap.size]? = some (.cells #[.int .i64 ((gs.length : Int) + 1), .int .i64 day1, .string loan, .slice Al (resLed f t).length cl] 34) from heap3_0 _ _ _ _)
  have hP3 := Lib.hid (show (((w2.alloc (.cells #[.int .i64 ((gs.length : Int) + 1), .int .i64 day1, .string loan, .slice Al (resLed f t).length cl] 34)).alloc (.cells #[.int .i64 ((gs.length : Int) + 1), .int .i64 day1, .string loan, .slice Al (resLed f t).length cl] 34)).alloc (.cells #[] 34)).heap[w2.heap.size]? = some (.cells #[.int .i64 ((gs.length : Int) + 1), .int .i64 day1, .string loan, .slice Al (resLed f t).length cl] 34) from heap3_0 _ _ _ _)
  go_region_law (first | (refine step_appN (w2.heap.size + 1) rfl (.tmp 67) (.tmp 71) _ _ _ 4 56 rfl Try.underlying42 infoPv rfl (by decide) (by decide) Pv.enc Pv.enc_len _ (.slice Av gs.length cv) [] ps rfl rfl ?qone1 ?qo1 ?qx1 ?qb1 ?ql1 ?_; (case qone1 => exact kpl.out); (case qo1 => first | exact own0 hE1.out (Nat.le_refl _) | exact own0 hE3.out (Nat.le_refl _) | exact own0 hE2.out (Nat.le_succ _)); (case qx1 => refine slx.out.below ?_; repeat (first | exact Below.refl _ _ | refine Below.alloc ?_ (by simp; try omega) _ | refine Below.drew ?_)); (case qb1 => (simp; try omega)); (case ql1 => (simp only [List.length_nil]; omega)); intro v3 w3 hown3 hg3 hat3; rw [List.nil_append] at hown3; have hb3 : Below w2.heap.size w2 w3 := (by (refine Below.grown ?_ hg3 ?_ ?_); (repeat (first | exact Below.refl _ _ | refine Below.alloc ?_ (by simp; try omega) _ | refine Below.drew ?_)); (simp; try omega); (intro k hk; injection hk with hk; simp only at hk; omega)); have kp3 : w3.heap[w2.heap.size]? = some (.cells #[.int .i64 ((gs.length : Int) + 1), .int .i64 day1, .string loan, .slice Al (resLed f t).length cl] 34) := (by (refine grownBy_blk hg3 ?_ ?_); (first | exact hP1.out | exact hP2.out | exact hP3.out); (intro hk; injection hk with hk; simp only at hk; omega)); have kj3 := keep_blk hb3 kj.out; have kr3 := keep_blk hb3 kr.out; have hs3 := hb3.size; obtain ⟨A3, cap3, hv3⟩ := hown3.shape; rw [hpl] at hv3; have HO3 := Lib.hid (And.intro hown3 (And.intro hg3 (And.intro hat3 hb3))); have K3 := Lib.hid (And.intro kp3 (And.intro kj3 kr3)); clear hown3 hg3 hat3 hb3 c2 f2 z2 c3 f3 z3; subst hv3; obtain ⟨c2, f2, z2⟩ := blk_cells kr3; obtain ⟨c3, f3, z3⟩ := blk_cells kj3; obtain ⟨c6, f6, z6⟩ := blk_cells kp3; clear kp3 kj3 kr3) | (refine step_appN (w2.heap.size + 1) rfl (.tmp 72) (.tmp 74) _ _ _ 4 56 rfl Try.underlying42 infoPv rfl (by decide) (by decide) Pv.enc Pv.enc_len _ _ ps [⟨(gs.length : Int) + 1, day1, loan, .slice Al (resLed f t).length cl⟩] rfl rfl ?qone2 ?qo2 ?qx2 ?qb2 ?ql2 ?_; (case qone2 => intro y hy u hu; obtain rfl := List.mem_singleton.1 hy; exact Pv.one _ rfl u hu); (case qo2 => first | exact HO3.out.1 | exact HO3.out.1.alloc _); (case qx2 => refine sl1 (cs := #[.int .i64 ((gs.length : Int) + 1), .int .i64 day1, .string loan, .slice Al (resLed f t).length cl]) ?_ rfl; first | exact heap_alloc_new _ _ | (exact grownBy_blk HO3.out.2.1 hX2.out (fun hk => (by injection hk with hk; simp only at hk; omega))) | (exact grownBy_blk HO3.out.2.1 hX3.out (fun hk => (by injection hk with hk; simp only at hk; omega)))); (case qb2 => first | omega | (simp; omega)); (case ql2 => (simp only [List.length_cons, List.length_nil]; omega)); intro v4 w4 hown4 hg4 hat4; have hr4 : ∀ k, (Value.slice A3 gs.length cap3).ownBlock = some k → w2.heap.size + 1 ≤ k := (fun k hk => (HO3.out.1.lt hk).1); have hb4 : Below w2.heap.size w2 w4 := (by (refine Below.grown ?_ hg4 ?_ ?_); (first | exact HO3.out.2.2.2 | exact HO3.out.2.2.2.alloc HO3.out.2.2.2.size _); (first | exact HO3.out.2.2.2.size | (simp; omega)); (intro k hk; have := hr4 k hk; omega)); have kp4 : w4.heap[w2.heap.size]? = some (.cells #[.int .i64 ((gs.length : Int) + 1), .int .i64 day1, .string loan, .slice Al (resLed f t).length cl] 34) := (by (refine grownBy_blk hg4 ?_ ?_); (first | exact K3.out.1 | exact (Below.heap_alloc _ _ _ z6).trans K3.out.1); (intro hk; have := hr4 _ hk; omega)); have kj4 := keep_blk hb4 kj.out; have kr4 := keep_blk hb4 kr.out; have HO4 := Lib.hid (And.intro hown4 hb4); have K4 := Lib.hid kj4; obtain ⟨A4, cap4, hv4⟩ := hown4.shape; rw [List.length_append, hpl] at hv4; clear hown4 hg4 hat4 hb4 hr4 c2 f2 z2 c3 f3 z3 c6 f6 z6; subst hv4; obtain ⟨c2, f2, z2⟩ := blk_cells kr4; obtain ⟨c3, f3, z3⟩ := blk_cells kj4; obtain ⟨c6, f6, z6⟩ := blk_cells kp4; clear kp4 kj4 kr4))
  all_goals
    go_wp2
    refine bodyPost_ret (v := .tuple #[.agg #[.int .i64 ((gs.length : Int) + 1), .int .i64 day1, .string loan, .slice Al (resLed f t).length cl], .bool true, .int .i64 0]) (by simp [results, Try.results8, go_sem, c2]) rfl ?_
    refine ref_some hj hbase HB2.out zR HO.out (by simp) HO4.out hm2.out hlen7 HR.out rfl ?_ ?_
    · repeat (first | (with_reducible exact Mods.refl _ _) | (with_reducible refine Mods.drew ?_) | (with_reducible refine Mods.set ?_ (fun _ => by simp) _))
    · refine heap_mods (M := fun k => k = w.heap.size + 1 + 1) (w := w4.setCell ⟨B, 0, none⟩ (.slice A4 (gs.length + 1) cap4)) ?_ (heap_setCell_same w4 B 0 _ _ _ K4.out) e1
      repeat (first | (with_reducible exact Mods.refl _ _) | (with_reducible refine Mods.drew ?_) | (with_reducible refine Mods.set ?_ (fun _ => by simp) _))

end Go.Proofs.Ytegmobdpbaeijaa
