/- Contracts of the ledger's functions that copy postings. -/
import Derived.Test.YtegmobdpbaeijaaLedA
namespace Go.Proofs.Ytegmobdpbaeijaa
open Go.RowKit

/-- A posting, its lines read. -/
structure Pg where
  num : Int
  day : Int
  loan : ByteArray
  lines : List Ln
/-- What lies as p reads as g. -/
structure Hdr (w : World) (p : Pv) (g : Pg) : Prop where
  num : p.num = g.num
  day : p.day = g.day
  loan : p.loan = g.loan
  lines : Sl w 2 Ln.enc p.lines g.lines
/-- The same, the lines being the call's own. -/
structure HdrO (w : World) (B : Nat) (p : Pv) (g : Pg) : Prop where
  num : p.num = g.num
  day : p.day = g.day
  loan : p.loan = g.loan
  lines : Own w B 41 2 Ln.enc p.lines g.lines
theorem HdrO.hdr {w : World} {B : Nat} {p : Pv} {g : Pg} (h : HdrO w B p g) : Hdr w p g := ⟨h.num, h.day, h.loan, h.lines.sl Ln.enc_len⟩

theorem slice_one {α : Type} {w : World} {sz : Nat} {enc : α → List Value} {v : Value} {ys : List α} (h : Sl w sz enc v ys) : v.oneCell' = true := by
  obtain ⟨A, c, rfl⟩ := h.shape
  rfl

set_option maxHeartbeats 400000 in
theorem within_any (v : Value) (ps : List Pv) (gs : List Pg) (from_ to_ : Int) (w : World) (hv : Sl w 4 Pv.enc v ps) (hp : All2 (Hdr w) ps gs) (hb : ps.length * 56 ≤ 140737488355328) (hbn : ∀ g ∈ gs, g.lines.length * 16 ≤ 140737488355328) :
    Calls Try.prog 20 #[v, .int .i64 from_, .int .i64 to_] w fun e w' =>
      ∃ u qs, e = .returned u ∧ Own w' w.heap.size 34 4 Pv.enc u qs ∧ All2 (HdrO w' w.heap.size) qs (gs.filter fun g => inB from_ to_ g.day) ∧ Below w.heap.size w w' := by
  obtain ⟨A, c, rfl, hl, _, hc⟩ := hv
  have HC := Lib.hid hc
  have HP := Lib.hid hp
  clear hc hp
  go_enter Try.func20, Try.ntmps20
  go_wp2
  go_loopw [7, 9, 12] (fun out i j wr => ∃ k : Nat, k ≤ ps.length ∧ j = .int .i64 k ∧ Hid (∃ qs, Own wr w.heap.size 34 4 Pv.enc out qs ∧ qs.length ≤ k ∧ All2 (HdrO wr w.heap.size) qs ((gs.take k).filter fun g => inB from_ to_ g.day)) ∧ Below w.heap.size w wr) (fun _ _ j _ => ps.length - (intOf j).toNat)
  case atStart => exact ⟨0, by omega, rfl, Lib.hid ⟨[], Own.nil _ _ _ _ _, by simp, by simpa using All2.nil⟩, Below.refl _ _⟩
  case round =>
    obtain ⟨k, hk, rfl, HO, hbel⟩ := hrel
    by_cases hlt : k < ps.length
    · obtain ⟨b, off, rfl, hbl, h0, h1, h2, h3⟩ := cells4 HC.out k hlt
      have g0 := (hbel.cell (p := ⟨b, off + k * 4, none⟩) hbl).trans h0
      have g1 := (hbel.cell (p := ⟨b, off + k * 4 + 1, none⟩) hbl).trans h1
      have g2 := (hbel.cell (p := ⟨b, off + k * 4 + 2, none⟩) hbl).trans h2
      have g3 := (hbel.cell (p := ⟨b, off + k * 4 + 3, none⟩) hbl).trans h3
      clear h0 h1 h2 h3
      have hgl : k < gs.length := by rw [← HP.out.len]; exact hlt
      have hd := HP.out.at k hlt hgl
      obtain ⟨A1, c1, hs⟩ := hd.lines.shape
      have hln := hd.lines
      rw [hs] at hln
      have HLN := Lib.hid hln
      have HD := Lib.hid hd
      clear hln hd
      by_cases i1 : from_ ≤ ps[k].day <;> by_cases i2 : ps[k].day ≤ to_
      · go_wp2_with fail
        refine (clone_any ⟨ps[k].num, ps[k].day, ps[k].loan, .slice A1 gs[k].lines.length c1⟩ gs[k].lines _ ?q1 (hbn _ (List.getElem_mem _))).mono ?q2
        case q1 => exact (HLN.out.below hbel).below ((Below.refl _ _).alloc (Nat.le_refl _) _)
        case q2 =>
        rintro e w1 ⟨v1, rfl, hown, hbel1⟩
        obtain ⟨qs, ho, hql, ha⟩ := HO.out
        have hbel2 : Below w.heap.size w w1 := below_then (hbel.alloc hbel.size _) (by have := hbel.size; simp; omega) hbel1
        have ho1 := (ho.alloc (.cells #[.int .i64 ps[k].num, .int .i64 ps[k].day, .string ps[k].loan, .slice A1 gs[k].lines.length c1] 34)).below hbel1
        have hown1 := Own.lower (B := w.heap.size) hown (by have := hbel.size; simp; omega)
        have ha1 : All2 (HdrO w1 w.heap.size) qs ((gs.take k).filter fun g => inB from_ to_ g.day) := ha.mono fun p g _ _ h => ⟨h.num, h.day, h.loan, (h.lines.alloc _).below hbel1⟩
        obtain ⟨A2, c2, hv1⟩ := hown1.shape
        have HH := Lib.hid (And.intro hbel2 (And.intro ho1 (And.intro hown1 ha1)))
        clear hbel2 ho1 hown1 ha1 hown hbel1 ho ha
        subst hv1
        go_wp2_with (at_builtin; go_must (refine wpl_app1 (w0 := w) w.heap.size rfl (.tmp 26) (.tmp 29) _ _ _ 4 56 rfl Try.underlying42 infoPv rfl (by decide) (by decide) Pv.enc Pv.enc_len _ qs ⟨ps[k].num, ps[k].day, ps[k].loan, .slice A2 gs[k].lines.length c2⟩ _ rfl rfl rfl (Pv.one _ rfl) HH.out.2.1 HH.out.1 HH.out.1.size ?hl ?_; (case hl => omega); intro v2 w2 hown2 hbel2 hg2 _; have HO2 := Lib.hid hown2; have HB2 := Lib.hid hbel2; have HG2 := Lib.hid hg2; clear hown2 hbel2 hg2))
        obtain ⟨hbel2, ho1, hown1, ha1⟩ := HH.out
        refine ⟨⟨k + 1, by omega, by go_num, Lib.hid ⟨_, HO2.out, by simp; omega, ?_⟩, HB2.out⟩, by simp [intOf]; omega⟩
        rw [filter_snoc _ _ _ hgl, if_pos (by simp [inB, ← HD.out.day, i1, i2])]
        refine All2.snoc (ha1.mono fun p g _ _ h => ⟨h.num, h.day, h.loan, h.lines.other ho1 (by decide) HG2.out⟩) ⟨HD.out.num, HD.out.day, HD.out.loan, hown1.other ho1 (by decide) HG2.out⟩
      all_goals
        go_wp2_with fail
        obtain ⟨qs, ho, hql, ha⟩ := HO.out
        refine ⟨⟨k + 1, by omega, by go_num, Lib.hid ⟨qs, ho.alloc _, by omega, ?_⟩, hbel.alloc hbel.size _⟩, by simp [intOf]; omega⟩
        rw [filter_snoc _ _ _ hgl, if_neg (by simp [inB, ← HD.out.day]; omega), List.append_nil]
        exact ha.mono fun p g _ _ h => ⟨h.num, h.day, h.loan, h.lines.alloc _⟩
    · go_wp2_with fail
      go_ret
      obtain ⟨qs, ho, hql, ha⟩ := HO.out
      rw [List.take_of_length_le (by rw [← HP.out.len]; omega)] at ha
      exact ⟨_, qs, rfl, ho, ha, hbel⟩

end Go.Proofs.Ytegmobdpbaeijaa
