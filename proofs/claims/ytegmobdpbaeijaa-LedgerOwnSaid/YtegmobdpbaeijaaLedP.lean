/- The ledger's closure on postings of one loan; slices.IndexFunc and slices.DeleteFunc of postings with it. -/
import Derived.Test.YtegmobdpbaeijaaLedB
import Derived.Test.YtegmobdpbaeijaaRow
namespace Go.Proofs.Ytegmobdpbaeijaa
open Go.RowKit

/-- Is it another loan's posting? -/
def notL (loan : ByteArray) (p : Pv) : Bool := p.loan.toList != loan.toList
abbrev isSl (v : Value) : Prop := ∃ A n c, v = .slice A n c
abbrev balF (L : Nat) : Value := .func (.func 36) #[] #[.pointer (some ⟨L, 0, none⟩)]

theorem bal1_any (p : Pv) (loan : ByteArray) (L : Nat) (w : World) (hL : w.cell? ⟨L, 0, none⟩ = some (.string loan)) (hs : isSl p.lines) :
    Calls Try.prog 36 #[.agg #[.int .i64 p.num, .int .i64 p.day, .string p.loan, p.lines], .pointer (some ⟨L, 0, none⟩)] w fun e w' => e = .returned (.bool (notL loan p)) ∧ Below w.heap.size w w' := by
  obtain ⟨num, day, pl, lines⟩ := p
  obtain ⟨A, n, c, rfl⟩ := hs
  have hlt := cell_lt hL
  have hE : notL loan ⟨num, day, pl, .slice A n c⟩ = (pl.toList != loan.toList) := rfl
  rw [hE]
  have HE := hE
  clear hE HE
  by_cases hq : pl.toList = loan.toList
  · have h1 : (pl.toList != loan.toList) = false := by simp [hq]
    have h2 : (pl.toList == loan.toList) = true := by simp [hq]
    clear hq
    go_enter Try.func36, Try.ntmps36
    go_wp2
    go_ret
    exact ⟨ret_bool h1.symm, (Below.refl _ _).alloc (Nat.le_refl _) _⟩
  · have h1 : (pl.toList != loan.toList) = true := by simpa using hq
    have h2 : (pl.toList == loan.toList) = false := by simpa using hq
    clear hq
    go_enter Try.func36, Try.ntmps36
    go_wp2
    go_ret
    exact ⟨ret_bool h1.symm, (Below.refl _ _).alloc (Nat.le_refl _) _⟩

/-- The place of the first posting of another loan, or -1. -/
def IdxPost (loan : ByteArray) (ps : List Pv) (w : World) (e : Ending) (w' : World) : Prop :=
  Below w.heap.size w w' ∧ ((e = .returned (.int .i64 (-1)) ∧ ∀ j (h : j < ps.length), notL loan ps[j] = false) ∨ ∃ k, ∃ h : k < ps.length, e = .returned (.int .i64 k) ∧ notL loan ps[k] = true ∧ ∀ j, ∀ h : j < k, notL loan ps[j] = false)

set_option maxHeartbeats 400000 in
theorem idxP_any (v : Value) (ps : List Pv) (loan : ByteArray) (L : Nat) (w : World) (hv : Sl w 4 Pv.enc v ps) (hs : ∀ p ∈ ps, isSl p.lines) (hL : w.cell? ⟨L, 0, none⟩ = some (.string loan)) :
    Calls Try.prog 38 #[v, balF L] w (IdxPost loan ps w) := by
  obtain ⟨A, c, rfl, hl, _, hc⟩ := hv
  have HC := Lib.hid hc
  have HS := Lib.hid hs
  clear hc hs
  go_enter Try.func38, Try.ntmps38
  go_wp2
  go_loopw [5, 8] (fun x j wr => ∃ k : Nat, k ≤ ps.length ∧ j = .int .i64 k ∧ Hid (∀ j, ∀ h : j < k, ∀ h' : j < ps.length, notL loan ps[j] = false) ∧ Below w.heap.size w wr) (fun _ j _ => ps.length - (intOf j).toNat)
  case atStart => exact ⟨0, by omega, rfl, Lib.hid (fun j h => by omega), Below.refl _ _⟩
  case round =>
    obtain ⟨k, hk, rfl, HF, hbel⟩ := hrel
    by_cases hlt : k < ps.length
    · obtain ⟨b, off, rfl, hbl, h0, h1, h2, h3⟩ := cells4 HC.out k hlt
      have g0 := (hbel.cell (p := ⟨b, off + k * 4, none⟩) hbl).trans h0
      have g1 := (hbel.cell (p := ⟨b, off + k * 4 + 1, none⟩) hbl).trans h1
      have g2 := (hbel.cell (p := ⟨b, off + k * 4 + 2, none⟩) hbl).trans h2
      have g3 := (hbel.cell (p := ⟨b, off + k * 4 + 3, none⟩) hbl).trans h3
      clear h0 h1 h2 h3
      have hLr := (hbel.cell (p := ⟨L, 0, none⟩) (cell_lt hL)).trans hL
      have HLR := Lib.hid hLr
      clear hLr
      obtain ⟨A1, n1, c1, hs1⟩ := HS.out _ (List.getElem_mem hlt)
      have hN : notL loan ps[k] = notL loan ⟨ps[k].num, ps[k].day, ps[k].loan, ps[k].lines⟩ := rfl
      obtain ⟨q, hq⟩ : ∃ q, notL loan ps[k] = q := ⟨_, rfl⟩
      have HQ := Lib.hid hq
      have hcall := fun W hW => bal1_any ps[k] loan L W hW ⟨_, _, _, hs1⟩
      rw [hq] at hcall
      rw [hs1] at g3 hcall
      have HCALL := Lib.hid hcall
      clear hs1 hN hq hcall
      go_wp2_with fail
      refine (HCALL.out _ ?c1).mono ?c2
      case c1 => exact HLR.out
      case c2 =>
      rintro e w1 ⟨rfl, hb1⟩
      have HB := Lib.hid (below_then hbel hbel.size hb1)
      clear hb1
      cases q with
      | true =>
        go_wp2_with fail
        go_ret
        exact ⟨HB.out, .inr ⟨k, hlt, rfl, HQ.out, fun j h => HF.out j h (by omega)⟩⟩
      | false =>
        go_wp2_with fail
        refine ⟨⟨k + 1, by omega, by go_num, Lib.hid fun j h h' => ?_, HB.out⟩, by simp [intOf]; omega⟩
        by_cases hjk : j = k
        · subst hjk
          exact HQ.out
        · exact HF.out j (by omega) h'
    · go_wp2_with fail
      go_ret
      exact ⟨hbel, .inl ⟨rfl, fun j h => HF.out j (by omega) h⟩⟩

theorem zeroP (u : World) : (zeroValue 34).run Try.prog u = .ok (.agg #[.int .i64 0, .int .i64 0, .string ⟨#[]⟩, .slice none 0 0]) u := by kernel_rfl

/-- What DeleteFunc leaves: the row's head is those of the loan; other memory stands. -/
def DelPost (loan : ByteArray) (ps : List Pv) (base : Nat) (g : Nat) (w : World) (e : Ending) (w' : World) : Prop :=
  ∃ u, e = .returned u ∧ Own w' base 34 4 Pv.enc u (ps.filter fun p => !notL loan p) ∧ Mods (fun k => k = g) w w'

theorem filter_all {α : Type} (q : α → Bool) (l : List α) (h : ∀ j (h : j < l.length), q l[j] = false) : l.filter (fun p => !q p) = l := by
  refine List.filter_eq_self.2 fun a ha => ?_
  obtain ⟨j, hj, rfl⟩ := List.mem_iff_getElem.1 ha
  rw [h j hj]
  rfl

set_option maxHeartbeats 1000000 in
theorem delP_any (g cap : Nat) (ps : List Pv) (loan : ByteArray) (L base : Nat) (w : World) (hv : Own w base 34 4 Pv.enc (.slice (some ⟨g, 0, none⟩) ps.length cap) ps) (hs : ∀ p ∈ ps, isSl p.lines) (hL : w.cell? ⟨L, 0, none⟩ = some (.string loan)) (hLg : L ≠ g) :
    Calls Try.prog 34 #[.slice (some ⟨g, 0, none⟩) ps.length cap, balF L] w (DelPost loan ps base g w) := by
  have HV := Lib.hid hv
  have HS := Lib.hid hs
  have hlm : ps.length ≤ 9223372036854775807 := by
    obtain ⟨_, _, e, h, _⟩ := hv.sl Pv.enc_len
    exact h
  have hcm : ps.length ≤ cap ∧ cap ≤ 9223372036854775807 := by
    rcases hv.2 with ⟨h, _⟩ | ⟨g', cap', cur, h, _, _, h1, h2, _⟩
    · cases h
    · injection h with _ _ h
      subst h
      simp only [maxLen] at h2
      omega
  clear hv hs
  go_enter Try.func34, Try.ntmps34
  go_wp2_with fail
  refine (idxP_any _ ps loan L _ (HV.out.sl Pv.enc_len) HS.out hL).mono ?_
  rintro e w1 ⟨hb1, ⟨rfl, hall⟩ | ⟨k, hk, rfl, hq, hall⟩⟩
  · have HF := Lib.hid (And.intro hb1 hall)
    clear hb1 hall
    go_wp2_with fail
    go_ret
    refine ⟨_, rfl, ?_, Mods.of_below HF.out.1 _⟩
    rw [filter_all _ _ HF.out.2]
    exact HV.out.below HF.out.1
  · have HF := Lib.hid (And.intro hb1 (And.intro hq hall))
    have hsz := hb1.size
    clear hb1 hq hall
    have hk0 : ((k : Int) == -1) = false := beq_eq_false_iff_ne.2 (by omega)
    go_wp2_with fail
    go_loopw [5, 6, 7] (fun x y z wr => ∃ i j : Nat, ∃ qs : List Pv, x = .int .i64 i ∧ y = .int .i64 j ∧ i < j ∧ j ≤ ps.length ∧ qs.length = ps.length ∧ Hid (Own wr base 34 4 Pv.enc (.slice (some ⟨g, 0, none⟩) ps.length cap) qs ∧ qs.take i = (ps.take j).filter (fun p => !notL loan p) ∧ qs.drop j = ps.drop j) ∧ Hid (Mods (fun k => k = g) w wr)) (fun _ y _ _ => ps.length - (intOf y).toNat)
    case atStart =>
      refine ⟨k, k + 1, ps, rfl, by go_num, by omega, hk, rfl, Lib.hid ⟨HV.out.below HF.out.1, ?_, rfl⟩, Lib.hid (Mods.of_below HF.out.1 _)⟩
      rw [take_snoc ps k hk, List.filter_append]
      simp only [List.filter_cons, HF.out.2.1, Bool.not_true, Bool.false_eq_true, if_false, List.filter_nil, List.append_nil]
      refine (List.filter_eq_self.2 fun a ha => ?_).symm
      obtain ⟨j, hj, rfl⟩ := List.mem_iff_getElem.1 ha
      have hjk : j < k := by simp at hj; omega
      have := HF.out.2.2 j hjk
      simpa using this
    case round =>
      obtain ⟨i, j, qs, rfl, rfl, hij, hjl, hql, HO, HM⟩ := hrel
      have HQL := Lib.hid hql
      clear hql
      by_cases hlt : j < ps.length
      · have hjq : j < qs.length := by rw [HQL.out]; exact hlt
        have hqj : qs[j] = ps[j] := by
          have h := congrArg (fun l => l[0]?) HO.out.2.2
          simp only [List.getElem?_drop, Nat.add_zero] at h
          rw [List.getElem?_eq_getElem hjq, List.getElem?_eq_getElem hlt] at h
          exact Option.some.inj h
        obtain ⟨b, off, hab, hbl, h0, h1, h2, h3⟩ := cells4 (HO.out.1.sl Pv.enc_len).cells j hjq
        obtain ⟨rfl, rfl⟩ : g = b ∧ 0 = off := by
          injection hab with hab
          injection hab with h1 h2
          exact ⟨h1, h2⟩
        rw [Nat.zero_add] at h0 h1 h2 h3
        rw [hqj] at h0 h1 h2 h3
        have hsL : isSl ps[j].lines := HS.out _ (List.getElem_mem hlt)
        have hLr := (HM.out.cell (p := ⟨L, 0, none⟩) (cell_lt hL) hLg).trans hL
        have HLR := Lib.hid hLr
        have HT := Lib.hid (take_snoc ps j hlt)
        have HQJ := Lib.hid hqj
        clear hLr hab hqj
        generalize ps[j] = p at *
        obtain ⟨A1, n1, c1, hs1⟩ := hsL
        obtain ⟨q, hq⟩ : ∃ q, notL loan p = q := ⟨_, rfl⟩
        have HQ := Lib.hid hq
        have hcall := fun W hW => bal1_any p loan L W hW ⟨_, _, _, hs1⟩
        rw [hq] at hcall
        rw [hs1] at h3 hcall
        have HCALL := Lib.hid hcall
        have HS1 := Lib.hid hs1
        clear hs1 hq hcall
        obtain ⟨wo, rfl⟩ : ∃ wo : World, wo = wr := ⟨_, rfl⟩
        go_wp2_with fail
        refine (HCALL.out _ ?c1).mono ?c2
        case c1 => exact (World.cell?_of_block (Below.heap_alloc wo _ L (cell_lt HLR.out))).trans HLR.out
        case c2 =>
        rintro e w2 ⟨rfl, hb2⟩
        have hbo : Below wo.heap.size wo w2 := below_then ((Below.refl _ _).alloc (Nat.le_refl _) _) (by simp) hb2
        have hbx := (hb2.block wo.heap.size (by simp)).trans (heap_alloc_new wo (.cells #[.int .i64 p.num, .int .i64 p.day, .string p.loan, .slice A1 n1 c1] 34))
        have hM2 : Mods (fun k => k = g) w w2 := HM.out.trans (Mods.of_below hbo (fun _ => False)) fun _ _ h => h.elim
        have HM2 := Lib.hid hM2
        have hO2 := HO.out.1.below hbo
        obtain ⟨c7, f7, z7⟩ := blk_cells hbx
        have hsz2 := hbo.size
        have HB := Lib.hid hbo
        clear hb2 hbo hM2 hbx h0 h1 h2 h3
        cases q with
        | true =>
          have HO2 := Lib.hid hO2
          clear hO2
          go_wp2_with fail
          refine ⟨⟨i, j + 1, qs, rfl, by go_num, by omega, by omega, HQL.out, Lib.hid ⟨HO2.out, ?_, ?_⟩, HM2⟩, by simp [intOf]; omega⟩
          · rw [HT.out, List.filter_append, HO.out.2.1]
            simp [HQ.out]
          · have h := congrArg (List.drop 1) HO.out.2.2
            simpa using h
        | false =>
          have hth := hO2.there (i * 4) 4 (by have := HQL.out; omega)
          have hbg : g < w2.heap.size := (hO2.lt rfl).2
          have hset := hO2.set Pv.enc_len i (by rw [HQL.out]; omega) p
          have hmset := mods_setCells g (Pv.enc p) (i * 4) w2
          rw [show Pv.enc p = [.int .i64 p.num, .int .i64 p.day, .string p.loan, .slice A1 n1 c1] by rw [Pv.enc, HS1.out]] at hset hmset
          have HO2 := Lib.hid hset
          have HMS := Lib.hid hmset
          have HTH := Lib.hid hth
          clear hO2 hset hmset hth
          go_wp2_with (with_reducible refine wpList_store_mid (op := ⟨none, .store 34 (.tmp 33) (.tmp 32), _, _, _, none⟩) rfl 34 (.tmp 33) (.tmp 32) rfl g (i * 4) #[.int .i64 p.num, .int .i64 p.day, .string p.loan, .slice A1 n1 c1] ?hx ?hy ?ht ?hi ?h1 ?_)
          case ht => exact HTH.out
          case hi => kernel_rfl
          case h1 => simp [Value.oneCell']
          case hy => rfl
          case hx => rfl
          case roundEnd =>
            refine ⟨⟨i + 1, j + 1, qs.set i p, by go_num, by go_num, by omega, by omega, by rw [List.length_set]; exact HQL.out, Lib.hid ⟨HO2.out, ?_, ?_⟩, Lib.hid (HM2.out.trans HMS.out fun _ _ h => h)⟩, by simp [intOf]; omega⟩
            · rw [HT.out, List.filter_append, ← HO.out.2.1, List.take_succ_eq_append_getElem (by rw [List.length_set, HQL.out]; omega), List.getElem_set_self, List.take_set_of_le (Nat.le_refl _)]
              simp [HQ.out]
            · rw [List.drop_set_of_lt (by omega)]
              have h := congrArg (List.drop 1) HO.out.2.2
              simpa using h
      · obtain rfl : j = ps.length := by omega
        have hO := HO.out.1
        have hcut := hO.cut Pv.enc_len i (by rw [HQL.out]; omega)
        have hth := hO.there (i * 4) ((ps.length - i) * 4) (by omega)
        have hti := HO.out.2.1
        rw [List.take_length] at hti
        have hlen := congrArg List.length hti
        rw [List.length_take, HQL.out, Nat.min_eq_left (by omega)] at hlen
        have HTI := Lib.hid (And.intro hti hlen)
        have hcl := fun ty => run_clear_there (P := Try.prog) wr 42 34 ty _ Try.underlying42 zeroP (by simp [Value.cells, Value.oneCell']) g (i * 4) (ps.length - i) (cap - i) hth
        have HCUT := Lib.hid hcut
        clear hO hcut hth hti hlen
        obtain ⟨vs, hvs⟩ : ∃ vs, (Builtin.zeroCells (Value.agg #[.int .i64 0, .int .i64 0, .string ⟨#[]⟩, .slice none 0 0]).cells (ps.length - i)).toList = vs := ⟨_, rfl⟩
        have HVS := Lib.hid (show vs.length = (ps.length - i) * 4 by rw [← hvs]; simp [size_zeroCells, Value.cells])
        rw [hvs] at hcl
        clear hvs
        have hil : i ≤ ps.length := by omega
        have hic : i ≤ cap := by omega
        go_wp2_with fail
        go_ret
        refine ⟨_, rfl, ?_, HM.out.trans (mods_setCells g vs (i * 4) _) fun _ _ h => h⟩
        have h := HCUT.out vs (by rw [HVS.out]; omega)
        rw [HTI.out.1] at h
        exact h

end Go.Proofs.Ytegmobdpbaeijaa
