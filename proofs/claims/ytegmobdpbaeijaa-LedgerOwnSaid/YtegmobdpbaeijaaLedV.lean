/- The law whole. -/
import Derived.Test.YtegmobdpbaeijaaLedT
import Derived.Deep.Cut
import Derived.Deep.DeepCutAuto
namespace Go.Proofs.Ytegmobdpbaeijaa
open Go.RowKit

/-- What the walk knows of one act as it lies in its box. -/
structure Box (W : World) (b : Nat) (a : Ac) : Prop where
  day : W.cell? ⟨b, 1, none⟩ = some (.int .i64 a.day)
  loan : W.cell? ⟨b, 3, none⟩ = some (.string a.loan)
  f : W.rangeAt b 4 [.int .i64 a.f.day, .int .i64 a.f.rate, .int .i64 a.f.prin, .int .i64 a.f.intr, .int .i64 a.f.fees, .int .i64 a.f.cred, .int .i64 a.f.out, .int .i64 a.f.inn, .int .i64 a.f.accr, .int .i64 a.f.chrg, .int .i64 a.f.late, .int .i64 a.f.buck]
  t : W.rangeAt b 16 [.int .i64 a.t.day, .int .i64 a.t.rate, .int .i64 a.t.prin, .int .i64 a.t.intr, .int .i64 a.t.fees, .int .i64 a.t.cred, .int .i64 a.t.out, .int .i64 a.t.inn, .int .i64 a.t.accr, .int .i64 a.t.chrg, .int .i64 a.t.late, .int .i64 a.t.buck]
theorem Box.of {W : World} {b : Nat} {a : Ac} {cs : List Value} {T : TypeId} (h : W.heap[b]? = some (.cells cs.toArray T)) (hcs : cs = a.enc) : Box W b a := by
  subst hcs
  have c := (blk_cells h).1
  refine ⟨by rw [c]; rfl, by rw [c]; rfl, ?_, ?_⟩
  · exact World.rangeAt_of_block h 4 12
  · exact World.rangeAt_of_block h 16 12

/-- What holds at the head of each round. -/
def LawInv (w0 : World) (Bj Br : Nat) (W : World) : Prop :=
  ∃ vj vr pj pr gs, Both W w0.heap.size Bj Br vj vr pj pr gs ∧ Below w0.heap.size w0 W

theorem kept_cell' {B : Nat} {w w1 : World} (hb : Below B w w1) {a : Addr} {v : Value} (h : w.cell? a = some v) (hB : B = w.heap.size := by rfl) : w1.cell? a = some v := by
  subst hB
  exact kept_cell hb h

set_option maxRecDepth 100000 in
set_option maxHeartbeats 4000000 in
theorem law_any (v : Value) (acts : List Ac) (w : World) (hv : Sl w 28 Ac.enc v acts) (hl : ∀ a ∈ acts, a.loan.size ≤ 9223372036854775807) :
    Calls Try.prog 3 #[v] w fun e w' => e = .returned (.bool true) ∧ Below w.heap.size w w' := by
  obtain ⟨A, c, rfl, hln, _, hc⟩ := hv
  have HC := Lib.hid hc
  have HL := Lib.hid hl
  clear hc hl
  go_enter Try.func3, Try.ntmps3
  go_wp2_with fail
  refine (wakes_any _).mono ?_
  rintro e w1 ⟨rfl, hb1⟩
  go_wp2_with fail
  refine (newJ_any _).mono ?_
  rintro e w2 ⟨rfl, rfl⟩
  go_wp2_with fail
  refine (newR_any _).mono ?_
  rintro e w3 ⟨rfl, rfl⟩
  have hs1 := hb1.size
  have hinv : LawInv w w1.heap.size (w1.heap.size + 1) ((w1.alloc (.cells #[.slice none 0 0, .int .i64 (-719163)] 52)).alloc (.cells #[.slice none 0 0, .int .i64 (-719163)] 54)) := by
    refine ⟨.slice none 0 0, .slice none 0 0, [], [], [], ⟨(JR.new _ w1 _).kept ((Below.refl _ _).alloc (Nat.le_refl _) _), ?_, fun b hb => (by cases hb), by simp⟩, (hb1.alloc hs1 _).alloc (by simp; omega) _⟩
    have h := JR.new 54 (w1.alloc (.cells #[.slice none 0 0, .int .i64 (-719163)] 52)) w.heap.size
    simpa using h
  have HI0 := Lib.hid hinv
  clear hinv hb1
  go_wp2_with fail
  go_loopw [5, 6, 7, 8, 9, 10, 11, 12, 13, 20] (fun a1 a2 a3 a4 a5 a6 a7 a8 a9 j wr => ∃ i : Nat, i ≤ acts.length ∧ j = .int .i64 i ∧ Hid (LawInv w w1.heap.size (w1.heap.size + 1) wr)) (fun _ _ _ _ _ _ _ _ _ j _ => acts.length - (intOf j).toNat)
  case atStart => exact ⟨0, by omega, rfl, HI0⟩
  case round =>
    obtain ⟨i, hi, rfl, HI⟩ := hrel
    by_cases hli : i < acts.length
    · obtain ⟨wo, rfl⟩ : ∃ wo : World, wo = wr := ⟨_, rfl⟩
      obtain ⟨b, off, rfl, hcell⟩ := HC.out (by omega)
      obtain ⟨a, ha⟩ : ∃ a, acts[i] = a := ⟨_, rfl⟩
      have hal := HL.out _ (List.getElem_mem hli)
      have hcl : ∀ k u, (Ac.enc acts[i])[k]? = some u → w.cell? ⟨b, off + i * 28 + k, none⟩ = some u := fun k u h => hcell i hli k u h
      rw [ha] at hal hcl
      obtain ⟨cs, hcs⟩ : ∃ cs, cs = Ac.enc a := ⟨_, rfl⟩
      rw [← hcs] at hcl
      have hlen : cs.length = 28 := by rw [hcs]; rfl
      obtain ⟨vj, vr, pj, pr, gs, hB, hbel⟩ := HI.out
      have hrange : wo.rangeAt b (off + i * 28) cs := fun j u h => kept_cell' hbel (hcl j u h)
      have HR := Lib.hid hrange
      have HCS := Lib.hid hcs
      have HLEN := Lib.hid hlen
      have HONE := Lib.hid (show cs.toArray.toList.all (·.oneCell') = true by rw [hcs]; simpa using Ac.one a)
      have HA := Lib.hid ha
      have HB := Lib.hid hB
      have HBel := Lib.hid hbel
      clear hcell hcl hcs hlen hrange ha hB hbel
      go_upto_region 8 with (first
        | ((with_reducible refine wpList_load_mid (op := ⟨some 26, .load 31 (.tmp 25), _, _, _, none⟩) rfl 31 (.tmp 25) rfl b (off + i * 28) ?hx cs _ ?hc Try.underlying31 ?hd ?hi ?_); (case hc => exact HR.out); (case hd => rfl); (case hi => (rw [HLEN.out]; kernel_rfl)))
        | ((with_reducible refine wpl_store_new (o := ⟨none, .store 31 (.tmp 6) (.tmp 26), _, _, _, none⟩) rfl 31 (.tmp 6) (.tmp 26) rfl _ cs.toArray ?hx2 ?hy2 ?hi2 ?hs2 HONE.out rfl ?_); (case hi2 => (rw [List.size_toArray, HLEN.out]; kernel_rfl)); (case hs2 => (rw [List.size_toArray, List.size_toArray, HLEN.out]; rfl)); (try (case hx2 => rfl)); (try (case hy2 => rfl))))
      obtain ⟨W6, hW6⟩ : ∃ W6, wo.alloc (.cells cs.toArray 31) = W6 := ⟨_, rfl⟩
      have hbx : W6.heap[wo.heap.size]? = some (.cells cs.toArray 31) := by rw [← hW6]; exact heap_alloc_new _ _
      have hb6 : Below wo.heap.size wo W6 := by rw [← hW6]; exact (Below.refl _ _).alloc (Nat.le_refl _) _
      rw [hW6]
      have HB6 := Lib.hid (HB.out.below hb6)
      have HBel6 := Lib.hid (below_then HBel.out HBel.out.size hb6)
      have HBX := Lib.hid hbx
      have hbox := Box.of hbx HCS.out
      obtain ⟨d1, d2, d3, d4⟩ := hbox
      have D3 := Lib.hid d3
      have D4 := Lib.hid d4
      clear hW6 hbx hb6 d3 d4
      go_wp2_with (first
        | ((with_reducible refine wpList_load_mid (op := ⟨some 34, .load 29 (.tmp 33), _, _, _, none⟩) rfl 29 (.tmp 33) rfl wo.heap.size 4 ?hx3 [.int .i64 a.f.day, .int .i64 a.f.rate, .int .i64 a.f.prin, .int .i64 a.f.intr, .int .i64 a.f.fees, .int .i64 a.f.cred, .int .i64 a.f.out, .int .i64 a.f.inn, .int .i64 a.f.accr, .int .i64 a.f.chrg, .int .i64 a.f.late, .int .i64 a.f.buck] _ ?hc3 Try.underlying29 ?hd3 ?hi3 ?_); (case hc3 => exact D3.out); (case hd3 => rfl); (case hi3 => kernel_rfl); (try (case hx3 => rfl)))
        | ((with_reducible refine wpList_load_mid (op := ⟨some 36, .load 29 (.tmp 35), _, _, _, none⟩) rfl 29 (.tmp 35) rfl wo.heap.size 16 ?hx4 [.int .i64 a.t.day, .int .i64 a.t.rate, .int .i64 a.t.prin, .int .i64 a.t.intr, .int .i64 a.t.fees, .int .i64 a.t.cred, .int .i64 a.t.out, .int .i64 a.t.inn, .int .i64 a.t.accr, .int .i64 a.t.chrg, .int .i64 a.t.late, .int .i64 a.t.buck] _ ?hc4 Try.underlying29 ?hd4 ?hi4 ?_); (case hc4 => exact D4.out); (case hd4 => rfl); (case hi4 => kernel_rfl); (try (case hx4 => rfl))))
      have hs6 := HBel6.out.size
      refine (mid_post W6 w.heap.size w1.heap.size (w1.heap.size + 1) vj vr pj pr gs a.day a.loan a.f a.t HB6.out hs6 (by omega) hal).mono ?_
      rintro e w7 ⟨vj', pj', num, dy, ln, pl, ek, ok, rfl, hmid, hb7, hk7⟩
      have hbx7 := hk7 _ _ _ HBX.out (by decide) (by decide)
      have HBel7 := Lib.hid (HBel6.out.trans hb7)
      have hplS := hmid.room.shape
      have HM7 := Lib.hid hmid
      have HBX7 := Lib.hid hbx7
      have hs7 := HBel7.out.size
      clear hmid hb7 hk7 hbx7 d1 d2
      have hpl : ∃ A n cap, pl = .slice A n cap := by
        rcases hplS with h | ⟨g, n, cap, h, _⟩
        · exact ⟨_, _, _, h⟩
        · exact ⟨_, _, _, h⟩
      have HPLS := Lib.hid hplS
      clear hplS
      obtain ⟨pA, pn, pcap, rfl⟩ := hpl
      generalize hgs' : gs ++ (postR gs.length (-719163) a.day a.loan a.f a.t).2.toList = gs' at *
      have HGS := Lib.hid hgs'
      clear hgs'
      go_upto_region 9 with (fail)
      obtain ⟨W8, hW8⟩ : ∃ W8, w7.alloc (.cells #[.int .i64 num, .int .i64 dy, .string ln, .slice pA pn pcap] 34) = W8 := ⟨_, rfl⟩
      have hb8 : Below w7.heap.size w7 W8 := by rw [← hW8]; exact (Below.refl _ _).alloc (Nat.le_refl _) _
      have hpx : W8.heap[w7.heap.size]? = some (.cells #[.int .i64 num, .int .i64 dy, .string ln, .slice pA pn pcap] 34) := by rw [← hW8]; exact heap_alloc_new _ _
      rw [hW8]
      have hbx8 := keep_blk hb8 HBX7.out
      have HM8 := Lib.hid (HM7.out.below hb8)
      have HBel8 := Lib.hid (below_then HBel7.out hs7 hb8)
      have hbox8 := Box.of hbx8 HCS.out
      obtain ⟨d1, d2, d3, d4⟩ := hbox8
      have D38 := Lib.hid d3
      have D48 := Lib.hid d4
      have HPX := Lib.hid hpx
      clear hW8 hbx8 hb8 hpx d3 d4
      go_wp2_with (first
        | ((with_reducible refine wpList_load_mid (op := ⟨some 47, .load 29 (.tmp 46), _, _, _, none⟩) rfl 29 (.tmp 46) rfl wo.heap.size 4 ?hx5 [.int .i64 a.f.day, .int .i64 a.f.rate, .int .i64 a.f.prin, .int .i64 a.f.intr, .int .i64 a.f.fees, .int .i64 a.f.cred, .int .i64 a.f.out, .int .i64 a.f.inn, .int .i64 a.f.accr, .int .i64 a.f.chrg, .int .i64 a.f.late, .int .i64 a.f.buck] _ ?hc5 Try.underlying29 ?hd5 ?hi5 ?_); (case hc5 => exact D38.out); (case hd5 => rfl); (case hi5 => kernel_rfl); (try (case hx5 => rfl)))
        | ((with_reducible refine wpList_load_mid (op := ⟨some 49, .load 29 (.tmp 48), _, _, _, none⟩) rfl 29 (.tmp 48) rfl wo.heap.size 16 ?hx6 [.int .i64 a.t.day, .int .i64 a.t.rate, .int .i64 a.t.prin, .int .i64 a.t.intr, .int .i64 a.t.fees, .int .i64 a.t.cred, .int .i64 a.t.out, .int .i64 a.t.inn, .int .i64 a.t.accr, .int .i64 a.t.chrg, .int .i64 a.t.late, .int .i64 a.t.buck] _ ?hc6 Try.underlying29 ?hd6 ?hi6 ?_); (case hc6 => exact D48.out); (case hd6 => rfl); (case hi6 => kernel_rfl); (try (case hx6 => rfl))))
      have hs8 := HBel8.out.size
      have E8 : gs' = gs ++ (postR gs.length (-719163) a.day a.loan a.f a.t).2.toList := HGS.out.symm
      refine (over_post' W8 w.heap.size w1.heap.size (w1.heap.size + 1) W6.heap.size vj' vr pj' pr gs gs' _ a.day a.loan a.f a.t E8 HM8.out hs8 hs6 (by omega) hal).mono ?_
      clear E8
      rintro e w9 ⟨vr', pr', rv, rfl, hov, hb9, hk9⟩
      have hpx9 := hk9 _ _ _ HPX.out (by decide)
      have HBel9 := Lib.hid (HBel8.out.trans hb9)
      have HOV := Lib.hid hov
      have HPX9 := Lib.hid hpx9
      obtain ⟨p1, p2, p3⟩ := blk_cells hpx9
      clear hov hb9 hk9 d1 d2
      have hpn : pn ≤ 9223372036854775807 := by
        rcases HPLS.out with h | ⟨g, n, cap, h, hn⟩
        · injection h with _ h _
          omega
        · injection h with _ h _
          omega
      go_wp2_with fail
      go_loopw [10, 54] (fun x j wi => ∃ k : Nat, k ≤ pn ∧ j = .int .i64 k ∧ Hid (Over wi w.heap.size w1.heap.size (w1.heap.size + 1) vj' vr' pj' pr' gs' (.slice pA pn pcap)) ∧ Hid (wi.heap[w7.heap.size]? = some (.cells #[.int .i64 num, .int .i64 dy, .string ln, .slice pA pn pcap] 34)) ∧ Hid (Below w.heap.size w wi)) (fun _ j _ => pn - (intOf j).toNat)
      case atStart => exact ⟨0, by omega, rfl, HOV, HPX9, HBel9⟩
      case round =>
        clear HOV HPX9 HBel9 p1 p2 p3
        obtain ⟨k, hk, rfl, HOV, HPX9, HBel9⟩ := hrel
        obtain ⟨p1, p2, p3⟩ := blk_cells HPX9.out
        by_cases hkl : k < pn
        · obtain ⟨g, rfl⟩ : ∃ g, pA = some ⟨g, 0, none⟩ := by
            rcases HOV.out.room.shape with h | ⟨g, n, cap, h, _⟩
            · injection h with _ h _
              omega
            · injection h with h _ _
              exact ⟨g, h⟩
          have hth := HOV.out.room.there k hkl
          have hset := HOV.out.set (k * 2) [.int .i64 0, .int .i64 0]
          have hms := mods_setCells g [.int .i64 0, .int .i64 0] (k * 2) wr
          obtain ⟨hgb, cur, hgl⟩ := HOV.out.room.lt (b := g) rfl
          have hgx : w7.heap.size ≠ g := fun e => by
            have h1 := HPX9.out
            rw [e, hgl] at h1
            injection h1 with h1
            injection h1 with _ h1
            exact absurd h1 (by decide)
          have HPX10 := Lib.hid ((hms.block _ p3 hgx).trans HPX9.out)
          have HTH := Lib.hid hth
          have HSET := Lib.hid hset
          have HBel10 := Lib.hid (HBel9.out.trans (hms.below HBel9.out.size fun i hi e => by omega))
          clear hth hset hms hgb hgl hgx
          go_wp2_with ((with_reducible refine wpList_store_mid (op := ⟨none, .store 41 (.tmp 61) (.tmp 60), _, _, _, none⟩) rfl 41 (.tmp 61) (.tmp 60) rfl g (k * 2) #[.int .i64 0, .int .i64 0] ?hx7 ?hy7 ?ht7 ?hi7 ?h17 ?_); (case ht7 => exact HTH.out); (case hi7 => kernel_rfl); (case h17 => simp [Value.oneCell']); (try (case hx7 => rfl)); (try (case hy7 => rfl)))
          exact ⟨⟨k + 1, by omega, by go_num, HSET, HPX10, HBel10⟩, by simp [intOf]; omega⟩
        · obtain ⟨we, rfl⟩ : ∃ we : World, we = wr := ⟨_, rfl⟩
          go_wp2_with fail
          refine (postingsJ_any w1.heap.size w.heap.size vj' pj' gs' (-719163) (-719162) 2932896 _ HOV.out.both.j).mono ?_
          rintro e w10 ⟨u, qs, rfl, hown, hal, hb10⟩
          have hrooms : ∀ q ∈ qs, Room w10 we.heap.size q.lines := fun q hq => by
            obtain ⟨g, _, h⟩ := hal.mem q hq
            exact h.lines.room
          have HROWS := Lib.hid (And.intro hown (And.intro hrooms (Mods.of_below hb10 fun k => we.heap.size ≤ k)))
          obtain ⟨uA, uc, hu⟩ := hown.shape
          have hql : qs.length ≤ 9223372036854775807 := by
            obtain ⟨_, _, _, h, _⟩ := hown.sl Pv.enc_len
            exact h
          subst hu
          have HBOTH := Lib.hid HOV.out.both
          have hBe := HBel9.out.size
          clear hown hal hb10 hrooms p1 p2 p3 HOV HPX9
          go_wp2_with fail
          go_loopw [12, 13, 67, 76] (fun x y j z wi => ∃ k2 : Nat, k2 ≤ qs.length ∧ j = .int .i64 k2 ∧ Hid (Own wi we.heap.size 34 4 Pv.enc (.slice uA qs.length uc) qs ∧ (∀ q ∈ qs, Room wi we.heap.size q.lines) ∧ Mods (fun k => we.heap.size ≤ k) we wi)) (fun _ _ j _ _ => qs.length - (intOf j).toNat)
          case atStart => exact ⟨0, by omega, rfl, HROWS⟩
          case round =>
            clear HROWS
            obtain ⟨k2, hk2, rfl, HROWS⟩ := hrel
            obtain ⟨wp, rfl⟩ : ∃ wp : World, wp = wr := ⟨_, rfl⟩
            by_cases hk2l : k2 < qs.length
            · obtain ⟨gu, ou, rfl, hbu, h0, h1, h2, h3⟩ := cells4 (HROWS.out.1.sl Pv.enc_len).cells k2 hk2l
              have hroom := HROWS.out.2.1 _ (List.getElem_mem hk2l)
              have hrs := hroom.shape
              have HQ := Lib.hid (show ∀ wi, Own wi we.heap.size 34 4 Pv.enc (.slice (some ⟨gu, ou, none⟩) qs.length uc) qs → wi.cell? ⟨gu, ou + k2 * 4 + 3, none⟩ = some qs[k2].lines from fun wi h => by
                obtain ⟨g', o', e, _, _, _, _, h3'⟩ := cells4 (h.sl Pv.enc_len).cells k2 hk2l
                injection e with e
                injection e with e1 e2
                rw [e1, e2]
                exact h3')
              have HMEM := Lib.hid (List.getElem_mem hk2l)
              clear h0 h1 h2
              generalize qs[k2] = q at *
              have hlq : ∃ A n cap, q.lines = .slice A n cap ∧ n ≤ 9223372036854775807 := by
                rcases hrs with h | ⟨g, n, cap, h, hn⟩
                · exact ⟨_, _, _, h, by omega⟩
                · exact ⟨_, _, _, h, hn⟩
              obtain ⟨lA, lN, lC, hlq, hlN⟩ := hlq
              rw [hlq] at h3 HQ
              have HLQ := Lib.hid hlq
              clear hlq hrs hroom
              go_wp2_with fail
              go_loopw [13, 76] (fun y z wi => ∃ m : Nat, m ≤ lN ∧ z = .int .i64 m ∧ Hid (Own wi we.heap.size 34 4 Pv.enc (.slice (some ⟨gu, ou, none⟩) qs.length uc) qs ∧ (∀ q ∈ qs, Room wi we.heap.size q.lines) ∧ Mods (fun k => we.heap.size ≤ k) we wi)) (fun _ z _ => lN - (intOf z).toNat)
              case atStart => exact ⟨0, by omega, rfl, HROWS⟩
              case round =>
                clear HROWS h3
                obtain ⟨m, hm, rfl, HROWS⟩ := hrel
                by_cases hml : m < lN
                · have hroom := HROWS.out.2.1 _ HMEM.out
                  rw [HLQ.out] at hroom
                  have h3 := HQ.out _ HROWS.out.1
                  obtain ⟨g, rfl⟩ : ∃ g, lA = some ⟨g, 0, none⟩ := by
                    rcases hroom.shape with h | ⟨g, n, cap, h, _⟩
                    · injection h with _ h _
                      omega
                    · injection h with h _ _
                      exact ⟨g, h⟩
                  have hth := hroom.there m hml
                  obtain ⟨hgb, cur, hgl⟩ := hroom.lt (b := g) rfl
                  have hms := mods_setCells g [.int .i64 9, .int .i64 0] (m * 2) wr
                  have hgu : gu ≠ g := fun e => HROWS.out.1.ne_blk hgl (by decide) (by rw [e]; rfl)
                  have HROWS2 := Lib.hid (show Own (wr.setCells g (m * 2) [.int .i64 9, .int .i64 0]) we.heap.size 34 4 Pv.enc (.slice (some ⟨gu, ou, none⟩) qs.length uc) qs ∧ (∀ q ∈ qs, Room (wr.setCells g (m * 2) [.int .i64 9, .int .i64 0]) we.heap.size q.lines) ∧ Mods (fun k => we.heap.size ≤ k) we (wr.setCells g (m * 2) [.int .i64 9, .int .i64 0]) from
                    ⟨HROWS.out.1.mods hms fun b hb e => hgu (by injection hb with hb; simp only at hb; rw [hb, e]), fun q hq => (HROWS.out.2.1 q hq).set _ _ _, HROWS.out.2.2.trans hms fun i _ e => by omega⟩)
                  have HTH := Lib.hid hth
                  clear hth hroom hgb hgl hms hgu
                  go_wp2_with ((with_reducible refine wpList_store_mid (op := ⟨none, .store 41 (.tmp 86) (.tmp 85), _, _, _, none⟩) rfl 41 (.tmp 86) (.tmp 85) rfl g (m * 2) #[.int .i64 9, .int .i64 0] ?hx8 ?hy8 ?ht8 ?hi8 ?h18 ?_); (case ht8 => exact HTH.out); (case hi8 => kernel_rfl); (case h18 => simp [Value.oneCell']); (try (case hx8 => rfl)); (try (case hy8 => rfl)))
                  exact ⟨⟨m + 1, by omega, by go_num, HROWS2⟩, by simp [intOf]; omega⟩
                · go_wp2_with fail
                  exact ⟨⟨k2 + 1, by omega, by go_num, HROWS⟩, by simp [intOf]; omega⟩
            · go_wp2_with fail
              refine ⟨⟨i + 1, by omega, by go_num, Lib.hid ⟨vj', vr', pj', pr', gs', HBOTH.out.above HROWS.out.2.2 (Nat.le_refl _), HBel9.out.trans (HROWS.out.2.2.below hBe fun i hi h => by omega)⟩⟩, by simp [intOf]; omega⟩
    · obtain ⟨vj, vr, pj, pr, gs, hB, hbel⟩ := HI.out
      have HB := Lib.hid hB
      have HBel := Lib.hid hbel
      clear hB hbel
      go_wp2_with fail
      refine (told_any _ _ w.heap.size vj vr pj pr gs (-719163) (-719162) 2932896 ⟨#[97]⟩ _ _ HB.out.j HB.out.r HB.out.wf rfl rfl rfl rfl).mono ?_
      rintro e w4 ⟨rfl, hb4⟩
      have HF := Lib.hid (below_then HBel.out HBel.out.size hb4)
      clear hb4
      go_wp2_with fail
      go_ret
      exact ⟨rfl, HF.out⟩
end Go.Proofs.Ytegmobdpbaeijaa
