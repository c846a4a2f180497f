/- The journal: what it is in memory, and what Post makes of it. -/
import Derived.Test.YtegmobdpbaeijaaLedF
import Derived.Test.YtegmobdpbaeijaaName
import Derived.Deep.RegionLaw
import Derived.Deep.AppendLies
namespace Go.Proofs.Ytegmobdpbaeijaa
open Go.RowKit

/-- A journal of either kind (T: its type): its slice of postings and its last closed day; the postings; what they read as. -/
structure JR (T : TypeId) (w : World) (B base : Nat) (v : Value) (ps : List Pv) (gs : List Pg) (closed : Int) : Prop where
  blk : w.heap[B]? = some (.cells #[v, .int .i64 closed] T)
  own : Own w base 34 4 Pv.enc v ps
  hdr : All2 (HdrO w base) ps gs
  many : gs.length ≤ 65536
  few : ∀ g ∈ gs, g.lines.length ≤ 7
  lo : -719163 ≤ closed
  hi : closed ≤ 2932896

theorem JR.kept {T : TypeId} {w w' : World} {B base : Nat} {v : Value} {ps : List Pv} {gs : List Pg} {closed : Int} (h : JR T w B base v ps gs closed) (hb : Below w.heap.size w w') : JR T w' B base v ps gs closed :=
  ⟨keep_blk hb h.blk, h.own.below hb, h.hdr.mono fun _ _ _ _ k => ⟨k.num, k.day, k.loan, k.lines.below hb⟩, h.many, h.few, h.lo, h.hi⟩
theorem JR.mods {T : TypeId} {M : Nat → Prop} {w w' : World} {B base : Nat} {v : Value} {ps : List Pv} {gs : List Pg} {closed : Int} (h : JR T w B base v ps gs closed) (hb : Mods M w w')
    (h1 : ¬ M B) (h2 : ∀ b, v.ownBlock = some b → ¬ M b) (h3 : ∀ p ∈ ps, ∀ b, p.lines.ownBlock = some b → ¬ M b) : JR T w' B base v ps gs closed :=
  ⟨(hb.block B (Array.getElem?_eq_some_iff.1 h.blk).1 h1).trans h.blk, h.own.mods hb h2, h.hdr.mono fun p _ hp _ k => ⟨k.num, k.day, k.loan, k.lines.mods hb (h3 p hp)⟩, h.many, h.few, h.lo, h.hi⟩
theorem JR.len {T : TypeId} {w : World} {B base : Nat} {v : Value} {ps : List Pv} {gs : List Pg} {closed : Int} (h : JR T w B base v ps gs closed) : ps.length = gs.length := h.hdr.len

theorem resLed_len (f t : St) : (resLed f t).length ≤ 7 := by
  rw [resLed]
  split
  · exact linesTo_len f t 7
  · simp
/-- What Post answers: the error, and the posting, if one is made. -/
def postR (n : Nat) (closed day : Int) (loan : ByteArray) (f t : St) : Int × Option Pg :=
  if day < -719162 ∨ 2932896 < day then (6, none)
  else if nameB loan = false then (51, none)
  else if errLed f t ≠ 0 then (errLed f t, none)
  else if n = 65536 then (3, none)
  else if 2932896 < max day (closed + 1) then (6, none)
  else if (resLed f t).length = 0 then (0, none)
  else (0, some ⟨(n : Int) + 1, max day (closed + 1), loan, resLed f t⟩)

/-- What Post leaves. -/
def PostPost (T : TypeId) (w : World) (B base : Nat) (v : Value) (gs : List Pg) (closed : Int) (r : Int × Option Pg) (e : Ending) (w' : World) : Prop :=
  ∃ v' ps' p, e = .returned (.tuple #[.agg #[.int .i64 p.num, .int .i64 p.day, .string p.loan, p.lines], .bool r.2.isSome, .int .i64 r.1]) ∧
    JR T w' B base v' ps' (gs ++ r.2.toList) closed ∧ HdrO w' w.heap.size p (r.2.getD ⟨0, 0, ⟨#[]⟩, []⟩) ∧
    (∀ q ∈ ps', ∀ b, q.lines.ownBlock = some b → p.lines.ownBlock ≠ some b) ∧ Mods (fun k => k = B ∨ v.ownBlock = some k) w w' ∧ ∀ b, v'.ownBlock = some b → v.ownBlock = some b ∨ w.heap.size ≤ b

theorem zeroPv (w : World) (b : Nat) : HdrO w b ⟨0, 0, ⟨#[]⟩, .slice none 0 0⟩ ⟨0, 0, ⟨#[]⟩, []⟩ := ⟨rfl, rfl, rfl, Own.nil _ _ _ _ _⟩
theorem post_none {T : TypeId} {w w' : World} {B base : Nat} {v : Value} {ps : List Pv} {gs : List Pg} {closed : Int} {r : Int × Option Pg} {k : Int} (h : JR T w B base v ps gs closed) (hb : Below w.heap.size w w') (hr : r = (k, none)) :
    PostPost T w B base v gs closed r (.returned (.tuple #[.agg #[.int .i64 0, .int .i64 0, .string ⟨#[]⟩, .slice none 0 0], .bool false, .int .i64 k])) w' := by
  subst hr
  exact ⟨v, ps, ⟨0, 0, ⟨#[]⟩, .slice none 0 0⟩, rfl, by simpa using h.kept hb, zeroPv _ _, (fun _ _ _ _ h => by cases h), Mods.of_below hb _, fun b h => .inl h⟩

set_option maxHeartbeats 1000000 in
theorem post_lo (B base : Nat) (v : Value) (ps : List Pv) (gs : List Pg) (closed day : Int) (loan : ByteArray) (f t : St) (w : World)
    (hj : JR 52 w B base v ps gs closed) (hd : day < -719162) :
    Calls Try.prog 7 #[.pointer (some ⟨B, 0, none⟩), .int .i64 day, .string loan, .agg #[.int .i64 f.day, .int .i64 f.rate, .int .i64 f.prin, .int .i64 f.intr, .int .i64 f.fees, .int .i64 f.cred, .int .i64 f.out, .int .i64 f.inn, .int .i64 f.accr, .int .i64 f.chrg, .int .i64 f.late, .int .i64 f.buck], .agg #[.int .i64 t.day, .int .i64 t.rate, .int .i64 t.prin, .int .i64 t.intr, .int .i64 t.fees, .int .i64 t.cred, .int .i64 t.out, .int .i64 t.inn, .int .i64 t.accr, .int .i64 t.chrg, .int .i64 t.late, .int .i64 t.buck]] w (PostPost 52 w B base v gs closed (postR gs.length closed day loan f t)) := by
  have HR := Lib.hid (show postR gs.length closed day loan f t = (6, none) by rw [postR, if_pos (by omega)])
  go_enter Try.func7, Try.ntmps7
  go_wp2
  refine bodyPost_ret (v := .tuple #[.agg #[.int .i64 0, .int .i64 0, .string ⟨#[]⟩, .slice none 0 0], .bool false, .int .i64 (6)]) (by simp [results, Try.results7, go_sem]) rfl ?_
  refine post_none hj ?_ HR.out
  exact by repeat (first | exact Below.refl _ _ | refine Below.setCell ?_ (by simp; try omega) _ | refine Below.alloc ?_ (by simp; try omega) _)

set_option maxHeartbeats 1000000 in
theorem post_hi (B base : Nat) (v : Value) (ps : List Pv) (gs : List Pg) (closed day : Int) (loan : ByteArray) (f t : St) (w : World)
    (hj : JR 52 w B base v ps gs closed) (hd : 2932896 < day) :
    Calls Try.prog 7 #[.pointer (some ⟨B, 0, none⟩), .int .i64 day, .string loan, .agg #[.int .i64 f.day, .int .i64 f.rate, .int .i64 f.prin, .int .i64 f.intr, .int .i64 f.fees, .int .i64 f.cred, .int .i64 f.out, .int .i64 f.inn, .int .i64 f.accr, .int .i64 f.chrg, .int .i64 f.late, .int .i64 f.buck], .agg #[.int .i64 t.day, .int .i64 t.rate, .int .i64 t.prin, .int .i64 t.intr, .int .i64 t.fees, .int .i64 t.cred, .int .i64 t.out, .int .i64 t.inn, .int .i64 t.accr, .int .i64 t.chrg, .int .i64 t.late, .int .i64 t.buck]] w (PostPost 52 w B base v gs closed (postR gs.length closed day loan f t)) := by
  have HR := Lib.hid (show postR gs.length closed day loan f t = (6, none) by rw [postR, if_pos (by omega)])
  go_enter Try.func7, Try.ntmps7
  go_wp2
  refine bodyPost_ret (v := .tuple #[.agg #[.int .i64 0, .int .i64 0, .string ⟨#[]⟩, .slice none 0 0], .bool false, .int .i64 (6)]) (by simp [results, Try.results7, go_sem]) rfl ?_
  refine post_none hj ?_ HR.out
  exact by repeat (first | exact Below.refl _ _ | refine Below.setCell ?_ (by simp; try omega) _ | refine Below.alloc ?_ (by simp; try omega) _)

set_option maxHeartbeats 1000000 in
theorem post_name (B base : Nat) (v : Value) (ps : List Pv) (gs : List Pg) (closed day : Int) (loan : ByteArray) (f t : St) (w : World)
    (hj : JR 52 w B base v ps gs closed) (hl : loan.size ≤ 9223372036854775807) (hd : ¬ (day < -719162 ∨ 2932896 < day)) (hn : nameB loan = false) :
    Calls Try.prog 7 #[.pointer (some ⟨B, 0, none⟩), .int .i64 day, .string loan, .agg #[.int .i64 f.day, .int .i64 f.rate, .int .i64 f.prin, .int .i64 f.intr, .int .i64 f.fees, .int .i64 f.cred, .int .i64 f.out, .int .i64 f.inn, .int .i64 f.accr, .int .i64 f.chrg, .int .i64 f.late, .int .i64 f.buck], .agg #[.int .i64 t.day, .int .i64 t.rate, .int .i64 t.prin, .int .i64 t.intr, .int .i64 t.fees, .int .i64 t.cred, .int .i64 t.out, .int .i64 t.inn, .int .i64 t.accr, .int .i64 t.chrg, .int .i64 t.late, .int .i64 t.buck]] w (PostPost 52 w B base v gs closed (postR gs.length closed day loan f t)) := by
  have HR := Lib.hid (show postR gs.length closed day loan f t = (51, none) by rw [postR, if_neg hd, if_pos hn])
  have h1 : ¬ day < -719162 := by omega
  have h2 : ¬ 2932896 < day := by omega
  have HN := Lib.hid hn
  clear hn hd
  go_enter Try.func7, Try.ntmps7
  go_wp2_with fail
  refine (name_any loan _ hl).mono ?_
  rintro e w1 ⟨rfl, hb1⟩
  have HB1 := Lib.hid (below_then (below3 w (.cells #[.int .i64 f.day, .int .i64 f.rate, .int .i64 f.prin, .int .i64 f.intr, .int .i64 f.fees, .int .i64 f.cred, .int .i64 f.out, .int .i64 f.inn, .int .i64 f.accr, .int .i64 f.chrg, .int .i64 f.late, .int .i64 f.buck] 29) (.cells #[.int .i64 t.day, .int .i64 t.rate, .int .i64 t.prin, .int .i64 t.intr, .int .i64 t.fees, .int .i64 t.cred, .int .i64 t.out, .int .i64 t.inn, .int .i64 t.accr, .int .i64 t.chrg, .int .i64 t.late, .int .i64 t.buck] 29) (.cells #[.int .i64 0, .int .i64 0, .string ⟨#[]⟩, .slice none 0 0] 34)) (by simp; omega) hb1)
  have k0 := Lib.hid (keep_blk hb1 (heap3_0 w (.cells #[.int .i64 f.day, .int .i64 f.rate, .int .i64 f.prin, .int .i64 f.intr, .int .i64 f.fees, .int .i64 f.cred, .int .i64 f.out, .int .i64 f.inn, .int .i64 f.accr, .int .i64 f.chrg, .int .i64 f.late, .int .i64 f.buck] 29) (.cells #[.int .i64 t.day, .int .i64 t.rate, .int .i64 t.prin, .int .i64 t.intr, .int .i64 t.fees, .int .i64 t.cred, .int .i64 t.out, .int .i64 t.inn, .int .i64 t.accr, .int .i64 t.chrg, .int .i64 t.late, .int .i64 t.buck] 29) (.cells #[.int .i64 0, .int .i64 0, .string ⟨#[]⟩, .slice none 0 0] 34)))
  have k1 := Lib.hid (keep_blk hb1 (heap3_1 w (.cells #[.int .i64 f.day, .int .i64 f.rate, .int .i64 f.prin, .int .i64 f.intr, .int .i64 f.fees, .int .i64 f.cred, .int .i64 f.out, .int .i64 f.inn, .int .i64 f.accr, .int .i64 f.chrg, .int .i64 f.late, .int .i64 f.buck] 29) (.cells #[.int .i64 t.day, .int .i64 t.rate, .int .i64 t.prin, .int .i64 t.intr, .int .i64 t.fees, .int .i64 t.cred, .int .i64 t.out, .int .i64 t.inn, .int .i64 t.accr, .int .i64 t.chrg, .int .i64 t.late, .int .i64 t.buck] 29) (.cells #[.int .i64 0, .int .i64 0, .string ⟨#[]⟩, .slice none 0 0] 34)))
  have k2 := Lib.hid (keep_blk hb1 (heap3_2 w (.cells #[.int .i64 f.day, .int .i64 f.rate, .int .i64 f.prin, .int .i64 f.intr, .int .i64 f.fees, .int .i64 f.cred, .int .i64 f.out, .int .i64 f.inn, .int .i64 f.accr, .int .i64 f.chrg, .int .i64 f.late, .int .i64 f.buck] 29) (.cells #[.int .i64 t.day, .int .i64 t.rate, .int .i64 t.prin, .int .i64 t.intr, .int .i64 t.fees, .int .i64 t.cred, .int .i64 t.out, .int .i64 t.inn, .int .i64 t.accr, .int .i64 t.chrg, .int .i64 t.late, .int .i64 t.buck] 29) (.cells #[.int .i64 0, .int .i64 0, .string ⟨#[]⟩, .slice none 0 0] 34)))
  clear hb1
  rw [HN.out]
  obtain ⟨c2, f2, z2⟩ := blk_cells k2.out
  go_wp2_with fail
  refine bodyPost_ret (v := .tuple #[.agg #[.int .i64 0, .int .i64 0, .string ⟨#[]⟩, .slice none 0 0], .bool false, .int .i64 (51)]) (by simp [results, Try.results7, go_sem, c2]) rfl ?_
  refine post_none hj ?_ HR.out
  repeat (first | exact HB1.out | refine Below.setCell ?_ (by simp; try omega) _)

theorem base3 {w w2 w3 : World} {base : Nat} {o : Obj} (hb : base ≤ w.heap.size) (h2 : Below w.heap.size w w2) (h3 : Below (w2.alloc o).heap.size (w2.alloc o).drew w3) (o' : Obj) : base ≤ (w3.alloc o').heap.size := by
  have := h2.size
  have := h3.size
  simp at *
  omega
theorem heap_mods {M : Nat → Prop} {w W : World} (h : Mods M w W) {b : Nat} {o : Obj} (hb : w.heap[b]? = some o) (hm : ¬ M b) : W.heap[b]? = some o := (h.block b (Array.getElem?_eq_some_iff.1 hb).1 hm).trans hb

theorem post_some {T : TypeId} {w w2 w3 w4 W : World} {B base b1 n cv gg cap cl cl3 : Nat} {Av Al Al3 : Option Addr} {ps : List Pv} {gs : List Pg} {closed day1 : Int} {loan : ByteArray} {res : List Ln} {r : Int × Option Pg} {o o' : Obj}
    (hn : n = gs.length) (hj : JR T w B base (.slice Av n cv) ps gs closed) (hT : T ≠ 34) (hT' : 41 ≠ T) (hbase : base ≤ w.heap.size) (h2 : Below w.heap.size w w2) (hR : w.heap.size + 1 + 1 < w2.heap.size) (h3 : Below (w2.alloc o).heap.size (w2.alloc o).drew w3)
    (HO : Own w2 b1 41 2 Ln.enc (.slice Al res.length cl) res) (hb1 : w.heap.size + 3 ≤ b1) (HO3 : Own w3 (w2.alloc o).heap.size 41 2 Ln.enc (.slice Al3 res.length cl3) res)
    (H4 : w4.ownsRow base 34 4 (.slice (some ⟨gg, 0, none⟩) (n + 1) cap) (n + 1) (ps.flatMap Pv.enc ++ Pv.enc ⟨(n : Int) + 1, day1, loan, .slice Al3 res.length cl3⟩) ∧ (w3.alloc o').grownBy w4 (Value.slice Av n cv).ownBlock ∧ ((Value.slice Av n cv).ownBlock = some gg ∨ gg = w3.heap.size + 1) ∧ gg < w4.heap.size)
    (hm : ¬ n = 65536) (h7 : res.length ≤ 7) (hr : r = (0, some ⟨(n : Int) + 1, day1, loan, res⟩))
    (hW : Mods (fun k => k = B ∨ k = w.heap.size + 1 + 1) w4 W) (hWB : W.heap[B]? = some (.cells #[.slice (some ⟨gg, 0, none⟩) (n + 1) cap, .int .i64 closed] T)) :
    PostPost T w B base (.slice Av n cv) gs closed r (.returned (.tuple #[.agg #[.int .i64 ((n : Int) + 1), .int .i64 day1, .string loan, .slice Al res.length cl], .bool true, .int .i64 0])) W := by
  subst hr
  obtain ⟨hown4, hg4, hat4, hlt4⟩ := H4
  have hBlt : B < w.heap.size := (Array.getElem?_eq_some_iff.1 hj.blk).1
  have hs2 := h2.size
  have hs3 := h3.size
  have hs4 := hg4.size
  have hsa : (w2.alloc o).heap.size = w2.heap.size + 1 := by simp
  have hsd : (w2.alloc o).drew.heap.size = w2.heap.size + 1 := by simp
  have hsb : (w3.alloc o').heap.size = w3.heap.size + 1 := by simp
  have hv3 : Own (w3.alloc o') base 34 4 Pv.enc (.slice Av n cv) ps := ((show Own (w2.alloc o).drew base _ 4 Pv.enc _ ps from (hj.own.below h2).alloc _).below h3).alloc _
  have own4 : Own w4 base 34 4 Pv.enc (.slice (some ⟨gg, 0, none⟩) (n + 1) cap) (ps ++ [⟨(n : Int) + 1, day1, loan, .slice Al3 res.length cl3⟩]) := by
    have hpl := hj.len
    unfold Own
    rw [List.flatMap_append, List.length_append, hpl, ← hn]
    simpa using hown4
  have hvB := hj.own.ne_blk hj.blk hT.symm
  have hvlt : ∀ b, (Value.slice Av n cv).ownBlock = some b → b < w.heap.size := fun b h => (hj.own.lt h).2
  -- a row of lines that lives in w3's world lives on
  have lives : ∀ (bb : Nat) (u : Value) (ls : List Ln), Own w3 bb 41 2 Ln.enc u ls → (∀ b, u.ownBlock = some b → b ≠ B ∧ b ≠ w.heap.size + 1 + 1) → Own W bb 41 2 Ln.enc u ls := fun bb u ls h hne =>
    ((h.alloc o').other hv3 (by decide) hg4).mods hW fun b hb hm => by
      rcases hm with hm | hm
      · exact (hne b hb).1 hm
      · exact (hne b hb).2 hm
  have to3 : ∀ (bb : Nat) (u : Value) (ls : List Ln), Own w2 bb 41 2 Ln.enc u ls → Own w3 bb 41 2 Ln.enc u ls := fun bb u ls h => (show Own (w2.alloc o).drew bb _ 2 Ln.enc u ls from h.alloc _).below h3
  refine ⟨_, _, ⟨(n : Int) + 1, day1, loan, .slice Al res.length cl⟩, rfl, ⟨hWB, own4.mods hW ?_, ?_, ?_, ?_, hj.lo, hj.hi⟩, ⟨rfl, rfl, rfl, ?_⟩, ?_, ?_, ?_⟩
  · intro b hb hm
    injection hb with hb
    simp only at hb
    rcases hm with hm | hm
    · rcases hat4 with h | h
      · exact hvB (by rw [h, hb, hm])
      · omega
    · rcases hat4 with h | h
      · have := hvlt _ h; omega
      · omega
  · refine All2.snoc (hj.hdr.mono fun q g _ _ h => ⟨h.num, h.day, h.loan, lives _ _ _ (to3 _ _ _ (h.lines.below h2)) fun b hb => ⟨fun e => ?_, ?_⟩⟩) ⟨rfl, rfl, rfl, (lives _ _ _ HO3 fun b hb => ?_).lower (by omega)⟩
    · subst e
      exact h.lines.ne_blk hj.blk hT' hb
    · have := (h.lines.lt hb).2
      omega
    · have := (HO3.lt hb).1
      omega
  · have := hj.many
    simp
    omega
  · intro g hg
    rcases List.mem_append.1 hg with hg | hg
    · exact hj.few g hg
    · have e : g = ⟨(n : Int) + 1, day1, loan, res⟩ := by simpa using hg
      rw [e]
      exact h7
  · exact (lives _ _ _ (to3 _ _ _ HO) fun b hb => by have := (HO.lt hb).1; omega).lower (by omega)
  · intro q hq b hb he
    have hal := (HO.lt he).1
    have hal2 := (HO.lt he).2
    rcases List.mem_append.1 hq with hq | hq
    · obtain ⟨g, _, hg⟩ := hj.hdr.mem q hq
      have := (hg.lines.lt hb).2
      omega
    · have e : q = ⟨(n : Int) + 1, day1, loan, .slice Al3 res.length cl3⟩ := by simpa using hq
      rw [e] at hb
      have := (HO3.lt hb).1
      omega
  · have m1 : Mods (fun k => k = B ∨ (Value.slice Av n cv).ownBlock = some k) w (w3.alloc o') := (Mods.of_below (below_then h2 (by omega) ((show Below w2.heap.size w2 (w2.alloc o).drew from ((Below.refl _ _).alloc (Nat.le_refl _) _).drew).trans (h3.mono (by omega)))) _).alloc _
    refine (m1.trans (Mods.of_grownBy hg4) fun i _ hi => .inr hi.symm).trans hW fun i hi hm => ?_
    rcases hm with hm | hm
    · exact .inl hm
    · omega
  · intro b hb
    injection hb with hb
    simp only at hb
    rcases hat4 with h | h
    · exact .inl (by rw [h, hb])
    · exact .inr (by omega)

theorem ownv {T : TypeId} {w w2 w3 : World} {B base : Nat} {Av : Option Addr} {cv : Nat} {ps : List Pv} {gs : List Pg} {closed : Int} (hj : JR T w B base (.slice Av gs.length cv) ps gs closed) (h2 : Below w.heap.size w w2) {o : Obj} (h3 : Below (w2.alloc o).heap.size (w2.alloc o).drew w3) (_ : Unit) (o' : Obj) :
    (w3.alloc o').ownsRow base 34 4 (.slice Av gs.length cv) gs.length (ps.flatMap Pv.enc) := by
  have h : Own (w3.alloc o') base 34 4 Pv.enc (.slice Av gs.length cv) ps := ((show Own (w2.alloc o).drew base _ 4 Pv.enc _ ps from (hj.own.below h2).alloc _).below h3).alloc _
  rw [Own, hj.len] at h
  exact h

set_option maxHeartbeats 1000000 in
theorem post_ok (B base : Nat) (v : Value) (ps : List Pv) (gs : List Pg) (closed day : Int) (loan : ByteArray) (f t : St) (w : World)
    (hj : JR 52 w B base v ps gs closed) (hbase : base ≤ w.heap.size) (hl : loan.size ≤ 9223372036854775807) (hd : ¬ (day < -719162 ∨ 2932896 < day)) (hn : nameB loan = true) (he : errLed f t = 0) (hm : ¬ gs.length = 65536) (hx : ¬ 2932896 < max day (closed + 1)) (hz : ¬ (resLed f t).length = 0) :
    Calls Try.prog 7 #[.pointer (some ⟨B, 0, none⟩), .int .i64 day, .string loan, .agg #[.int .i64 f.day, .int .i64 f.rate, .int .i64 f.prin, .int .i64 f.intr, .int .i64 f.fees, .int .i64 f.cred, .int .i64 f.out, .int .i64 f.inn, .int .i64 f.accr, .int .i64 f.chrg, .int .i64 f.late, .int .i64 f.buck], .agg #[.int .i64 t.day, .int .i64 t.rate, .int .i64 t.prin, .int .i64 t.intr, .int .i64 t.fees, .int .i64 t.cred, .int .i64 t.out, .int .i64 t.inn, .int .i64 t.accr, .int .i64 t.chrg, .int .i64 t.late, .int .i64 t.buck]] w (PostPost 52 w B base v gs closed (postR gs.length closed day loan f t)) := by
  have HR := Lib.hid (show postR gs.length closed day loan f t = (0, some ⟨(gs.length : Int) + 1, max day (closed + 1), loan, resLed f t⟩) by rw [postR, if_neg hd, if_neg (by rw [hn]; decide), if_neg (by rw [he]; decide), if_neg hm, if_neg hx, if_neg hz])
  have h1 : ¬ day < -719162 := by omega
  have h2 : ¬ 2932896 < day := by omega
  have hlo := hj.lo
  have hhi := hj.hi
  have hmany := hj.many
  have HN := Lib.hid hn
  have HE := Lib.hid he
  clear hn hd he
  obtain ⟨Av, cv, hv⟩ := hj.own.shape
  subst hv
  rw [hj.len] at *
  go_enter Try.func7, Try.ntmps7
  go_wp2_with fail
  refine (name_any loan _ hl).mono ?_
  rintro e w1 ⟨rfl, hb1⟩
  have HB1 := Lib.hid (below_then (below3 w (.cells #[.int .i64 f.day, .int .i64 f.rate, .int .i64 f.prin, .int .i64 f.intr, .int .i64 f.fees, .int .i64 f.cred, .int .i64 f.out, .int .i64 f.inn, .int .i64 f.accr, .int .i64 f.chrg, .int .i64 f.late, .int .i64 f.buck] 29) (.cells #[.int .i64 t.day, .int .i64 t.rate, .int .i64 t.prin, .int .i64 t.intr, .int .i64 t.fees, .int .i64 t.cred, .int .i64 t.out, .int .i64 t.inn, .int .i64 t.accr, .int .i64 t.chrg, .int .i64 t.late, .int .i64 t.buck] 29) (.cells #[.int .i64 0, .int .i64 0, .string ⟨#[]⟩, .slice none 0 0] 34)) (by simp; omega) hb1)
  have k0 := Lib.hid (keep_blk hb1 (heap3_0 w (.cells #[.int .i64 f.day, .int .i64 f.rate, .int .i64 f.prin, .int .i64 f.intr, .int .i64 f.fees, .int .i64 f.cred, .int .i64 f.out, .int .i64 f.inn, .int .i64 f.accr, .int .i64 f.chrg, .int .i64 f.late, .int .i64 f.buck] 29) (.cells #[.int .i64 t.day, .int .i64 t.rate, .int .i64 t.prin, .int .i64 t.intr, .int .i64 t.fees, .int .i64 t.cred, .int .i64 t.out, .int .i64 t.inn, .int .i64 t.accr, .int .i64 t.chrg, .int .i64 t.late, .int .i64 t.buck] 29) (.cells #[.int .i64 0, .int .i64 0, .string ⟨#[]⟩, .slice none 0 0] 34)))
  have k1 := Lib.hid (keep_blk hb1 (heap3_1 w (.cells #[.int .i64 f.day, .int .i64 f.rate, .int .i64 f.prin, .int .i64 f.intr, .int .i64 f.fees, .int .i64 f.cred, .int .i64 f.out, .int .i64 f.inn, .int .i64 f.accr, .int .i64 f.chrg, .int .i64 f.late, .int .i64 f.buck] 29) (.cells #[.int .i64 t.day, .int .i64 t.rate, .int .i64 t.prin, .int .i64 t.intr, .int .i64 t.fees, .int .i64 t.cred, .int .i64 t.out, .int .i64 t.inn, .int .i64 t.accr, .int .i64 t.chrg, .int .i64 t.late, .int .i64 t.buck] 29) (.cells #[.int .i64 0, .int .i64 0, .string ⟨#[]⟩, .slice none 0 0] 34)))
  have k2 := Lib.hid (keep_blk hb1 (heap3_2 w (.cells #[.int .i64 f.day, .int .i64 f.rate, .int .i64 f.prin, .int .i64 f.intr, .int .i64 f.fees, .int .i64 f.cred, .int .i64 f.out, .int .i64 f.inn, .int .i64 f.accr, .int .i64 f.chrg, .int .i64 f.late, .int .i64 f.buck] 29) (.cells #[.int .i64 t.day, .int .i64 t.rate, .int .i64 t.prin, .int .i64 t.intr, .int .i64 t.fees, .int .i64 t.cred, .int .i64 t.out, .int .i64 t.inn, .int .i64 t.accr, .int .i64 t.chrg, .int .i64 t.late, .int .i64 t.buck] 29) (.cells #[.int .i64 0, .int .i64 0, .string ⟨#[]⟩, .slice none 0 0] 34)))
  clear hb1
  rw [HN.out]
  obtain ⟨c0, f0, z0⟩ := blk_cells k0.out
  obtain ⟨c1, f1, z1⟩ := blk_cells k1.out
  go_wp2_with fail
  refine (lines_any f t _).mono ?_
  rintro e w2 ⟨lv, rfl, hown, hb2⟩
  obtain ⟨Al, cl, hlv⟩ := hown.shape
  subst hlv
  have HB2 := Lib.hid (below_then HB1.out HB1.out.size hb2)
  have kr := Lib.hid (keep_blk hb2 k2.out)
  have kj := Lib.hid (keep_blk HB2.out hj.blk)
  have HO := Lib.hid hown
  clear hb2 hown c0 f0 z0 c1 f1 z1
  obtain ⟨c2, f2, z2⟩ := blk_cells kr.out
  obtain ⟨c3, f3, z3⟩ := blk_cells kj.out
  rw [HE.out]
  go_wp2_with fail
  generalize hday : max day (closed + 1) = day1 at *
  have HDAY := Lib.hid hday
  clear hday
  have hlen7 := resLed_len f t
  obtain ⟨i0, hi0, hz0, hz1, hz2⟩ := info_parts infoPv
  have hsw : w2.heap.size < (w2.alloc (.cells #[.int .i64 ((gs.length : Int) + 1), .int .i64 day1, .string loan, .slice Al (resLed f t).length cl] 34)).heap.size := by simp
  have zB : B < w2.heap.size := z3
  have zR : w.heap.size + 1 + 1 < w2.heap.size := z2
  have hneB := Lib.hid (hj.own.ne_blk hj.blk (by decide))
  have hneP := Lib.hid (show (Value.slice Av gs.length cv).ownBlock ≠ some w2.heap.size from fun h => by have := (hj.own.lt h).2; have := HB2.out.size; omega)
  have hneR := Lib.hid (show (Value.slice Av gs.length cv).ownBlock ≠ some (w.heap.size + 1 + 1) from fun h => by have := (hj.own.lt h).2; omega)
  have zb1 : w.heap.size + 3 ≤ w1.heap.size := (Array.getElem?_eq_some_iff.1 k2.out).1
  have hBlt : B < w.heap.size := (Array.getElem?_eq_some_iff.1 hj.blk).1
  have e1 : ¬ B = w.heap.size + 1 + 1 := by omega
  have e2 : ¬ w.heap.size + 1 + 1 = B := by omega
  have e3 : ¬ B = w2.heap.size := by omega
  have e4 : ¬ w2.heap.size = B := by omega
  go_region_law (first | (refine step_append_lies _ (by rfl) _ _ _ (by rfl) base 34 i0 _ 4 56 Try.underlying42 hi0 hz0 hz1 hz2 rfl (by omega) (.slice Av gs.length cv) gs.length (ps.flatMap Pv.enc) (by rfl) (ownv hj HB2.out HB3.out () _) ⟨w3.heap.size, 0, none⟩ 1 1 (Pv.enc ⟨(gs.length : Int) + 1, day1, loan, .slice Al3 (resLed f t).length cl3⟩) (by rfl) (by rfl) (World.news_of_block (cs := #[.int .i64 ((gs.length : Int) + 1), .int .i64 day1, .string loan, .slice Al3 (resLed f t).length cl3]) (t := 34) (fr := (0, 0)) (heap_alloc_new w3 _)) (Pv.one _ rfl) (by omega) (by simp only [maxLen]; omega) (by omega) (base3 hbase HB2.out HB3.out _) (w3.heap.size + 1) (by simp) ?_; intro gg cap w4 hown4 hgrow4 hat4 hlt4; have kj4 := Lib.hid (grownBy_blk hgrow4 ((Below.heap_alloc w3 _ B z3).trans kj3.out) hneB.out); have kp4 := Lib.hid (grownBy_blk hgrow4 ((Below.heap_alloc w3 _ _ z4).trans kp3.out) hneP.out); have kr4 := Lib.hid (grownBy_blk hgrow4 ((Below.heap_alloc w3 _ _ (Array.getElem?_eq_some_iff.1 kr3.out).1).trans kr3.out) hneR.out); have HO4 := Lib.hid (And.intro hown4 (And.intro hgrow4 (And.intro hat4 hlt4))); clear hown4 hgrow4 hat4 hlt4 c3 f3 z3 c4 f4 z4; obtain ⟨c3, f3, z3⟩ := blk_cells kj4.out; obtain ⟨c4, f4, z4⟩ := blk_cells kp4.out; obtain ⟨c5, f5, z5⟩ := blk_cells kr4.out) | (go_simp; go_at_call 16; refine (clone_any ⟨(gs.length : Int) + 1, day1, loan, .slice Al (resLed f t).length cl⟩ (resLed f t) _ ?qsl (by omega)).mono ?_; (case qsl => exact (HO.out.sl Ln.enc_len).below (((Below.refl _ _).alloc (Nat.le_refl _) _).drew)); rintro e w3 ⟨lv3, rfl, hown3, hb3⟩; have kj3 := Lib.hid (keep_blk hb3 ((Below.heap_alloc w2 (.cells #[.int .i64 ((gs.length : Int) + 1), .int .i64 day1, .string loan, .slice Al (resLed f t).length cl] 34) B zB).trans kj.out)); have kp3 := Lib.hid (keep_blk hb3 (heap_alloc_new w2 (.cells #[.int .i64 ((gs.length : Int) + 1), .int .i64 day1, .string loan, .slice Al (resLed f t).length cl] 34))); have kr3 := Lib.hid (keep_blk hb3 ((Below.heap_alloc w2 (.cells #[.int .i64 ((gs.length : Int) + 1), .int .i64 day1, .string loan, .slice Al (resLed f t).length cl] 34) _ zR).trans kr.out)); obtain ⟨Al3, cl3, hlv3⟩ := hown3.shape; subst hlv3; have HO3 := Lib.hid hown3; have HB3 := Lib.hid hb3; clear hown3 hb3 c2 f2 z2 c3 f3 z3; obtain ⟨c3, f3, z3⟩ := blk_cells kj3.out; obtain ⟨c4, f4, z4⟩ := blk_cells kp3.out))
  all_goals
    go_wp2
    refine bodyPost_ret (v := .tuple #[.agg #[.int .i64 ((gs.length : Int) + 1), .int .i64 day1, .string loan, .slice Al (resLed f t).length cl], .bool true, .int .i64 0]) (by simp [results, Try.results7, go_sem, c5]) rfl ?_
    refine post_some rfl hj (by decide) (by decide) hbase HB2.out zR HB3.out HO.out (by omega) HO3.out HO4.out hm hlen7 HR.out ?_ ?_
    · repeat (first | (with_reducible exact Mods.refl _ _) | (with_reducible refine Mods.drew ?_) | (with_reducible refine Mods.set ?_ (fun _ => by simp) _))
    · refine heap_mods (M := fun k => k = w.heap.size + 1 + 1) (w := w4.setCell ⟨B, 0, none⟩ (.slice (some ⟨gg, 0, none⟩) (gs.length + 1) cap)) ?_ (heap_setCell_same w4 B 0 _ _ _ kj4.out) e1
      repeat (first | (with_reducible exact Mods.refl _ _) | (with_reducible refine Mods.drew ?_) | (with_reducible refine Mods.set ?_ (fun _ => by simp) _))

end Go.Proofs.Ytegmobdpbaeijaa
