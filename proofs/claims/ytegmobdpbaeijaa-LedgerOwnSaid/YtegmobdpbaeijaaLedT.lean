/- The law's loop: acts are posted by both, and what is answered is written over. -/
import Derived.Test.YtegmobdpbaeijaaLedS
namespace Go.Proofs.Ytegmobdpbaeijaa
open Go.RowKit

/-- An act. -/
structure Ac where
  kind : Int
  day : Int
  to_ : Int
  loan : ByteArray
  f : St
  t : St
def Ac.enc (a : Ac) : List Value := [.int .i64 a.kind, .int .i64 a.day, .int .i64 a.to_, .string a.loan, .int .i64 a.f.day, .int .i64 a.f.rate, .int .i64 a.f.prin, .int .i64 a.f.intr, .int .i64 a.f.fees, .int .i64 a.f.cred, .int .i64 a.f.out, .int .i64 a.f.inn, .int .i64 a.f.accr, .int .i64 a.f.chrg, .int .i64 a.f.late, .int .i64 a.f.buck, .int .i64 a.t.day, .int .i64 a.t.rate, .int .i64 a.t.prin, .int .i64 a.t.intr, .int .i64 a.t.fees, .int .i64 a.t.cred, .int .i64 a.t.out, .int .i64 a.t.inn, .int .i64 a.t.accr, .int .i64 a.t.chrg, .int .i64 a.t.late, .int .i64 a.t.buck]
theorem Ac.enc_len (a : Ac) : a.enc.length = 28 := rfl
theorem Ac.one (a : Ac) : ∀ u ∈ a.enc, u.oneCell' = true := by
  intro u hu
  simp only [Ac.enc, List.mem_cons, List.not_mem_nil, or_false] at hu
  repeat (rcases hu with rfl | hu; · rfl)

/-! ### Room for lines: what may be written over -/
/-- v is nil or lies in a row of lines at base or above that has room for it. -/
def Room (w : World) (base : Nat) (v : Value) : Prop :=
  v = .slice none 0 0 ∨ ∃ g n cap cur, v = .slice (some ⟨g, 0, none⟩) n cap ∧ base ≤ g ∧ w.heap[g]? = some (.cells cur 41 (0, 0)) ∧ n * 2 ≤ cur.size ∧ n ≤ 9223372036854775807
theorem Own.room {w : World} {base : Nat} {v : Value} {ls : List Ln} (h : Own w base 41 2 Ln.enc v ls) : Room w base v := by
  have hl : ls.length ≤ 9223372036854775807 := by
    obtain ⟨_, _, _, h, _⟩ := h.sl Ln.enc_len
    exact h
  rcases h.2 with ⟨hv, _⟩ | ⟨g, cap, cur, hv, hb, hg, hn, hm, hs, _⟩
  · exact .inl hv
  · exact .inr ⟨g, _, cap, cur, hv, hb, hg, by rw [hs]; exact Nat.mul_le_mul_right _ hn, hl⟩
theorem Room.set {w : World} {base : Nat} {v : Value} (h : Room w base v) (b o : Nat) (vs : List Value) : Room (w.setCells b o vs) base v := by
  rcases h with h | ⟨g, n, cap, cur, hv, hb, hg, hn, hl⟩
  · exact .inl h
  · by_cases hgb : g = b
    · subst hgb
      exact .inr ⟨g, n, cap, putL cur o vs, hv, hb, heap_setCells _ _ _ _ hg, by rw [putL_size]; exact hn, hl⟩
    · refine .inr ⟨g, n, cap, cur, hv, hb, ?_, hn, hl⟩
      exact ((mods_setCells b vs o w).block g (Array.getElem?_eq_some_iff.1 hg).1 hgb).trans hg
theorem Room.below {w w' : World} {base : Nat} {v : Value} (h : Room w base v) (hb : Below w.heap.size w w') : Room w' base v := by
  rcases h with h | ⟨g, n, cap, cur, hv, hb', hg, hn, hl⟩
  · exact .inl h
  · exact .inr ⟨g, n, cap, cur, hv, hb', keep_blk hb hg, hn, hl⟩
theorem Room.there {w : World} {base g n cap : Nat} (h : Room w base (.slice (some ⟨g, 0, none⟩) n cap)) (i : Nat) (hi : i < n) : w.there g (i * 2) 2 := by
  rcases h with h | ⟨g', n', cap', cur, hv, hb, hg, hn, hl⟩
  · cases h
  · injection hv with ea en ec
    injection ea with ea
    injection ea with ea
    subst ea en
    intro j hj
    rw [cell_of_row _ _ _ _ _ _ hg, frozen_of_row _ _ _ _ _ hg]
    exact ⟨by simp; omega, rfl⟩
theorem Room.shape {w : World} {base : Nat} {v : Value} (h : Room w base v) : v = .slice none 0 0 ∨ ∃ g n cap, v = .slice (some ⟨g, 0, none⟩) n cap ∧ n ≤ 9223372036854775807 := by
  rcases h with h | ⟨g, n, cap, cur, hv, _, _, _, hl⟩
  · exact .inl h
  · exact .inr ⟨g, n, cap, hv, hl⟩
theorem Room.lt {w : World} {base : Nat} {v : Value} (h : Room w base v) {b : Nat} (hb : v.ownBlock = some b) : base ≤ b ∧ ∃ cur, w.heap[b]? = some (.cells cur 41 (0, 0)) := by
  rcases h with h | ⟨g, n, cap, cur, hv, hb', hg, hn, _⟩
  · subst h
    cases hb
  · subst hv
    injection hb with hb
    simp only at hb
    subst hb
    exact ⟨hb', cur, hg⟩

theorem own_ne {α β : Type} {w : World} {base base' : Nat} {e e' : TypeId} {sz sz' : Nat} {enc : α → List Value} {enc' : β → List Value} {v u : Value} {ys : List α} {zs : List β}
    (h : Own w base e sz enc v ys) (h' : Own w base' e' sz' enc' u zs) (hne : e ≠ e') {b : Nat} (hb : v.ownBlock = some b) : u.ownBlock ≠ some b := by
  intro hu
  rcases h'.2 with ⟨rfl, _⟩ | ⟨g', cap', cur', rfl, _, hh', _⟩
  · cases hu
  · injection hu with hu
    simp only at hu
    subst hu
    exact h.ne_blk hh' hne hb

/-! ### Both journals -/
/-- The ledger's journal and the reference's stand for the same postings. -/
structure Both (w : World) (base Bj Br : Nat) (vj vr : Value) (pj pr : List Pv) (gs : List Pg) : Prop where
  j : JR 52 w Bj base vj pj gs (-719163)
  r : JR 54 w Br base vr pr gs (-719163)
  ne : ∀ b, vj.ownBlock = some b → vr.ownBlock ≠ some b
  wf : ∀ g ∈ gs, ∀ l ∈ g.lines, wfL l
theorem Both.below {w w' : World} {base Bj Br : Nat} {vj vr : Value} {pj pr : List Pv} {gs : List Pg} (h : Both w base Bj Br vj vr pj pr gs) (hb : Below w.heap.size w w') : Both w' base Bj Br vj vr pj pr gs :=
  ⟨h.j.kept hb, h.r.kept hb, h.ne, h.wf⟩
theorem JR.bound {T : TypeId} {w : World} {B base : Nat} {v : Value} {ps : List Pv} {gs : List Pg} {closed : Int} (h : JR T w B base v ps gs closed) : B < w.heap.size ∧ (∀ b, v.ownBlock = some b → b < w.heap.size) ∧ ∀ p ∈ ps, ∀ b, p.lines.ownBlock = some b → b < w.heap.size :=
  ⟨(Array.getElem?_eq_some_iff.1 h.blk).1, fun b hb => (h.own.lt hb).2, fun p hp b hb => by
    obtain ⟨g, _, hg⟩ := h.hdr.mem p hp
    exact (hg.lines.lt hb).2⟩
/-- What both stand for is not touched by writes at base1 and above. -/
theorem Both.above {w w' : World} {base Bj Br base1 : Nat} {vj vr : Value} {pj pr : List Pv} {gs : List Pg} (h : Both w base Bj Br vj vr pj pr gs) (hm : Mods (fun k => base1 ≤ k) w w') (h1 : w.heap.size ≤ base1) : Both w' base Bj Br vj vr pj pr gs := by
  obtain ⟨j1, j2, j3⟩ := h.j.bound
  obtain ⟨r1, r2, r3⟩ := h.r.bound
  refine ⟨h.j.mods hm (by omega) (fun b hb => by have := j2 b hb; omega) (fun p hp b hb => by have := j3 p hp b hb; omega), h.r.mods hm (by omega) (fun b hb => by have := r2 b hb; omega) (fun p hp b hb => by have := r3 p hp b hb; omega), h.ne, h.wf⟩

/-- Behind both posts: the lines answered lie apart from what both stand for. -/
structure Over (w : World) (base Bj Br : Nat) (vj vr : Value) (pj pr : List Pv) (gs : List Pg) (pl : Value) : Prop where
  both : Both w base Bj Br vj vr pj pr gs
  room : Room w base pl
  jl : ∀ q ∈ pj, ∀ b, q.lines.ownBlock = some b → pl.ownBlock ≠ some b
  rl : ∀ q ∈ pr, ∀ b, q.lines.ownBlock = some b → pl.ownBlock ≠ some b
theorem Over.below {w w' : World} {base Bj Br : Nat} {vj vr : Value} {pj pr : List Pv} {gs : List Pg} {pl : Value} (h : Over w base Bj Br vj vr pj pr gs pl) (hb : Below w.heap.size w w') : Over w' base Bj Br vj vr pj pr gs pl :=
  ⟨h.both.below hb, h.room.below hb, h.jl, h.rl⟩
theorem JR.row_ne {T : TypeId} {w : World} {B base : Nat} {v : Value} {ps : List Pv} {gs : List Pg} {closed : Int} (h : JR T w B base v ps gs closed) (hT : T ≠ 41) {g : Nat} {cur : Array Value} (hg : w.heap[g]? = some (.cells cur 41 (0, 0))) :
    B ≠ g ∧ (∀ b, v.ownBlock = some b → b ≠ g) := by
  refine ⟨fun e => ?_, fun b hb e => ?_⟩
  · have := h.blk
    rw [e, hg] at this
    injection this with this
    injection this with _ this
    exact hT this.symm
  · subst e
    exact h.own.ne_blk hg (by decide) hb
theorem Over.set {w : World} {base Bj Br : Nat} {vj vr : Value} {pj pr : List Pv} {gs : List Pg} {g n cap : Nat} (h : Over w base Bj Br vj vr pj pr gs (.slice (some ⟨g, 0, none⟩) n cap)) (o : Nat) (vs : List Value) :
    Over (w.setCells g o vs) base Bj Br vj vr pj pr gs (.slice (some ⟨g, 0, none⟩) n cap) := by
  obtain ⟨_, cur, hg⟩ := h.room.lt (b := g) rfl
  obtain ⟨j1, j2⟩ := h.both.j.row_ne (by decide) hg
  obtain ⟨r1, r2⟩ := h.both.r.row_ne (by decide) hg
  have hm := mods_setCells g vs o w
  refine ⟨⟨h.both.j.mods hm j1 j2 (fun p hp b hb e => h.jl p hp b hb (by rw [e]; rfl)), h.both.r.mods hm r1 r2 (fun p hp b hb e => h.rl p hp b hb (by rw [e]; rfl)), h.both.ne, h.both.wf⟩, h.room.set _ _ _, h.jl, h.rl⟩

/-- Behind the ledger's post. -/
structure Mid (w : World) (base Bj Br s0 : Nat) (vj vr : Value) (pj pr : List Pv) (gs gs' : List Pg) (pl : Value) : Prop where
  j : JR 52 w Bj base vj pj gs' (-719163)
  r : JR 54 w Br base vr pr gs (-719163)
  ne : ∀ b, vj.ownBlock = some b → vr.ownBlock ≠ some b
  wf : ∀ g ∈ gs', ∀ l ∈ g.lines, wfL l
  room : Room w s0 pl
  jl : ∀ q ∈ pj, ∀ b, q.lines.ownBlock = some b → pl.ownBlock ≠ some b
  rl : ∀ q ∈ pr, ∀ b, q.lines.ownBlock = some b → b < s0
theorem Mid.below {w w' : World} {base Bj Br s0 : Nat} {vj vr : Value} {pj pr : List Pv} {gs gs' : List Pg} {pl : Value} (h : Mid w base Bj Br s0 vj vr pj pr gs gs' pl) (hb : Below w.heap.size w w') : Mid w' base Bj Br s0 vj vr pj pr gs gs' pl :=
  ⟨h.j.kept hb, h.r.kept hb, h.ne, h.wf, h.room.below hb, h.jl, h.rl⟩

/-- What a post of the ledger's journal leaves. -/
def MidPost (w : World) (base Bj Br : Nat) (vr : Value) (pr : List Pv) (gs : List Pg) (r : Int × Option Pg) (e : Ending) (w' : World) : Prop :=
  ∃ vj pj num day loan pl k ok, e = .returned (.tuple #[.agg #[.int .i64 num, .int .i64 day, .string loan, pl], .bool ok, .int .i64 k]) ∧ Mid w' base Bj Br w.heap.size vj vr pj pr gs (gs ++ r.2.toList) pl ∧ Below base w w' ∧
    ∀ (b : Nat) (cs : Array Value) (T : TypeId), w.heap[b]? = some (.cells cs T) → T ≠ 52 → T ≠ 34 → w'.heap[b]? = some (.cells cs T)
theorem mid_post (w : World) (base Bj Br : Nat) (vj vr : Value) (pj pr : List Pv) (gs : List Pg) (day : Int) (loan : ByteArray) (f t : St) (h : Both w base Bj Br vj vr pj pr gs) (hbase : base ≤ w.heap.size) (hBj : base ≤ Bj) (hl : loan.size ≤ 9223372036854775807) :
    Calls Try.prog 7 #[.pointer (some ⟨Bj, 0, none⟩), .int .i64 day, .string loan, .agg #[.int .i64 f.day, .int .i64 f.rate, .int .i64 f.prin, .int .i64 f.intr, .int .i64 f.fees, .int .i64 f.cred, .int .i64 f.out, .int .i64 f.inn, .int .i64 f.accr, .int .i64 f.chrg, .int .i64 f.late, .int .i64 f.buck], .agg #[.int .i64 t.day, .int .i64 t.rate, .int .i64 t.prin, .int .i64 t.intr, .int .i64 t.fees, .int .i64 t.cred, .int .i64 t.out, .int .i64 t.inn, .int .i64 t.accr, .int .i64 t.chrg, .int .i64 t.late, .int .i64 t.buck]] w (MidPost w base Bj Br vr pr gs (postR gs.length (-719163) day loan f t)) := by
  refine (post_any Bj base vj pj gs (-719163) day loan f t w h.j hbase hl).mono ?_
  rintro e w' ⟨v', ps', p, rfl, hj, hp, hq, hm, hv⟩
  obtain ⟨r1, r2, r3⟩ := h.r.bound
  have hjt := h.j.row_ne
  have hne1 : Br ≠ Bj := by
    intro e
    have h1 := h.r.blk
    rw [e, h.j.blk] at h1
    injection h1 with h1
    injection h1 with _ h1
    exact absurd h1 (by decide)
  have hr : JR 54 w' Br base vr pr gs (-719163) := by
    refine h.r.mods hm ?_ ?_ ?_
    · rintro (hk | hk)
      · exact hne1 hk
      · exact h.j.own.ne_blk h.r.blk (by decide) hk
    · intro b hb
      rintro (hk | hk)
      · subst hk
        exact h.r.own.ne_blk h.j.blk (by decide) hb
      · exact h.ne b hk hb
    · intro q hq b hb
      obtain ⟨g, _, hg⟩ := h.r.hdr.mem q hq
      rintro (hk | hk)
      · subst hk
        exact hg.lines.ne_blk h.j.blk (by decide) hb
      · exact own_ne hg.lines h.j.own (by decide) hb hk
  refine ⟨v', ps', p.num, p.day, p.loan, p.lines, _, _, rfl, ⟨hj, hr, ?_, wf_post h.wf _ _ _ _ _ _, hp.lines.room, hq, fun q hq b hb => r3 q hq b hb⟩, hm.below hbase ?_, fun b cs T hb hT1 hT2 => (hm.block b (Array.getElem?_eq_some_iff.1 hb).1 ?_).trans hb⟩
  · intro b hb hb'
    rcases hv b hb with hv | hv
    · exact h.ne b hv hb'
    · have := r2 b hb'
      omega
  · intro i hi
    rintro (hk | hk)
    · omega
    · have := (h.j.own.lt hk).1
      omega
  · rintro (hk | hk)
    · subst hk
      have h1 := h.j.blk
      rw [hb] at h1
      injection h1 with h1
      injection h1 with _ h1
      exact hT1 h1
    · exact h.j.own.ne_blk hb (fun e => hT2 e.symm) hk

/-- What the reference's post leaves behind it. -/
def OverPost (w : World) (base Bj Br : Nat) (vj : Value) (pj : List Pv) (gs' : List Pg) (pl : Value) (e : Ending) (w' : World) : Prop :=
  ∃ vr pr val, e = .returned val ∧ Over w' base Bj Br vj vr pj pr gs' pl ∧ Below base w w' ∧
    ∀ (b : Nat) (cs : Array Value) (T : TypeId), w.heap[b]? = some (.cells cs T) → T ≠ 54 → w'.heap[b]? = some (.cells cs T)
theorem over_post (w : World) (base Bj Br s0 : Nat) (vj vr : Value) (pj pr : List Pv) (gs : List Pg) (pl : Value) (day : Int) (loan : ByteArray) (f t : St) (h : Mid w base Bj Br s0 vj vr pj pr gs (gs ++ (postR gs.length (-719163) day loan f t).2.toList) pl) (hbase : base ≤ w.heap.size) (hs0 : base ≤ s0) (hBr : base ≤ Br) (hl : loan.size ≤ 9223372036854775807) :
    Calls Try.prog 8 #[.pointer (some ⟨Br, 0, none⟩), .int .i64 day, .string loan, .agg #[.int .i64 f.day, .int .i64 f.rate, .int .i64 f.prin, .int .i64 f.intr, .int .i64 f.fees, .int .i64 f.cred, .int .i64 f.out, .int .i64 f.inn, .int .i64 f.accr, .int .i64 f.chrg, .int .i64 f.late, .int .i64 f.buck], .agg #[.int .i64 t.day, .int .i64 t.rate, .int .i64 t.prin, .int .i64 t.intr, .int .i64 t.fees, .int .i64 t.cred, .int .i64 t.out, .int .i64 t.inn, .int .i64 t.accr, .int .i64 t.chrg, .int .i64 t.late, .int .i64 t.buck]] w (OverPost w base Bj Br vj pj (gs ++ (postR gs.length (-719163) day loan f t).2.toList) pl) := by
  refine (refPost_any Br base vr pr gs (-719163) day loan f t w h.r hbase hl).mono ?_
  rintro e w' ⟨v', ps', val, rfl, hr, hm, hq, hv⟩
  obtain ⟨j1, j2, j3⟩ := h.j.bound
  have hne1 : Bj ≠ Br := by
    intro e
    have h1 := h.r.blk
    rw [← e, h.j.blk] at h1
    injection h1 with h1
    injection h1 with _ h1
    exact absurd h1 (by decide)
  have hj : JR 52 w' Bj base vj pj (gs ++ (postR gs.length (-719163) day loan f t).2.toList) (-719163) := by
    refine h.j.mods hm hne1 ?_ ?_
    · intro b hb hk
      subst hk
      exact h.j.own.ne_blk h.r.blk (by decide) hb
    · intro q hq b hb hk
      subst hk
      obtain ⟨g, _, hg⟩ := h.j.hdr.mem q hq
      exact hg.lines.ne_blk h.r.blk (by decide) hb
  have hroom : Room w' base pl := by
    rcases h.room with hp | ⟨g, n, cap, cur, hp, hb, hg, hn, hl⟩
    · exact .inl hp
    · refine .inr ⟨g, n, cap, cur, hp, by omega, (hm.block g (Array.getElem?_eq_some_iff.1 hg).1 fun e => ?_).trans hg, hn, hl⟩
      subst e
      have h1 := h.r.blk
      rw [hg] at h1
      injection h1 with h1
      injection h1 with _ h1
      exact absurd h1 (by decide)
  refine ⟨v', ps', val, rfl, ⟨⟨hj, hr, ?_, h.wf⟩, hroom, h.jl, ?_⟩, hm.below hbase fun i hi hk => by omega, fun b cs T hb hT => (hm.block b (Array.getElem?_eq_some_iff.1 hb).1 fun e => ?_).trans hb⟩
  · intro b hb hb'
    rcases hv b hb' with hv | hv
    · exact h.ne b hb hv
    · have := j2 b hb
      omega
  · intro q hqm b hb hp
    have hlt := h.room.lt hp
    have hlt2 : b < w.heap.size := (Array.getElem?_eq_some_iff.1 hlt.2.choose_spec).1
    rcases hq q hqm with hq | hq
    · have := h.rl q hq b hb
      omega
    · have := hq b hb
      omega
  · subst e
    have h1 := h.r.blk
    rw [hb] at h1
    injection h1 with h1
    injection h1 with _ h1
    exact hT h1

theorem over_post' (w : World) (base Bj Br s0 : Nat) (vj vr : Value) (pj pr : List Pv) (gs gs' : List Pg) (pl : Value) (day : Int) (loan : ByteArray) (f t : St) (hg : gs' = gs ++ (postR gs.length (-719163) day loan f t).2.toList) (h : Mid w base Bj Br s0 vj vr pj pr gs gs' pl) (hbase : base ≤ w.heap.size) (hs0 : base ≤ s0) (hBr : base ≤ Br) (hl : loan.size ≤ 9223372036854775807) :
    Calls Try.prog 8 #[.pointer (some ⟨Br, 0, none⟩), .int .i64 day, .string loan, .agg #[.int .i64 f.day, .int .i64 f.rate, .int .i64 f.prin, .int .i64 f.intr, .int .i64 f.fees, .int .i64 f.cred, .int .i64 f.out, .int .i64 f.inn, .int .i64 f.accr, .int .i64 f.chrg, .int .i64 f.late, .int .i64 f.buck], .agg #[.int .i64 t.day, .int .i64 t.rate, .int .i64 t.prin, .int .i64 t.intr, .int .i64 t.fees, .int .i64 t.cred, .int .i64 t.out, .int .i64 t.inn, .int .i64 t.accr, .int .i64 t.chrg, .int .i64 t.late, .int .i64 t.buck]] w (OverPost w base Bj Br vj pj gs' pl) := by
  subst hg
  exact over_post w base Bj Br s0 vj vr pj pr gs pl day loan f t h hbase hs0 hBr hl

end Go.Proofs.Ytegmobdpbaeijaa
