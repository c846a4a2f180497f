/- Words on memory that the walks of this seat share: worlds that agree outside some blocks; slices that read as a list of structs; rows that a call owns. No program stands here. -/
import Derived.WalkKit
import Derived.WalkLawsBesides
import Derived.WalkSpells
import Derived.RowKit3
import Derived.Lib.Hide
import Derived.Deep.Draws
import Derived.Maps.AppendAt
import Derived.Laws.AppendOwnNone
import Derived.Deep.QuietTactic
import Derived.BigQuiet
import Derived.Deep.WholeRow
import Derived.Deep.MidRow
namespace Go.Proofs.Ytegmobdpbaeijaa
open Go.RowKit

/-! ### Worlds that agree but for some blocks -/

/-- Outside the blocks of M the world w' is as w was. -/
structure Mods (M : Nat → Prop) (w w' : World) : Prop where
  os : w'.os = w.os
  tape : w'.tape = w.tape
  output : w'.output = w.output
  size : w.heap.size ≤ w'.heap.size
  block : ∀ k, k < w.heap.size → ¬ M k → w'.heap[k]? = w.heap[k]?

theorem Mods.refl (M : Nat → Prop) (w : World) : Mods M w w := ⟨rfl, rfl, rfl, Nat.le_refl _, fun _ _ _ => rfl⟩
theorem Mods.trans {M N : Nat → Prop} {a b c : World} (h : Mods M a b) (k : Mods N b c) (hN : ∀ i, i < a.heap.size → N i → M i) : Mods M a c :=
  ⟨k.os.trans h.os, k.tape.trans h.tape, k.output.trans h.output, Nat.le_trans h.size k.size,
   fun i hi hm => (k.block i (Nat.lt_of_lt_of_le hi h.size) fun hn => hm (hN i hi hn)).trans (h.block i hi hm)⟩
theorem Mods.mono {M N : Nat → Prop} {a b : World} (h : Mods M a b) (hN : ∀ i, i < a.heap.size → M i → N i) : Mods N a b :=
  ⟨h.os, h.tape, h.output, h.size, fun i hi hm => h.block i hi fun hn => hm (hN i hi hn)⟩
theorem Mods.of_below {w w' : World} (h : Below w.heap.size w w') (M : Nat → Prop) : Mods M w w' := ⟨h.os, h.tape, h.output, h.size, fun i hi _ => h.block i hi⟩
theorem Mods.below {M : Nat → Prop} {w w' : World} {B : Nat} (h : Mods M w w') (hB : B ≤ w.heap.size) (hM : ∀ i, i < B → ¬ M i) : Below B w w' := ⟨h.os, h.tape, h.output, h.size, fun i hi => h.block i (Nat.lt_of_lt_of_le hi hB) (hM i hi)⟩
theorem Mods.of_grownBy {w w' : World} {row : Option Nat} (h : w.grownBy w' row) : Mods (fun k => some k = row) w w' := ⟨h.os, h.tape, h.output, h.size, fun i hi hm => h.block i hi hm⟩
theorem Mods.setCell {M : Nat → Prop} {w : World} {a : Addr} (h : M a.block) (u : Value) : Mods M w (w.setCell a u) :=
  ⟨rfl, rfl, rfl, by simp, fun k _ hk => Below.heap_setCell w a u k fun e => hk (e ▸ h)⟩
theorem Mods.alloc {M : Nat → Prop} {a w : World} (h : Mods M a w) (o : Obj) : Mods M a (w.alloc o) :=
  ⟨h.os, h.tape, h.output, Nat.le_trans h.size (by simp), fun k hk hm => (Below.heap_alloc w o k (Nat.lt_of_lt_of_le hk h.size)).trans (h.block k hk hm)⟩
theorem Mods.drew {M : Nat → Prop} {a w : World} (h : Mods M a w) : Mods M a w.drew := ⟨h.os, h.tape, h.output, h.size, h.block⟩
theorem Mods.drewN {M : Nat → Prop} {a w : World} (h : Mods M a w) (n : Nat) : Mods M a (w.drewN n) := ⟨h.os, h.tape, h.output, h.size, h.block⟩
theorem Mods.set {M : Nat → Prop} {a w : World} (h : Mods M a w) {p : Addr} (hp : p.block < a.heap.size → M p.block) (u : Value) : Mods M a (w.setCell p u) :=
  ⟨h.os, h.tape, h.output, Nat.le_trans h.size (by simp), fun k hk hm => (Below.heap_setCell w p u k (fun e => hm (e ▸ hp (e ▸ hk)))).trans (h.block k hk hm)⟩
theorem Mods.cell {M : Nat → Prop} {w w' : World} (h : Mods M w w') {p : Addr} (hp : p.block < w.heap.size) (hm : ¬ M p.block) : w'.cell? p = w.cell? p := World.cell?_of_block (h.block _ hp hm)
theorem below_drewN' {B : Nat} {a w : World} (h : Below B a w) (n : Nat) : Below B a (w.drewN n) := ⟨h.os, h.tape, h.output, h.size, h.block⟩
theorem below_then {B : Nat} {w w1 w2 : World} (h : Below B w w1) (hB : B ≤ w1.heap.size) (k : Below w1.heap.size w1 w2) : Below B w w2 :=
  h.trans (k.mono hB)
theorem bcell {W w1 : World} (hb : Below W.heap.size W w1) : (∀ b o, b < W.heap.size → w1.cell? ⟨b, o, none⟩ = W.cell? ⟨b, o, none⟩) ∧ (∀ b o, b < W.heap.size → w1.frozen? ⟨b, o, none⟩ = W.frozen? ⟨b, o, none⟩) :=
  ⟨fun b o h => hb.cell (p := ⟨b, o, none⟩) h, fun b o h => hb.frozen (p := ⟨b, o, none⟩) h⟩
theorem cell_lt {w : World} {b o : Nat} {v : Value} (h : w.cell? ⟨b, o, none⟩ = some v) : b < w.heap.size := block_lt_of_cell h
theorem kept_cell {w w1 : World} (hb : Below w.heap.size w w1) {a : Addr} {v : Value} (h : w.cell? a = some v) : w1.cell? a = some v := (hb.cell (block_lt_of_cell h)).trans h
theorem addr_add (g i j : Nat) : (⟨g, i, none⟩ : Addr).add j = ⟨g, i + j, none⟩ := by unfold Addr.add; split <;> simp_all

theorem blk_alloc0 (w : World) (o : Obj) : (w.alloc o).heap[w.heap.size]? = some o := heap_alloc_new w o
/-- A block of cells, none frozen: what each reads as. -/
theorem blk_cells {w : World} {b : Nat} {cs : Array Value} {T : TypeId} (h : w.heap[b]? = some (.cells cs T)) : (∀ j, w.cell? ⟨b, j, none⟩ = cs[j]?) ∧ (∀ j, w.frozen? ⟨b, j, none⟩ = false) ∧ b < w.heap.size :=
  ⟨fun j => cell_of_row w b j cs T (0, 0) h, fun j => frozen_of_row w b j cs T h, (Array.getElem?_eq_some_iff.1 h).1⟩

theorem ret_bool {a b : Bool} (h : a = b) : Ending.returned (.bool a) = .returned (.bool b) := by rw [h]
theorem ret_int {k : IntKind} {a b : Int} (h : a = b) : Ending.returned (.int k a) = .returned (.int k b) := by rw [h]

theorem keep_blk {w w1 : World} (hb : Below w.heap.size w w1) {b : Nat} {o : Obj} (h : w.heap[b]? = some o) : w1.heap[b]? = some o :=
  (hb.block b (Array.getElem?_eq_some_iff.1 h).1).trans h

theorem ret2_int {v : Value} {k : IntKind} {a b : Int} (h : a = b) : Ending.returned (.tuple #[v, .int k a]) = .returned (.tuple #[v, .int k b]) := by rw [h]

theorem heap3_0 (w : World) (a b c : Obj) : (((w.alloc a).alloc b).alloc c).heap[w.heap.size]? = some a := (Below.heap_alloc _ _ _ (by simp; omega)).trans (heap_alloc2_old _ _ _)
theorem heap3_1 (w : World) (a b c : Obj) : (((w.alloc a).alloc b).alloc c).heap[w.heap.size + 1]? = some b := (Below.heap_alloc _ _ _ (by simp)).trans (heap_alloc2_new _ _ _)
theorem heap3_2 (w : World) (a b c : Obj) : (((w.alloc a).alloc b).alloc c).heap[w.heap.size + 1 + 1]? = some c := by
  have h := heap_alloc_new ((w.alloc a).alloc b) c
  simpa using h
theorem below3 (w : World) (a b c : Obj) : Below w.heap.size w (((w.alloc a).alloc b).alloc c) := (((Below.refl _ _).alloc (Nat.le_refl _) _).alloc (by simp) _).alloc (by simp; omega) _

/-! ### Two lists, element by element -/
inductive All2 {α β : Type} (R : α → β → Prop) : List α → List β → Prop
  | nil : All2 R [] []
  | cons {a : α} {b : β} {l : List α} {m : List β} : R a b → All2 R l m → All2 R (a :: l) (b :: m)
theorem All2.len {α β : Type} {R : α → β → Prop} {l : List α} {m : List β} (h : All2 R l m) : l.length = m.length := by
  induction h with
  | nil => rfl
  | cons _ _ ih => simp [ih]
theorem All2.mono {α β : Type} {R S : α → β → Prop} {l : List α} {m : List β} (h : All2 R l m) (hi : ∀ a b, a ∈ l → b ∈ m → R a b → S a b) : All2 S l m := by
  induction h with
  | nil => exact .nil
  | cons h1 _ ih => exact .cons (hi _ _ (by simp) (by simp) h1) (ih fun a b ha hb => hi a b (by simp [ha]) (by simp [hb]))
theorem All2.at {α β : Type} {R : α → β → Prop} {l : List α} {m : List β} (h : All2 R l m) : ∀ (i : Nat) (hi : i < l.length) (hj : i < m.length), R l[i] m[i] := by
  induction h with
  | nil => intro i hi; simp at hi
  | cons h1 _ ih =>
    intro i hi hj
    cases i with
    | zero => exact h1
    | succ i => exact ih i (by simpa using hi) (by simpa using hj)
theorem All2.append {α β : Type} {R : α → β → Prop} {l l' : List α} {m m' : List β} (h : All2 R l m) (k : All2 R l' m') : All2 R (l ++ l') (m ++ m') := by
  induction h with
  | nil => exact k
  | cons h1 _ ih => exact .cons h1 ih
theorem All2.snoc {α β : Type} {R : α → β → Prop} {l : List α} {m : List β} {a : α} {b : β} (h : All2 R l m) (k : R a b) : All2 R (l ++ [a]) (m ++ [b]) := h.append (.cons k .nil)
theorem All2.filter {α β : Type} {R : α → β → Prop} {p : α → Bool} {q : β → Bool} {l : List α} {m : List β} (h : All2 R l m) (hpq : ∀ a b, R a b → p a = q b) : All2 R (l.filter p) (m.filter q) := by
  induction h with
  | nil => exact .nil
  | @cons a b l m h1 _ ih =>
    by_cases hq : q b
    · simp only [List.filter_cons, hpq _ _ h1, hq, if_true]; exact .cons h1 ih
    · simp only [List.filter_cons, hpq _ _ h1, hq, if_false, Bool.false_eq_true]; exact ih
theorem All2.mem {α β : Type} {R : α → β → Prop} {l : List α} {m : List β} (h : All2 R l m) : ∀ a ∈ l, ∃ b ∈ m, R a b := by
  induction h with
  | nil => intro a ha; simp at ha
  | cons h1 _ ih =>
    intro a ha
    rcases List.mem_cons.1 ha with rfl | ha
    · exact ⟨_, by simp, h1⟩
    · obtain ⟨b, hb, hr⟩ := ih a ha
      exact ⟨b, by simp [hb], hr⟩

/-! ### A slice that reads as a list -/

/-- v is a slice whose elements, sz cells each, read as xs. -/
def Sl {α : Type} (w : World) (sz : Nat) (enc : α → List Value) (v : Value) (xs : List α) : Prop :=
  ∃ A c, v = .slice A xs.length c ∧ xs.length ≤ 9223372036854775807 ∧ (A = none → c = 0) ∧
    (0 < xs.length → ∃ b off, A = some ⟨b, off, none⟩ ∧ ∀ j (h : j < xs.length) k u, (enc xs[j])[k]? = some u → w.cell? ⟨b, off + j * sz + k, none⟩ = some u)

theorem Sl.kept {α : Type} {w w' : World} {sz : Nat} {enc : α → List Value} {v : Value} {xs : List α} (h : Sl w sz enc v xs)
    (hb : ∀ b, v.ownBlock = some b → b < w.heap.size → w'.heap[b]? = w.heap[b]?) : Sl w' sz enc v xs := by
  obtain ⟨A, c, rfl, hl, hn, hc⟩ := h
  refine ⟨A, c, rfl, hl, hn, fun h0 => ?_⟩
  obtain ⟨b, off, rfl, hcc⟩ := hc h0
  refine ⟨b, off, rfl, fun j hj k u hu => ?_⟩
  have h1 := hcc j hj k u hu
  exact (World.cell?_of_block (hb b rfl (cell_lt h1))).trans h1
theorem Sl.below {α : Type} {w w' : World} {sz : Nat} {enc : α → List Value} {v : Value} {xs : List α} (h : Sl w sz enc v xs) (hb : Below w.heap.size w w') : Sl w' sz enc v xs :=
  h.kept fun b _ hlt => hb.block b hlt
theorem Sl.mods {α : Type} {M : Nat → Prop} {w w' : World} {sz : Nat} {enc : α → List Value} {v : Value} {xs : List α} (h : Sl w sz enc v xs) (hb : Mods M w w') (hM : ∀ b, v.ownBlock = some b → ¬ M b) : Sl w' sz enc v xs :=
  h.kept fun b hv hlt => hb.block b hlt (hM b hv)
theorem Sl.nil {α : Type} (w : World) (sz : Nat) (enc : α → List Value) : Sl w sz enc (.slice none 0 0) [] := ⟨none, 0, rfl, by simp, fun _ => rfl, fun h => by simp at h⟩
theorem Sl.len {α : Type} {w : World} {sz : Nat} {enc : α → List Value} {A : Option Addr} {n c : Nat} {xs : List α} (h : Sl w sz enc (.slice A n c) xs) : xs.length = n := by
  obtain ⟨A', c', e, _⟩ := h
  injection e with _ e2 _
  exact e2.symm

/-! ### A row of the call's own -/

/-- v is nil or the head of a row of the call's own (its block is base or above), that begins with ys. -/
def Own {α : Type} (w : World) (base : Nat) (e : TypeId) (sz : Nat) (enc : α → List Value) (v : Value) (ys : List α) : Prop :=
  w.ownsRow base e sz v ys.length (ys.flatMap enc)

theorem flat_at {α : Type} {sz : Nat} {enc : α → List Value} (henc : ∀ y, (enc y).length = sz) : ∀ (ys : List α) (j : Nat) (h : j < ys.length) (k : Nat), k < sz → (ys.flatMap enc)[j * sz + k]? = (enc ys[j])[k]?
  | y :: ys, 0, _, k, hk => by simp [List.getElem?_append, henc, hk]
  | y :: ys, j + 1, h, k, hk => by
    have := flat_at henc ys j (by simpa using h) k hk
    rw [List.flatMap_cons, List.getElem?_append_right (by rw [henc]; have := Nat.le_mul_of_pos_left sz (show 0 < j + 1 by omega); omega), henc]
    rw [show (j + 1) * sz + k - sz = j * sz + k by rw [Nat.add_mul]; omega, this]
    rfl
theorem flat_len {α : Type} {sz : Nat} {enc : α → List Value} (henc : ∀ y, (enc y).length = sz) : ∀ ys : List α, (ys.flatMap enc).length = ys.length * sz
  | [] => by simp
  | y :: ys => by rw [List.flatMap_cons, List.length_append, henc, flat_len henc ys, List.length_cons, Nat.add_mul]; omega

theorem Own.sl {α : Type} {w : World} {base : Nat} {e : TypeId} {sz : Nat} {enc : α → List Value} {v : Value} {ys : List α} (henc : ∀ y, (enc y).length = sz) (h : Own w base e sz enc v ys) : Sl w sz enc v ys := by
  rcases h.2 with ⟨rfl, h0⟩ | ⟨g, cap, cur, rfl, hb, hg, hnc, hcm, hcs, htake⟩
  · obtain rfl : ys = [] := List.eq_nil_of_length_eq_zero h0
    exact Sl.nil w sz enc
  · refine ⟨some ⟨g, 0, none⟩, cap, rfl, by simp only [maxLen] at hcm; omega, fun hh => (by cases hh), fun h0 => ⟨g, 0, rfl, fun j hj k u hu => ?_⟩⟩
    have hk : k < sz := by
      have := (List.getElem?_eq_some_iff.1 hu).1
      rwa [henc] at this
    have h1 := flat_at henc ys j hj k hk
    have h2 := h.cells (g := g) rfl (j * sz + k) u (h1.trans hu)
    rw [addr_add] at h2
    rwa [← Nat.add_assoc] at h2
theorem Own.nil {α : Type} (w : World) (base : Nat) (e : TypeId) (sz : Nat) (enc : α → List Value) : Own w base e sz enc (.slice none 0 0) ([] : List α) := World.ownsRow_nil w base e sz
theorem Own.kept {α : Type} {w w' : World} {base : Nat} {e : TypeId} {sz : Nat} {enc : α → List Value} {v : Value} {ys : List α} (h : Own w base e sz enc v ys)
    (hb : ∀ b, v.ownBlock = some b → w'.heap[b]? = w.heap[b]?) : Own w' base e sz enc v ys := by
  refine ⟨h.1, ?_⟩
  rcases h.2 with hn | ⟨g, cap, cur, rfl, hbg, hg, rest⟩
  · exact .inl hn
  · exact .inr ⟨g, cap, cur, rfl, hbg, (hb g rfl).trans hg, rest⟩
theorem Own.lt {α : Type} {w : World} {base : Nat} {e : TypeId} {sz : Nat} {enc : α → List Value} {v : Value} {ys : List α} (h : Own w base e sz enc v ys) {b : Nat} (hb : v.ownBlock = some b) : base ≤ b ∧ b < w.heap.size := World.ownsRow.lt h b hb
theorem Own.below {α : Type} {w w' : World} {base : Nat} {e : TypeId} {sz : Nat} {enc : α → List Value} {v : Value} {ys : List α} (h : Own w base e sz enc v ys) (hb : Below w.heap.size w w') : Own w' base e sz enc v ys :=
  h.kept fun b hv => hb.block b (h.lt hv).2
theorem Own.mods {α : Type} {M : Nat → Prop} {w w' : World} {base : Nat} {e : TypeId} {sz : Nat} {enc : α → List Value} {v : Value} {ys : List α} (h : Own w base e sz enc v ys) (hb : Mods M w w') (hM : ∀ b, v.ownBlock = some b → ¬ M b) : Own w' base e sz enc v ys :=
  h.kept fun b hv => hb.block b (h.lt hv).2 (hM b hv)
theorem Own.alloc {α : Type} {w : World} {base : Nat} {e : TypeId} {sz : Nat} {enc : α → List Value} {v : Value} {ys : List α} (h : Own w base e sz enc v ys) (o : Obj) : Own (w.alloc o) base e sz enc v ys :=
  World.ownsRow.alloc h o
theorem Own.lower {α : Type} {w : World} {base B : Nat} {e : TypeId} {sz : Nat} {enc : α → List Value} {v : Value} {ys : List α} (h : Own w base e sz enc v ys) (hB : B ≤ base) : Own w B e sz enc v ys := by
  refine ⟨h.1, ?_⟩
  rcases h.2 with hn | ⟨g, cap, cur, rfl, hbg, rest⟩
  · exact .inl hn
  · exact .inr ⟨g, cap, cur, rfl, by omega, rest⟩

theorem Own.made0 {α : Type} (w : World) (base : Nat) (e : TypeId) (sz : Nat) (enc : α → List Value) (hb : base ≤ w.heap.size) : Own (w.alloc (.cells #[] e)) base e sz enc (.slice (some ⟨w.heap.size, 0, none⟩) 0 0) ([] : List α) :=
  World.ownsRow_made w #[] 0 hb (by simp) (by simp)
theorem Sl.nil_of {α : Type} {w : World} {sz : Nat} {enc : α → List Value} {n c : Nat} {xs : List α} (h : Sl w sz enc (.slice none n c) xs) : xs = [] ∧ n = 0 ∧ c = 0 := by
  have hl := h.len
  obtain ⟨A, c', e, _, hn, hc⟩ := h
  injection e with eA en ec
  subst eA ec
  have hx : xs = [] := by
    rcases Nat.eq_zero_or_pos xs.length with h0 | h0
    · exact List.eq_nil_of_length_eq_zero h0
    · obtain ⟨b, off, eb, _⟩ := hc h0
      cases eb
  refine ⟨hx, ?_, hn rfl⟩
  rw [← hl, hx]
  rfl
theorem Sl.form {α : Type} {w : World} {sz : Nat} {enc : α → List Value} {v : Value} {xs : List α} (h : Sl w sz enc v xs) : v = .slice none 0 0 ∧ xs = [] ∨ ∃ ad c, v = .slice (some ad) xs.length c := by
  obtain ⟨A, c, rfl, hr⟩ := h
  rcases A with _ | ad
  · obtain ⟨h1, h2, h3⟩ := Sl.nil_of (n := xs.length) (c := c) ⟨none, c, rfl, hr⟩
    exact .inl ⟨by rw [h2, h3], h1⟩
  · exact .inr ⟨ad, c, rfl⟩

theorem Own.shape {α : Type} {w : World} {base : Nat} {e : TypeId} {sz : Nat} {enc : α → List Value} {v : Value} {ys : List α} (h : Own w base e sz enc v ys) : ∃ A c, v = .slice A ys.length c := by
  rcases h.2 with ⟨rfl, h0⟩ | ⟨g, cap, cur, rfl, _⟩
  · exact ⟨none, 0, by rw [h0]⟩
  · exact ⟨_, cap, rfl⟩
theorem Sl.shape {α : Type} {w : World} {sz : Nat} {enc : α → List Value} {v : Value} {ys : List α} (h : Sl w sz enc v ys) : ∃ A c, v = .slice A ys.length c := by
  obtain ⟨A, c, e, _⟩ := h
  exact ⟨A, c, e⟩

theorem Own.other {α β : Type} {w w' : World} {base base' : Nat} {e e' : TypeId} {sz sz' : Nat} {enc : α → List Value} {enc' : β → List Value} {v u : Value} {ys : List α} {zs : List β}
    (h : Own w base e sz enc v ys) (h' : Own w base' e' sz' enc' u zs) (hne : e ≠ e') (hg : w.grownBy w' u.ownBlock) : Own w' base e sz enc v ys := by
  refine h.kept fun b hb => hg.block b (h.lt hb).2 fun hbu => hne ?_
  rcases h.2 with ⟨rfl, _⟩ | ⟨g, cap, cur, rfl, _, hh, _⟩
  · cases hb
  · rcases h'.2 with ⟨rfl, _⟩ | ⟨g', cap', cur', rfl, _, hh', _⟩
    · cases hbu
    · injection hb with hb
      injection hbu with hbu
      simp only at hb hbu
      rw [hb] at hh
      rw [← hbu, hh] at hh'
      injection hh' with hh'
      injection hh'

theorem Own.ne_blk {α : Type} {w : World} {base : Nat} {e e' : TypeId} {sz : Nat} {enc : α → List Value} {v : Value} {ys : List α} (h : Own w base e sz enc v ys) {b : Nat} {cs : Array Value} {fr : Nat × Nat} (hb : w.heap[b]? = some (.cells cs e' fr)) (hne : e ≠ e') : v.ownBlock ≠ some b := by
  rintro hv
  rcases h.2 with ⟨rfl, _⟩ | ⟨g, cap, cur, rfl, _, hh, _⟩
  · cases hv
  · injection hv with hv
    simp only at hv
    rw [hv, hb] at hh
    injection hh with hh
    injection hh with _ he
    exact hne he.symm
theorem grownBy_blk {w w1 : World} {row : Option Nat} (hg : w.grownBy w1 row) {b : Nat} {o : Obj} (h : w.heap[b]? = some o) (hne : row ≠ some b) : w1.heap[b]? = some o :=
  (hg.block b (Array.getElem?_eq_some_iff.1 h).1 fun e => hne e.symm).trans h

/-! ### append -/
section
variable {P : Program} {ops : Array Oper} {rest : List Oper} {o : Oper} {a : Act} {Q : Exit → Act → World → Prop}

/-- append(v, y): behind 'at_builtin'; the goal's world is 'W.alloc' of the variadic's box. -/
theorem wpl_app1 {α : Type} {w0 W : World} (base : Nat) (hgd : o.guard = none) (s x : Operand) (t e : TypeId) (z : Value) (sz bytes : Nat)
    (ho : o.op = .call { callee := .builtin .append, args := #[s, x], argTypes := #[t, t] })
    (ht : P.underlying t = some (.slice e)) (hinfo : (P.info? e).map (fun i => (i.zero, i.size, i.bytes)) = some (some z, sz, bytes)) (hz : z.cells.size = sz) (hsz : 0 < sz) (hb0 : 0 < bytes)
    (enc : α → List Value) (henc : ∀ y, (enc y).length = sz) (v : Value) (ys : List α) (y : α) (cs : Array Value) (hcs : cs.toList = enc y)
    (hs : a.eval s = v) (hx : a.eval x = .slice (some ⟨W.heap.size, 0, none⟩) 1 1) (h1 : ∀ u ∈ enc y, u.oneCell' = true)
    (HO : Own W base e sz enc v ys) (HB : Below base w0 W) (hbase : base ≤ W.heap.size) (hl : (ys.length + 1) * bytes ≤ 140737488355328)
    (h : ∀ v1 w1, Own w1 base e sz enc v1 (ys ++ [y]) → Below base w0 w1 → W.grownBy w1 v.ownBlock → (v1.ownBlock = v.ownBlock ∨ ∃ b, v1.ownBlock = some b ∧ W.heap.size ≤ b) → wpList P ops Q rest (a.put o.dst v1) w1) :
    wpList P ops Q (o :: rest) a (W.alloc (.cells cs e)) := by
  obtain ⟨i0, hi, hzz⟩ := Option.map_eq_some_iff.1 hinfo
  simp only [Prod.mk.injEq] at hzz
  obtain ⟨hz0, hz1, hz2⟩ := hzz
  have hlen : ys.length + 1 ≤ 140737488355328 := Nat.le_trans (Nat.le_mul_of_pos_right _ hb0) hl
  have hbase' : ∀ k, v.ownBlock = some k → base ≤ k := fun k hk => (HO.lt hk).1
  refine wpList_append_own_at (W.alloc (.cells cs e)) hgd s x t ho base e i0 z sz bytes ht hi hz0 hz1 hz2 hz hsz v ys.length (ys.flatMap enc) hs (HO.alloc _) ⟨W.heap.size, 0, none⟩ 1 1 (enc y) hx (by rw [henc]; omega)
    (fun j u hu => ?_) h1 (by simp only [maxLen]; omega) hl (by simp; omega) ?_
  · rw [addr_add, cell_of_row _ _ _ _ _ _ (heap_alloc_new W _)]
    rw [← hcs] at hu
    simpa using hu
  · intro v1 w1 hown hg _ hat
    refine h v1 w1 ?_ ((HB.alloc hbase _).grown hg (by simp; omega) hbase') ?_ ?_
    · unfold Own
      simpa [List.flatMap_append] using hown
    · exact ⟨hg.os, hg.tape, hg.output, Nat.le_trans (by simp) hg.size, fun k hk hm => (hg.block k (by simp; omega) hm).trans (Below.heap_alloc W _ k hk)⟩
    · rcases hat with hat | hat
      · exact .inl hat
      · exact .inr ⟨_, hat, by simp⟩

/-- append(v, xs...) -/
theorem wpl_appN {α : Type} {w0 W : World} (base : Nat) (hgd : o.guard = none) (s x : Operand) (t e : TypeId) (z : Value) (sz bytes : Nat)
    (ho : o.op = .call { callee := .builtin .append, args := #[s, x], argTypes := #[t, t] })
    (ht : P.underlying t = some (.slice e)) (hinfo : (P.info? e).map (fun i => (i.zero, i.size, i.bytes)) = some (some z, sz, bytes)) (hz : z.cells.size = sz) (hsz : 0 < sz) (hb0 : 0 < bytes)
    (enc : α → List Value) (henc : ∀ y, (enc y).length = sz) (v xv : Value) (ys xs : List α)
    (hs : a.eval s = v) (hx : a.eval x = xv) (h1 : ∀ y ∈ xs, ∀ u ∈ enc y, u.oneCell' = true)
    (HO : Own W base e sz enc v ys) (HX : Sl W sz enc xv xs) (HB : Below base w0 W) (hbase : base ≤ W.heap.size) (hl : (ys.length + xs.length) * bytes ≤ 140737488355328)
    (h : ∀ v1 w1, Own w1 base e sz enc v1 (ys ++ xs) → Below base w0 w1 → W.grownBy w1 v.ownBlock → (v1.ownBlock = v.ownBlock ∨ ∃ b, v1.ownBlock = some b ∧ W.heap.size ≤ b) → wpList P ops Q rest (a.put o.dst v1) w1) :
    wpList P ops Q (o :: rest) a W := by
  obtain ⟨i0, hi, hzz⟩ := Option.map_eq_some_iff.1 hinfo
  simp only [Prod.mk.injEq] at hzz
  obtain ⟨hz0, hz1, hz2⟩ := hzz
  have hlen : ys.length + xs.length ≤ 140737488355328 := Nat.le_trans (Nat.le_mul_of_pos_right _ hb0) hl
  have hbase' : ∀ k, v.ownBlock = some k → base ≤ k := fun k hk => (HO.lt hk).1
  obtain ⟨A, c, rfl, hl0, hnone, hc⟩ := HX
  rcases A with _ | ad
  · have hx0 : xs = [] := by
      rcases Nat.eq_zero_or_pos xs.length with h0 | h0
      · exact List.eq_nil_of_length_eq_zero h0
      · obtain ⟨b, off, eb, _⟩ := hc h0
        cases eb
    have ec := hnone rfl
    subst hx0
    refine wpList_append_own_none (w := W) hgd s x t ho base e i0 sz ht hi v ys.length (ys.flatMap enc) hs HO (by rw [hx]; simp [ec]) ?_
    exact h v W (by simpa using HO) HB ⟨rfl, rfl, rfl, Nat.le_refl _, fun _ _ _ => rfl⟩ (.inl rfl)
  · refine wpList_append_own_at W hgd s x t ho base e i0 z sz bytes ht hi hz0 hz1 hz2 hz hsz v ys.length (ys.flatMap enc) hs HO ad xs.length c (xs.flatMap enc) hx (flat_len henc xs)
      (fun j u hu => ?_) (fun u hu => ?_) (by simp only [maxLen]; omega) hl hbase ?_
    · have hj : j < xs.length * sz := by
        have := (List.getElem?_eq_some_iff.1 hu).1
        rwa [flat_len henc] at this
      have hpos : 0 < xs.length := by
        rcases Nat.eq_zero_or_pos xs.length with h0 | h0
        · rw [h0] at hj; omega
        · exact h0
      obtain ⟨b, off, eb, hcell⟩ := hc hpos
      injection eb with eb
      subst eb
      have hq : j / sz < xs.length := by rwa [Nat.div_lt_iff_lt_mul hsz]
      have hr : j % sz < sz := Nat.mod_lt _ hsz
      have hsp : j / sz * sz + j % sz = j := by rw [Nat.mul_comm]; exact Nat.div_add_mod j sz
      have hf := flat_at henc xs (j / sz) hq (j % sz) hr
      rw [hsp, hu] at hf
      have hcc := hcell (j / sz) hq (j % sz) u hf.symm
      rw [addr_add]
      rwa [Nat.add_assoc, hsp] at hcc
    · obtain ⟨y, hy, hu⟩ := List.mem_flatMap.1 hu
      exact h1 y hy u hu
    · intro v1 w1 hown hg _ hat
      refine h v1 w1 ?_ (HB.grown hg hbase hbase') hg ?_
      · unfold Own
        rw [List.flatMap_append, List.length_append]
        exact hown
      · rcases hat with hat | hat
        · exact .inl hat
        · exact .inr ⟨_, hat, Nat.le_refl _⟩
end

/-- A whole struct or array into the block that was made last. -/
theorem wpl_store_new {P : Program} {ops : Array Oper} {rest : List Oper} {o : Oper} {a : Act} {Q : Exit → Act → World → Prop} {W : World} (hgd : o.guard = none) (T : TypeId) (x y : Operand) (ho : o.op = .store T x y)
    (old cells : Array Value) (hx : a.eval x = .pointer (some ⟨W.heap.size, 0, none⟩)) (hy : a.eval y = .agg cells) (hi : (P.info? T).map (·.size) = some cells.size) (hs : old.size = cells.size) (h1 : cells.toList.all (·.oneCell') = true)
    (hd : o.dst = none) (h : wpList P ops Q rest a (W.alloc (.cells cells T))) : wpList P ops Q (o :: rest) a (W.alloc (.cells old T)) := by
  refine wpList_store_row hgd T x y ho W.heap.size cells hx hy T old (heap_alloc_new _ _) hi hs (by rw [← Array.all_toList]; exact h1) ?_
  rw [World.setRow_alloc_new, hd]
  exact h
/-- A whole struct or array out of the block that was made last. -/
theorem wpl_load_new {P : Program} {ops : Array Oper} {rest : List Oper} {o : Oper} {a : Act} {Q : Exit → Act → World → Prop} {W : World} (hgd : o.guard = none) (T : TypeId) (x : Operand) (ho : o.op = .load T x)
    (cells : Array Value) (d : TypeDesc) (hx : a.eval x = .pointer (some ⟨W.heap.size, 0, none⟩)) (hu : P.underlying T = some d) (hd : (match d with | .struct _ | .array _ _ => true | _ => false) = true) (hi : (P.info? T).map (·.size) = some cells.size)
    (h : wpList P ops Q rest (a.put o.dst (.agg cells)) (W.alloc (.cells cells T))) : wpList P ops Q (o :: rest) a (W.alloc (.cells cells T)) :=
  wpList_load_row hgd T x ho W.heap.size hx T cells (0, 0) d (heap_alloc_new _ _) hu hd hi h
/-- A composite literal, by a closed fact on the table of types. -/
theorem wpl_build {P : Program} {ops : Array Oper} {rest : List Oper} {o : Oper} {a : Act} {Q : Exit → Act → World → Prop} {w : World} (hgd : o.guard = none) (t : TypeId) (parts : Array (Nat × Operand)) (ho : o.op = .build t parts)
    (vals : List (Nat × Value)) (hv : parts.toList.map (fun (i, x) => (i, a.eval x)) = vals) (cells : Array Value) (hb : P.built t vals = some cells)
    (h : wpList P ops Q rest (a.put o.dst (.agg cells)) w) : wpList P ops Q (o :: rest) a w := by
  have hv' : (parts.map fun (i, x) => (i, a.eval x)).toList = vals := by rw [Array.toList_map]; exact hv
  refine wpList_build hgd t parts ho (by rw [hv', hb]; rfl) ?_
  rw [hv', hb]
  exact h

end Go.Proofs.Ytegmobdpbaeijaa
