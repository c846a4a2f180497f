/- A row of the call's own: an element is written whole; the tail is cleared; it is cut short. -/
import Derived.Test.YtegmobdpbaeijaaLib
import Derived.Lib.SliceRun
namespace Go.Proofs.Ytegmobdpbaeijaa
open Go.RowKit

def putL (cur : Array Value) : Nat → List Value → Array Value
  | _, [] => cur
  | o, v :: r => putL (cur.setIfInBounds o v) (o + 1) r
theorem putL_size : ∀ (vs : List Value) (cur : Array Value) (o : Nat), (putL cur o vs).size = cur.size
  | [], _, _ => rfl
  | v :: r, cur, o => by rw [putL, putL_size r]; simp
theorem putL_list : ∀ (vs : List Value) (cur : Array Value) (o : Nat), o + vs.length ≤ cur.size → (putL cur o vs).toList = cur.toList.take o ++ (vs ++ cur.toList.drop (o + vs.length))
  | [], cur, o, h => by simp [putL]
  | v :: r, cur, o, h => by
    simp only [List.length_cons] at h
    rw [putL, putL_list r _ _ (by simp; omega)]
    have hs : (cur.setIfInBounds o v).toList = cur.toList.set o v := by simp
    rw [hs, List.set_eq_take_append_cons_drop, if_pos (by simp; omega)]
    have hl : (cur.toList.take o).length = o := by simp; omega
    have e1 : (cur.toList.take o ++ v :: cur.toList.drop (o + 1)).take (o + 1) = cur.toList.take o ++ [v] := by
      rw [List.take_append, hl, List.take_of_length_le (by omega), show o + 1 - o = 1 by omega]
      rfl
    have e2 : (cur.toList.take o ++ v :: cur.toList.drop (o + 1)).drop (o + 1 + r.length) = cur.toList.drop (o + (v :: r).length) := by
      rw [List.drop_append, hl, List.drop_eq_nil_of_le (by omega), show o + 1 + r.length - o = r.length + 1 by omega, List.nil_append, List.drop_succ_cons, List.drop_drop]
      congr 1
      simp only [List.length_cons]
      omega
    rw [e1, e2]
    simp
theorem heap_setCells {b : Nat} {e : TypeId} : ∀ (vs : List Value) (o : Nat) (w : World) (cur : Array Value), w.heap[b]? = some (.cells cur e (0, 0)) → (w.setCells b o vs).heap[b]? = some (.cells (putL cur o vs) e (0, 0))
  | [], _, _, _, h => h
  | v :: r, o, w, cur, h => heap_setCells r (o + 1) _ _ (heap_setCell_same w b o _ _ _ h)
theorem mods_setCells (b : Nat) : ∀ (vs : List Value) (o : Nat) (w : World), Mods (fun k => k = b) w (w.setCells b o vs)
  | [], _, _ => Mods.refl _ _
  | v :: r, o, w => ((Mods.setCell (M := fun k => k = b) (a := ⟨b, o, none⟩) rfl v)).trans (mods_setCells b r (o + 1) _) fun _ _ h => h

section
variable {α : Type} {w : World} {base g cap n : Nat} {e : TypeId} {sz : Nat} {enc : α → List Value} {ys : List α}

theorem Own.form {v : Value} (h : Own w base e sz enc v ys) : (v = .slice none 0 0 ∧ ys = []) ∨ ∃ g cap, v = .slice (some ⟨g, 0, none⟩) ys.length cap ∧ base ≤ g ∧ g < w.heap.size := by
  rcases h.2 with ⟨hv, h0⟩ | ⟨g', cap', cur, hv, hb, hg, _⟩
  · exact .inl ⟨hv, List.eq_nil_of_length_eq_zero h0⟩
  · exact .inr ⟨g', cap', hv, hb, (Array.getElem?_eq_some_iff.1 hg).1⟩
theorem Own.there (h : Own w base e sz enc (.slice (some ⟨g, 0, none⟩) n cap) ys) (o k : Nat) (hk : o + k ≤ n * sz) : w.there g o k := by
  rcases h.2 with ⟨hv, _⟩ | ⟨g', cap', cur, hv, hb, hg, hnc, hcm, hcs, htake⟩
  · cases hv
  · injection hv with ea en ec
    injection ea with ea
    injection ea with ea
    subst ea ec
    intro j hj
    have hle : ys.length * sz ≤ cap * sz := Nat.mul_le_mul_right _ hnc
    rw [← en] at hle
    rw [cell_of_row _ _ _ _ _ _ hg, frozen_of_row _ _ _ _ _ hg]
    exact ⟨by simp; omega, rfl⟩
theorem Own.len_eq (h : Own w base e sz enc (.slice (some ⟨g, 0, none⟩) n cap) ys) : n = ys.length := by
  rcases h.2 with ⟨hv, _⟩ | ⟨g', cap', cur, hv, _⟩
  · cases hv
  · injection hv
theorem Own.set (henc : ∀ y, (enc y).length = sz) (h : Own w base e sz enc (.slice (some ⟨g, 0, none⟩) n cap) ys) (i : Nat) (hi : i < ys.length) (p : α) :
    Own (w.setCells g (i * sz) (enc p)) base e sz enc (.slice (some ⟨g, 0, none⟩) n cap) (ys.set i p) := by
  have hn := h.len_eq
  rcases h.2 with ⟨hv, _⟩ | ⟨g', cap', cur, hv, hb, hg, hnc, hcm, hcs, htake⟩
  · cases hv
  · injection hv with ea en ec
    injection ea with ea
    injection ea with ea
    subst ea ec
    have hle : ys.length * sz ≤ cap * sz := Nat.mul_le_mul_right _ hnc
    have hi2 : i * sz + sz ≤ ys.length * sz := by
      have := Nat.mul_le_mul_right sz (show i + 1 ≤ ys.length by omega)
      rw [Nat.add_mul] at this
      omega
    refine ⟨by rw [flat_len henc], .inr ⟨g, cap, putL cur (i * sz) (enc p), by rw [List.length_set, hn], hb, heap_setCells _ _ _ _ hg, by simpa using hnc, hcm, by rw [putL_size, hcs], ?_⟩⟩
    rw [putL_list _ _ _ (by rw [henc, hcs]; omega), henc, List.length_set]
    have hset : ys.set i p = ys.take i ++ p :: ys.drop (i + 1) := by rw [List.set_eq_take_append_cons_drop, if_pos hi]
    rw [hset, List.flatMap_append, List.flatMap_cons]
    have hfl : (ys.flatMap enc).length = ys.length * sz := flat_len henc ys
    have h1 : (ys.take i).flatMap enc = (ys.flatMap enc).take (i * sz) := by
      have h := congrArg (List.take (i * sz)) (congrArg (List.flatMap enc) (List.take_append_drop i ys))
      rw [List.flatMap_append, List.take_append, flat_len henc, List.length_take, Nat.min_eq_left (by omega), Nat.sub_self, List.take_zero, List.append_nil, List.take_of_length_le (by rw [flat_len henc, List.length_take, Nat.min_eq_left (by omega)]; exact Nat.le_refl _)] at h
      exact h
    have h2 : (ys.drop (i + 1)).flatMap enc = (ys.flatMap enc).drop (i * sz + sz) := by
      have h := congrArg (List.drop (i * sz + sz)) (congrArg (List.flatMap enc) (List.take_append_drop (i + 1) ys))
      have hl : ((ys.take (i + 1)).flatMap enc).length = i * sz + sz := by rw [flat_len henc, List.length_take, Nat.min_eq_left (by omega), Nat.add_mul]; omega
      rw [List.flatMap_append, List.drop_append, List.drop_eq_nil_of_le (by omega), hl, Nat.sub_self] at h
      simpa using h
    rw [h1, h2, ← htake, List.take_take, Nat.min_eq_left (by omega), List.take_append, List.length_take, List.take_of_length_le (by simp; omega)]
    congr 1
    rw [Nat.min_eq_left (by simp; omega), List.take_append, henc, List.take_of_length_le (by rw [henc]; omega)]
    congr 1
    rw [List.drop_take]
    congr 1
    omega
/-- What lies from element i on has been written over: the first i stand. -/
theorem Own.cut (henc : ∀ y, (enc y).length = sz) (h : Own w base e sz enc (.slice (some ⟨g, 0, none⟩) n cap) ys) (i : Nat) (hi : i ≤ ys.length) (vs : List Value) (hv : i * sz + vs.length ≤ n * sz) :
    Own (w.setCells g (i * sz) vs) base e sz enc (.slice (some ⟨g, 0, none⟩) i cap) (ys.take i) := by
  have hn := h.len_eq
  rcases h.2 with ⟨hv, _⟩ | ⟨g', cap', cur, hv, hb, hg, hnc, hcm, hcs, htake⟩
  · cases hv
  · injection hv with ea en ec
    injection ea with ea
    injection ea with ea
    subst ea ec
    have hle : ys.length * sz ≤ cap * sz := Nat.mul_le_mul_right _ hnc
    have hil : i * sz ≤ ys.length * sz := Nat.mul_le_mul_right _ hi
    have hl : (ys.take i).length = i := by simp; omega
    refine ⟨by rw [flat_len henc], .inr ⟨g, cap, putL cur (i * sz) vs, by rw [hl], hb, heap_setCells _ _ _ _ hg, by omega, hcm, by rw [putL_size, hcs], ?_⟩⟩
    rw [hn] at hv
    rw [putL_list _ _ _ (by rw [hcs]; omega), hl, List.take_append, List.take_of_length_le (by simp; omega), List.length_take, Nat.min_eq_left (by simp; omega), Nat.sub_self, List.take_zero, List.append_nil]
    have h := congrArg (List.take (i * sz)) (congrArg (List.flatMap enc) (List.take_append_drop i ys))
    rw [List.flatMap_append, List.take_append, flat_len henc, List.length_take, Nat.min_eq_left (by omega), Nat.sub_self, List.take_zero, List.append_nil, List.take_of_length_le (by rw [flat_len henc, List.length_take, Nat.min_eq_left (by omega)]; exact Nat.le_refl _)] at h
    rw [h, ← htake, List.take_take, Nat.min_eq_left (by omega)]
end

theorem Sl.cells {α : Type} {w : World} {sz : Nat} {enc : α → List Value} {A : Option Addr} {n c : Nat} {xs : List α} (h : Sl w sz enc (.slice A n c) xs) : 0 < xs.length → ∃ b off, A = some ⟨b, off, none⟩ ∧ ∀ j (h : j < xs.length) k u, (enc xs[j])[k]? = some u → w.cell? ⟨b, off + j * sz + k, none⟩ = some u := by
  obtain ⟨A', c', e, _, _, hc⟩ := h
  injection e with e1 _ _
  subst e1
  exact hc

/-- A slice over a block that is known whole. -/
theorem Sl.of_blk {α : Type} {w : World} {sz : Nat} {enc : α → List Value} (henc : ∀ y, (enc y).length = sz) {b c : Nat} {cs : Array Value} {T : TypeId} {fr : Nat × Nat} {xs : List α} (hb : w.heap[b]? = some (.cells cs T fr)) (hx : cs.toList = xs.flatMap enc) (hl : xs.length ≤ 9223372036854775807) :
    Sl w sz enc (.slice (some ⟨b, 0, none⟩) xs.length c) xs := by
  refine ⟨_, c, rfl, hl, fun h => (by cases h), fun _ => ⟨b, 0, rfl, fun j hj k u hu => ?_⟩⟩
  have hk : k < sz := by
    have := (List.getElem?_eq_some_iff.1 hu).1
    rwa [henc] at this
  have h1 := flat_at henc xs j hj k hk
  rw [cell_of_row _ _ _ _ _ _ hb, Nat.zero_add, ← Array.getElem?_toList, hx, h1, hu]

theorem run_clear_there {P : Program} (w : World) (t e ty : TypeId) (z : Value) (ht : P.underlying t = some (.slice e)) (hv : ∀ w, (zeroValue e).run P w = .ok z w) (h1 : ∀ u ∈ z.cells.toList, u.oneCell' = true) (b o n c : Nat) (hth : w.there b o (n * z.cells.size)) :
    (Builtin.clear_ #[t] ty #[.slice (some ⟨b, o, none⟩) n c]).run P w = .ok (.tuple #[]) (w.setCells b o (Builtin.zeroCells z.cells n).toList) := by
  have hsz : (Builtin.zeroCells z.cells n).toList.length = n * z.cells.size := by simp [size_zeroCells]
  have hst := run_storeCells_cells (P := P) b o (Builtin.zeroCells z.cells n).toList 0 w (fun j hj => by rw [Nat.add_zero]; exact (hth j (by omega)).1) (fun j hj => by rw [Nat.add_zero]; exact (hth j (by omega)).2)
    (by
      intro u hu
      simp only [Builtin.zeroCells, Array.toList_map, List.mem_map, Array.mem_toList_iff, Array.mem_range] at hu
      obtain ⟨k, hk, rfl⟩ := hu
      by_cases hz : z.cells.size = 0
      · simp [hz] at hk
      · have hlt : k % z.cells.size < z.cells.size := Nat.mod_lt _ (by omega)
        rw [getElem!_pos z.cells _ hlt]
        exact h1 _ (by simp))
  simp only [Nat.add_zero] at hst
  cases n with
  | zero => simp [Builtin.clear_, run_underlying ht, Result.andThen, Builtin.zeroCells, World.setCells]
  | succ n => simp [Builtin.clear_, run_underlying ht, hv, hst, Result.andThen]

end Go.Proofs.Ytegmobdpbaeijaa
