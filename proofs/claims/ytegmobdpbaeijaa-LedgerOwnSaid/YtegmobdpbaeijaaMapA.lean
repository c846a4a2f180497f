/- A map of the call's own from a struct of one int to int64, by its raw entries: what it holds at each number. -/
import Derived.Test.YtegmobdpbaeijaaLib
import Derived.WideKeyEntry
import Derived.DeepKeys4
namespace Go.Proofs.Ytegmobdpbaeijaa
open Go.MapKept

/-- Block b is a map that holds f a at the key of a, and 0 where there is no entry. -/
def MapR (mk : Int → Value) (w : World) (b : Nat) (f : Int → Int) : Prop :=
  ∃ es clock, w.heap[b]? = some (.map es clock) ∧ Stamped es clock ∧ (∀ e ∈ es.toList, ∃ a, (Lit.int .i64 a).wf = true ∧ e.key = mk a ∧ e.val = .int .i64 (f a)) ∧ ∀ a, (∀ e ∈ es.toList, e.key ≠ mk a) → f a = 0
/-- The same, and the entry of a bears the stamp st. -/
def MapE (mk : Int → Value) (w : World) (b : Nat) (f : Int → Int) (a : Int) (st : Nat) : Prop :=
  ∃ es clock, w.heap[b]? = some (.map es clock) ∧ Stamped es clock ∧ (∀ e ∈ es.toList, ∃ a, (Lit.int .i64 a).wf = true ∧ e.key = mk a ∧ e.val = .int .i64 (f a)) ∧ (∀ a, (∀ e ∈ es.toList, e.key ≠ mk a) → f a = 0) ∧ ∃ e ∈ es.toList, e.key = mk a ∧ e.born = st
theorem MapE.toR {mk : Int → Value} {w : World} {b : Nat} {f : Int → Int} {a : Int} {st : Nat} (h : MapE mk w b f a st) : MapR mk w b f := by
  obtain ⟨es, c, h1, h2, h3, h4, _⟩ := h
  exact ⟨es, c, h1, h2, h3, h4⟩
theorem MapR.made (mk : Int → Value) (w : World) : MapR mk (w.alloc (.map #[] 0)) w.heap.size fun _ => 0 :=
  ⟨#[], 0, (heap_alloc w _).1, stamped_empty 0, by simp, fun _ _ => rfl⟩
theorem MapR.block {mk : Int → Value} {w w' : World} {b : Nat} {f : Int → Int} (h : MapR mk w b f) (he : w'.heap[b]? = w.heap[b]?) : MapR mk w' b f := by
  obtain ⟨es, c, h1, h2⟩ := h
  exact ⟨es, c, he.trans h1, h2⟩
theorem MapE.block {mk : Int → Value} {w w' : World} {b : Nat} {f : Int → Int} {a : Int} {st : Nat} (h : MapE mk w b f a st) (he : w'.heap[b]? = w.heap[b]?) : MapE mk w' b f a st := by
  obtain ⟨es, c, h1, h2⟩ := h
  exact ⟨es, c, he.trans h1, h2⟩

section
variable {P : Program} {t k e : TypeId} {mk : Int → Value} (K : WideMaps.KeyLaw P k) (ht : P.underlying t = some (.map k e)) (hz : ∀ u : World, (zeroValue e).run P u = .ok (.int .i64 0) u)
  (hmk : ∀ {a b : Int}, mk a = mk b → a = b) (hkey : ∀ a, (Lit.int .i64 a).wf = true → ∃ l, keyOf P k (mk a) = some l)
include K ht hz hmk hkey

theorem MapR.look {w : World} {b : Nat} {f : Int → Int} (h : MapR mk w b f) {a : Int} (ha : (Lit.int .i64 a).wf = true) :
    (Instr.lookup t (.map (some b)) (mk a) false).run P w = .ok (.int .i64 (f a)) w := by
  obtain ⟨es, clock, hb, hs, hv, h0⟩ := h
  obtain ⟨kl, hk⟩ := hkey a ha
  rcases K.find w hk es.toList (fun e' he' => by obtain ⟨a', hw, hx, _⟩ := hv e' he'; rw [hx]; exact hkey a' hw) with ⟨h1, h2⟩ | ⟨j, e0, h1, h2, h3⟩
  · rw [h0 a h2]
    simp [Instr.lookup, run_underlying ht, MapKept.run_getObj_map hb, K.check w _ hk, h1, hz, Result.andThen]
  · obtain ⟨a', _, hx, hva⟩ := hv e0 (List.mem_of_getElem? h2)
    obtain rfl := hmk (h3.symm.trans hx)
    rw [hva] at h1
    simp [Instr.lookup, run_underlying ht, MapKept.run_getObj_map hb, K.check w _ hk, h1, Result.andThen]

omit hmk in
theorem MapR.entry {w : World} {b : Nat} {f : Int → Int} (h : MapR mk w b f) {a : Int} (ha : (Lit.int .i64 a).wf = true) :
    ∃ v0 st es clock, (Instr.mapEntry t (.map (some b)) (mk a)).run P w = .ok (.tuple #[v0, goInt (st : Nat)]) (ChangeMaps.setBlock w b (.map es clock)) ∧ MapE mk (ChangeMaps.setBlock w b (.map es clock)) b f a st := by
  obtain ⟨es, clock, hb, hs, hv, h0⟩ := h
  obtain ⟨kl, hk⟩ := hkey a ha
  rcases K.find w hk es.toList (fun e' he' => by obtain ⟨a', hw, hx, _⟩ := hv e' he'; rw [hx]; exact hkey a' hw) with ⟨h1, h2⟩ | ⟨j, e0, h1, h2, h3⟩
  · refine ⟨.int .i64 0, clock, es.push ⟨mk a, .int .i64 0, clock⟩, clock + 1, ?_, es.push ⟨mk a, .int .i64 0, clock⟩, clock + 1, (MapKept.heap_set hb).1, stamped_push hs h2, ?_, ?_, ⟨mk a, .int .i64 0, clock⟩, by simp, rfl, rfl⟩
    · simp [Instr.mapEntry, run_underlying ht, MapKept.run_getObj_map hb, K.check w false hk, h1, hz, MapKept.run_setObj_map _ hb, Result.andThen, ChangeMaps.setBlock]
    · intro e' he'
      rw [Array.toList_push] at he'
      rcases List.mem_append.1 he' with h | h
      · exact hv e' h
      · obtain rfl := List.mem_singleton.1 h
        exact ⟨a, ha, rfl, by rw [h0 a h2]⟩
    · intro a' ha'
      exact h0 a' fun e' he' => ha' e' (by rw [Array.toList_push]; exact List.mem_append_left _ he')
  · refine ⟨e0.val, e0.born, es, clock, ?_, es, clock, (MapKept.heap_set hb).1, hs, hv, h0, e0, List.mem_of_getElem? h2, h3, rfl⟩
    have hj : es[j]? = some e0 := by simpa using h2
    have hsame : es.modify j (fun e' => { e' with key := mk a }) = es := by
      apply Array.ext'
      rw [Array.toList_modify, ChangeMaps.modify_eq_set _ _ _ _ h2]
      have : ({ e0 with key := mk a } : MapEntry) = e0 := by rw [← h3]
      rw [this]
      exact WideElems.set_self _ _ _ h2
    simp [Instr.mapEntry, run_underlying ht, MapKept.run_getObj_map hb, K.check w false hk, h1, hj, h3, K.stays w hk, hsame, MapKept.run_setObj_map _ hb, Result.andThen, ChangeMaps.setBlock]
end

/-- f with v at a. -/
def putF (f : Int → Int) (a v : Int) : Int → Int := fun x => if x = a then v else f x

theorem MapE.store {P : Program} {t : TypeId} {mk : Int → Value} (hmk : ∀ {a b : Int}, mk a = mk b → a = b) {w : World} {b : Nat} {f : Int → Int} {a : Int} {st : Nat} (h : MapE mk w b f a st) (v : Int) :
    ∃ es clock, (Instr.entryStore t (.map (some b)) (goInt st) (.int .i64 v)).run P w = .ok () (ChangeMaps.setBlock w b (.map es clock)) ∧ MapR mk (ChangeMaps.setBlock w b (.map es clock)) b (putF f a v) := by
  obtain ⟨es, clock, hb, hs, hv, h0, e0, hm, hk0, rfl⟩ := h
  obtain ⟨j, h2⟩ := List.mem_iff_getElem?.1 hm
  have hidx : es.findIdx? (fun e => ((e.born : Nat) : Int) == ((e0.born : Nat) : Int)) = some j := by
    rw [WideElems.findIdx_arr]
    exact WideElems.findIdx_born hs.2.1 h2
  have hmem : ∀ x, x ∈ (es.modify j fun e => { e with val := .int .i64 v }).toList → x ∈ es.toList ∧ x.key ≠ mk a ∨ x = { e0 with val := .int .i64 v } := by
    intro x hx
    rw [Array.toList_modify, ChangeMaps.modify_eq_set _ _ _ _ h2] at hx
    obtain ⟨i, hi, hxi⟩ := List.mem_iff_getElem.1 hx
    rw [List.getElem_set] at hxi
    by_cases hij : j = i
    · right
      rw [if_pos hij] at hxi
      exact hxi.symm
    · left
      rw [if_neg hij] at hxi
      subst hxi
      have hi' : i < es.toList.length := by simpa using hi
      obtain ⟨hj', hje⟩ := List.getElem?_eq_some_iff.1 h2
      refine ⟨List.getElem_mem _, ?_⟩
      have hpw : ∀ (i j : Nat) (hi : i < es.toList.length) (hj : j < es.toList.length), i < j → es.toList[i].key ≠ es.toList[j].key := fun i j hi hj h => by
        have := List.pairwise_iff_getElem.1 hs.2.2 i j (by simpa using hi) (by simpa using hj) h
        simpa using this
      have hkj : es.toList[j].key = mk a := by rw [hje]; exact hk0
      rcases Nat.lt_or_ge i j with h | h
      · exact fun e => hpw i j hi' hj' h (e.trans hkj.symm)
      · exact fun e => hpw j i hj' hi' (by omega) (hkj.trans e.symm)
  refine ⟨es.modify j fun e => { e with val := .int .i64 v }, clock, ?_, _, _, (MapKept.heap_set hb).1, stamped_modify hs j _ (fun _ _ => rfl) (fun _ _ _ => rfl), ?_, ?_⟩
  · simp [Instr.entryStore, MapKept.run_getObj_map hb, asInt, asIntOf, goInt, hidx, MapKept.run_setObj_map _ hb, Result.andThen, ChangeMaps.setBlock]
  · intro x hx
    rcases hmem x hx with ⟨h1, h2'⟩ | rfl
    · obtain ⟨a', hw, hk, hval⟩ := hv x h1
      refine ⟨a', hw, hk, ?_⟩
      have : a' ≠ a := fun h => h2' (h ▸ hk)
      rw [putF, if_neg this]
      exact hval
    · obtain ⟨a', hw, hk, _⟩ := hv e0 hm
      obtain rfl := hmk (hk0.symm.trans hk)
      exact ⟨a, hw, hk0, by rw [putF, if_pos rfl]⟩
  · intro a' ha'
    have hx : ({ e0 with val := .int .i64 v } : MapEntry) ∈ (es.modify j fun e => { e with val := .int .i64 v }).toList := by
      rw [Array.toList_modify, ChangeMaps.modify_eq_set _ _ _ _ h2]
      exact List.mem_set (List.getElem?_eq_some_iff.1 h2).1 _
    have hne : a' ≠ a := fun h => ha' _ hx (by rw [h]; exact hk0)
    rw [putF, if_neg hne]
    refine h0 a' fun e' he' hke => ?_
    obtain ⟨i, hi, rfl⟩ := List.mem_iff_getElem.1 he'
    by_cases hij : j = i
    · subst hij
      obtain ⟨_, hje⟩ := List.getElem?_eq_some_iff.1 h2
      rw [hje] at hke
      exact hne (hmk (hke.symm.trans hk0))
    · refine ha' es.toList[i] ?_ hke
      rw [Array.toList_modify, ChangeMaps.modify_eq_set _ _ _ _ h2]
      refine List.mem_iff_getElem.2 ⟨i, by simpa using hi, ?_⟩
      rw [List.getElem_set, if_neg hij]

end Go.Proofs.Ytegmobdpbaeijaa
