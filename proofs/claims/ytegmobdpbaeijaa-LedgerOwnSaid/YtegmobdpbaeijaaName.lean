/- What is a loan's name: bitemp.Name and the reference's Loan answer the same. -/
import Derived.Test.YtegmobdpbaeijaaProg
import Derived.Test.YtegmobdpbaeijaaLib
import Derived.Test.YtegmobdpbaeijaaShelf
import Derived.Outline
namespace Go.Proofs.Ytegmobdpbaeijaa
open Go.RowKit Go.Lib

/-- Is a byte a small letter or a digit? -/
def okC (c : Nat) : Bool := (decide (97 ≤ c) && decide (c ≤ 122)) || (decide (48 ≤ c) && decide (c ≤ 57))
theorem okC_true {c : Nat} (h : (97 ≤ c ∧ c ≤ 122) ∨ (48 ≤ c ∧ c ≤ 57)) : okC c = true := by simpa [okC] using h
theorem okC_false {c : Nat} (h : ¬ ((97 ≤ c ∧ c ≤ 122) ∨ (48 ≤ c ∧ c ≤ 57))) : okC c = false := by simp [okC]; omega
def nameB (s : ByteArray) : Bool := decide (1 ≤ s.size) && decide (s.size ≤ 12) && s.data.toList.all fun c => okC c.toNat
def badR (r : Nat) : Bool := !okC r

theorem decode_small (s : ByteArray) (i : Nat) (h : (s.get! i).toNat < 128) : Utf8.decode s i = ((s.get! i).toNat, 1) := by
  simp [Utf8.decode, h]
theorem decode_big (s : ByteArray) (i : Nat) (h : ¬ (s.get! i).toNat < 128) : 128 ≤ (Utf8.decode s i).1 := by
  simp only [Utf8.decode, Nat.add_zero, h, if_false]
  repeat' split
  all_goals simp_all [Utf8.runeError]
  all_goals omega
theorem get_data (s : ByteArray) (i : Nat) (h : i < s.size) : s.get! i = s.data.toList[i]'(by simpa using h) := by
  simp only [ByteArray.get!, Array.getElem_toList]
  exact getElem!_pos s.data i (by simpa using h)

theorem size_toList (s : ByteArray) : s.size = s.toList.length := by rw [ByteArray.toList_eq]; simp
theorem take_snocN {α : Type} (l : List α) (k : Nat) (h : k < l.length) : l.take (k + 1) = l.take k ++ [l[k]] := by
  rw [List.take_succ_eq_append_getElem h]

theorem idx_from (s : ByteArray) : ∀ (d f pos : Nat), s.size - pos = d → d ≤ f → (decide (0 ≤ idxFuncFrom badR true s f pos) = !((s.data.toList.drop pos).all fun c => okC c.toNat))
  | 0, f, pos, hd, _ => by
    rw [idxFuncFrom_end _ _ _ _ _ (by omega), List.drop_eq_nil_of_le (by simp; omega)]
    rfl
  | d + 1, 0, pos, hd, hf => by omega
  | d + 1, f + 1, pos, hd, hf => by
    have hlt : pos < s.size := by omega
    have hl : pos < s.data.toList.length := by simpa using hlt
    rw [List.drop_eq_getElem_cons hl, List.all_cons, idxFuncFrom, if_pos hlt, ← get_data s pos hlt]
    by_cases h : (s.get! pos).toNat < 128
    · rw [decode_small s pos h]
      by_cases ho : okC (s.get! pos).toNat = true
      · rw [if_neg (by simp [badR, ho]), ho, Bool.true_and]
        exact idx_from s d f (pos + 1) (by omega) (by omega)
      · have ho' : okC (s.get! pos).toNat = false := by simpa using ho
        rw [if_pos (by simp [badR, ho']), ho']
        simp
    · have hb := decode_big s pos h
      rw [if_pos (by simp [badR, okC]; omega)]
      have ho' : okC (s.get! pos).toNat = false := by simp [okC]; omega
      rw [ho']
      simp
theorem idx_name (s : ByteArray) : decide (0 ≤ idxFunc badR true s) = !(s.data.toList.all fun c => okC c.toNat) := by
  rw [idxFunc, idx_from s s.size s.size 0 (by omega) (Nat.le_refl _), List.drop_zero]

theorem badR_pays (w : World) : PredAt Try.prog 29 #[] encR badR w := fun W r _ => by
  unfold FnGives
  have e : badR r = ((decide (r < 97) || decide (122 < r)) && (decide (r < 48) || decide (57 < r))) := by
    rw [badR, okC, Bool.eq_iff_iff]
    simp
  have E := Lib.hid e
  clear e
  by_cases h1 : r < 97 <;> by_cases h2 : 122 < r <;> by_cases h3 : r < 48 <;> by_cases h4 : 57 < r
  all_goals
    have z1 : (r : Int) < 97 ↔ r < 97 := by omega
    have z2 : (122 : Int) < r ↔ 122 < r := by omega
    have z3 : (r : Int) < 48 ↔ r < 48 := by omega
    have z4 : (57 : Int) < r ↔ 57 < r := by omega
    go_enter Try.func29, Try.ntmps29
    go_wp2
    all_goals first | (exfalso; omega) | (go_ret; exact ⟨by rw [E.out]; simp [h1, h2, h3, h4], 0, rfl⟩)

set_option maxHeartbeats 400000 in
theorem name_any (s : ByteArray) (w : World) (hs : s.size ≤ 9223372036854775807) :
    Calls Try.prog 15 #[.string s] w fun e w' => e = .returned (.bool (nameB s)) ∧ Below w.heap.size w w' := by
  have hC := fun W => Try.strings_ContainsFunc 29 #[] (enters_of Try.func29 (by kernel_rfl) rfl) badR s W (badR_pays W)
  go_enter Try.func15, Try.ntmps15
  have HC := Lib.hid hC
  clear hC
  go_wp2_with fail
  · have h0 : s.size = 0 := by
      have h : s.toList = [] := by assumption
      rw [size_toList, h]
      rfl
    go_ret
    exact ⟨ret_bool (by simp [nameB, h0]), Below.refl _ _⟩
  · have h0 : ¬ s.toList = [] := by assumption
    have h1 : (s.size : Int) ≤ 12 := by assumption
    have h2 : 1 ≤ s.size := by
      rcases Nat.eq_zero_or_pos s.size with h | h
      · exact absurd (List.eq_nil_of_length_eq_zero (by rw [← size_toList, h])) h0
      · exact h
    refine (HC.out _).mono ?_
    rintro e w1 ⟨rfl, hb⟩
    have E := Lib.hid (idx_name s)
    generalize decide (0 ≤ idxFunc badR true s) = q at *
    go_wp2_with fail
    go_ret
    refine ⟨ret_bool ?_, hb⟩
    rw [E.out, nameB]
    simp [h2, show s.size ≤ 12 by omega, h0]
  · have h1 : 12 < (s.size : Int) := by assumption
    go_ret
    refine ⟨ret_bool ?_, Below.refl _ _⟩
    simp [nameB, show ¬ s.size ≤ 12 by omega]

theorem all_data (s : ByteArray) (k : Nat) (h : k < s.size) : ((s.data.toList.take (k + 1)).all fun c => okC c.toNat) = ((s.data.toList.take k).all (fun c => okC c.toNat) && okC s[k].toNat) := by
  rw [take_snocN _ k (by simpa using h), List.all_append]
  simp
  rfl

set_option maxHeartbeats 400000 in
theorem loan_any (s : ByteArray) (w : World) (hs : s.size ≤ 9223372036854775807) :
    Calls Try.prog 18 #[.string s] w fun e w' => e = .returned (.bool (nameB s)) ∧ w = w' := by
  go_enter Try.func18, Try.ntmps18
  go_wp2
  go_loopw [3] (fun j wr => ∃ k : Nat, k ≤ s.size ∧ j = .int .i64 k ∧ Hid (((s.data.toList.take k).all fun c => okC c.toNat) = true) ∧ w = wr) (fun j _ => s.size - (intOf j).toNat)
  case atStart => exact ⟨0, by omega, rfl, Lib.hid rfl, rfl⟩
  case round =>
    obtain ⟨k, hk, rfl, HT, rfl⟩ := hrel
    by_cases hlt : k < s.size
    · have hsn := all_data s k hlt
      rw [HT.out, Bool.true_and] at hsn
      have HSN := Lib.hid hsn
      clear hsn
      have HF := Lib.hid (show okC s[k].toNat = false → nameB s = false from fun h => by
        have h1 := HSN.out
        rw [h] at h1
        have h2 := List.take_append_drop (k + 1) s.data.toList
        rw [nameB, ← h2, List.all_append, h1, Bool.false_and, Bool.and_false])
      have hr : (s[k].toNat : Int) < 48 ∨ (48 ≤ (s[k].toNat : Int) ∧ (s[k].toNat : Int) ≤ 57) ∨ (57 < (s[k].toNat : Int) ∧ (s[k].toNat : Int) < 97) ∨ (97 ≤ (s[k].toNat : Int) ∧ (s[k].toNat : Int) ≤ 122) ∨ 122 < (s[k].toNat : Int) := by omega
      rcases hr with hr | ⟨hr1, hr2⟩ | ⟨hr1, hr2⟩ | ⟨hr1, hr2⟩ | hr
      · go_wp2
        all_goals first
          | (go_ret; exact ⟨ret_bool (HF.out (okC_false (by omega))).symm, rfl⟩)
          | (exfalso; rename_i hh; simp at hh; omega)
      · go_wp2
        refine ⟨⟨k + 1, by omega, by go_num, Lib.hid ?_, trivial⟩, by simp [intOf]; omega⟩
        rw [HSN.out]
        exact okC_true (by omega)
      · go_wp2
        all_goals first
          | (go_ret; exact ⟨ret_bool (HF.out (okC_false (by omega))).symm, rfl⟩)
          | (exfalso; rename_i hh; simp at hh; omega)
      · go_wp2
        refine ⟨⟨k + 1, by omega, by go_num, Lib.hid ?_, trivial⟩, by simp [intOf]; omega⟩
        rw [HSN.out]
        exact okC_true (by omega)
      · go_wp2
        all_goals first
          | (go_ret; exact ⟨ret_bool (HF.out (okC_false (by omega))).symm, rfl⟩)
          | (exfalso; rename_i hh; simp at hh; omega)
    · have hfull := HT.out
      rw [List.take_of_length_le (by simp; omega)] at hfull
      have HF := Lib.hid hfull
      clear hfull
      go_wp2
      all_goals
        go_ret
        refine ⟨ret_bool ?_, rfl⟩
        rw [nameB, HF.out, Bool.and_true, Bool.eq_iff_iff]
        simp
        try omega

end Go.Proofs.Ytegmobdpbaeijaa
