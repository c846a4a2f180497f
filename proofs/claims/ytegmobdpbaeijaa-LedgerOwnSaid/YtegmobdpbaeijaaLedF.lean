/- The ledger's lines and the reference's are the same, and so are their errors. -/
import Derived.Test.YtegmobdpbaeijaaLedC
import Derived.Test.YtegmobdpbaeijaaLedE
namespace Go.Proofs.Ytegmobdpbaeijaa
open Go.RowKit

theorem inBd_iff (v : Int) : inBd v = true ↔ -4000000000000000 ≤ v ∧ v ≤ 4000000000000000 := by simp [inBd]
theorem within_iff (s : St) : s.within = true ↔ (inBd s.prin = true ∧ inBd s.intr = true ∧ inBd s.fees = true ∧ inBd s.cred = true ∧ inBd s.out = true ∧ inBd s.inn = true ∧ inBd s.accr = true ∧ inBd s.chrg = true) := by
  simp [St.within, St.eight]

theorem bal_even (s : St) (h : s.within = true) : s.bal = s.even := by
  rw [within_iff] at h
  simp only [inBd_iff] at h
  obtain ⟨h1, h2, h3, h4, h5, h6, h7, h8⟩ := h
  rw [Bool.eq_iff_iff]
  simp only [St.bal, St.even, sum7, St.seven, List.foldl_cons, List.foldl_nil, beq_iff_eq]
  simp only [wrap64]
  omega

theorem lines_same (f t : St) (hf : f.within = true) (ht : t.within = true) : linesLed f t = mkLines (seven21 f t) := by
  rw [within_iff] at hf ht
  simp only [inBd_iff] at hf ht
  obtain ⟨f1, f2, f3, f4, f5, f6, f7, f8⟩ := hf
  obtain ⟨t1, t2, t3, t4, t5, t6, t7, t8⟩ := ht
  have key : ∀ i, i < 7 → (seven21 f t).getD i 0 = wrap64 (t.seven.getD i 0 - f.seven.getD i 0) ∧ (((seven21 f t).getD i 0 = 0) ↔ t.seven.getD i 0 = f.seven.getD i 0) := by
    intro i hi
    rcases i with _ | _ | _ | _ | _ | _ | _ | i
    all_goals first | omega | skip
    all_goals
      simp only [seven21, St.seven, List.getD_eq_getElem?_getD, List.getElem?_cons_zero, List.getElem?_cons_succ, Option.getD_some]
      refine ⟨?_, ?_⟩ <;> simp only [wrap64] <;> omega
  rw [linesLed, mkLines, List.filter_map]
  have e1 : (List.range 7).filter (fun i => !(t.seven.getD i 0 == f.seven.getD i 0)) = (List.range 7).filter ((fun x : Ln => !(x.amt == 0)) ∘ mkLn (seven21 f t)) := by
    refine List.filter_congr fun i hi => ?_
    have h := (key i (List.mem_range.1 hi)).2
    simp only [Function.comp, mkLn]
    by_cases h0 : t.seven.getD i 0 = f.seven.getD i 0
    · rw [beq_iff_eq.2 h0, beq_iff_eq.2 (h.2 h0)]
    · rw [beq_eq_false_iff_ne.2 h0, beq_eq_false_iff_ne.2 fun hh => h0 (h.1 hh)]
  rw [e1]
  refine List.map_congr_left fun i hi => ?_
  have hi' : i < 7 := List.mem_range.1 (List.mem_filter.1 hi).1
  rw [mkLn2, mkLn, (key i hi').1]

theorem err_same (f t : St) : errLed f t = err21 f t := by
  unfold errLed err21
  by_cases hw : (f.within && t.within) = true
  · obtain ⟨hf, ht⟩ := Bool.and_eq_true_iff.1 hw
    rw [bal_even f hf, bal_even t ht]
  · have hw' : (f.within && t.within) = false := by simpa using hw
    rw [hw', if_pos (by decide), if_pos (by decide)]
theorem res_same (f t : St) : resLed f t = res21 f t := by
  unfold resLed res21
  rw [err_same]
  by_cases h : err21 f t = 0
  · rw [if_pos h, if_pos h]
    have hw : (f.within && t.within) = true := by
      by_cases hw : (f.within && t.within) = true
      · exact hw
      · exfalso
        have hw' : (f.within && t.within) = false := by simpa using hw
        rw [err21, hw'] at h
        simp at h
    obtain ⟨hf, ht⟩ := Bool.and_eq_true_iff.1 hw
    exact lines_same f t hf ht
  · rw [if_neg h, if_neg h]

end Go.Proofs.Ytegmobdpbaeijaa
