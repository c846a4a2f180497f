/- The key type of ledger.Sums: a struct of one int. -/
import Derived.Test.YtegmobdpbaeijaaMapA
import Derived.Test.YtegmobdpbaeijaaLedB
namespace Go.Proofs.Ytegmobdpbaeijaa

abbrev colK (a : Int) : Value := .agg #[.int .i64 a]
theorem col_laid : laidOutB Try.prog = true := by kernel_rfl
theorem col_row : 80 < Try.prog.types.size := by decide
theorem col_wide : (match Try.prog.underlying 80 with | some (.array _ _) | some (.struct _) => true | _ => false) = true := by kernel_rfl
theorem col_law : WideMaps.KeyLaw Try.prog 80 := deep_law_laid col_laid (m := 2) (by omega) col_row (by kernel_rfl) col_wide
theorem colK_inj {a b : Int} (h : colK a = colK b) : a = b := by simpa [colK] using h
theorem zero_i64 (u : World) : (zeroValue 2).run Try.prog u = .ok (.int .i64 0) u := by kernel_rfl
theorem colK_key (a : Int) (h : (Lit.int .i64 a).wf = true) : ∃ l, keyOf Try.prog 80 (colK a) = some l := by
  have h1 : Try.prog.keyType 80 = true := by kernel_rfl
  have h2 : Value.formed Try.prog 80 (colK a) = true := by kernel_rfl
  have hs : Try.prog.types.size + 1 = (Try.prog.types.size - 1) + 1 + 1 := by kernel_rfl
  have c1 : Try.prog.cellsOf 80 = 1 := by kernel_rfl
  have c2 : Try.prog.cellsOf 3 = 1 := by kernel_rfl
  have h3 : ∀ d, Try.prog.keyLits (d + 1 + 1) 80 [.int .i64 a] = some [.int .i64 a] := fun d => by
    simp [Program.keyLits, Try.underlying80, Try.underlying3, c1, c2, h]
  refine ⟨.string (keyBytes [.int .i64 a]), ?_⟩
  unfold keyOf
  rw [Try.underlying80]
  simp only [h1, h2, Bool.and_self, if_true, hs]
  rw [show (colK a).cells.toList = [.int .i64 a] from rfl, h3]
  rfl

theorem MapR.ne_own {α : Type} {mk : Int → Value} {w : World} {b : Nat} {f : Int → Int} (h : MapR mk w b f) {base : Nat} {e : TypeId} {sz : Nat} {enc : α → List Value} {v : Value} {ys : List α} (ho : Own w base e sz enc v ys) : v.ownBlock ≠ some b := by
  obtain ⟨es, cl, hb, _⟩ := h
  intro hv
  rcases ho.2 with ⟨rfl, _⟩ | ⟨g, cap, cur, rfl, _, hh, _⟩
  · cases hv
  · injection hv with hv
    simp only at hv
    rw [hv, hb] at hh
    injection hh with hh
    cases hh
end Go.Proofs.Ytegmobdpbaeijaa
