/- A copy of a list of postings -/
import Derived.Test.YtegmobdpbaeijaaLedB
namespace Go.Proofs.Ytegmobdpbaeijaa
open Go.RowKit

set_option maxHeartbeats 400000 in
theorem cloneP_any (x : Value) (xs : List Pv) (w : World) (hx : Sl w 4 Pv.enc x xs) (hone : ∀ y ∈ xs, ∀ u ∈ Pv.enc y, u.oneCell' = true) (hb : xs.length * 56 ≤ 140737488355328) :
    Calls Try.prog 35 #[x] w fun e w' => ∃ v, e = .returned v ∧ Own w' w.heap.size 34 4 Pv.enc v xs ∧ Below w.heap.size w w' := by
  have E := fun (W : World) a n c => Lib.run_eql_slice_nil (P := Try.prog) W 42 34 a n c 0 0 Try.underlying42
  have HN := Lib.hid hone
  clear hone
  rcases hx.form with ⟨rfl, rfl⟩ | ⟨ad, c, rfl⟩
  · go_enter Try.func35, Try.ntmps35
    go_wp2
    go_ret
    exact ⟨_, rfl, Own.nil _ _ _ _ _, Below.refl _ _⟩
  · go_enter Try.func35, Try.ntmps35
    go_wp2_with (at_builtin; go_must (refine wpl_appN (w0 := w) w.heap.size rfl (.tmp 5) (.tmp 6) _ _ _ 4 56 rfl Try.underlying42 infoPv rfl (by decide) (by decide) Pv.enc Pv.enc_len _ _ [] xs rfl rfl HN.out (Own.made0 _ _ _ _ _ (Nat.le_refl _)) ?hx ((Below.refl _ _).alloc (Nat.le_refl _) _) (by simp) (by simpa using hb) ?_; (case hx => exact hx.below ((Below.refl _ _).alloc (Nat.le_refl _) _)); intro v1 w1 hown hbel _ _))
    go_ret
    exact ⟨_, rfl, by simpa using hown, hbel⟩

end Go.Proofs.Ytegmobdpbaeijaa
