/- Contracts of the ledger's small functions and of its reference's: each call returns what the plain function beside it says; memory that was there stays. -/
import Derived.Test.YtegmobdpbaeijaaProg
import Derived.Test.YtegmobdpbaeijaaLib
import Derived.Outline
import Derived.Deep.DeepMust
namespace Go.Proofs.Ytegmobdpbaeijaa
open Go.RowKit

/-- A line: its account and its amount. -/
structure Ln where
  acc : Int
  amt : Int
deriving DecidableEq
def Ln.enc (l : Ln) : List Value := [.int .i64 l.acc, .int .i64 l.amt]
theorem Ln.enc_len (l : Ln) : l.enc.length = 2 := rfl
theorem Ln.one (l : Ln) : ∀ u ∈ l.enc, u.oneCell' = true := by simp [Ln.enc, Value.oneCell']
/-- A posting as it lies in memory: its lines are a slice. -/
structure Pv where
  num : Int
  day : Int
  loan : ByteArray
  lines : Value
def Pv.enc (p : Pv) : List Value := [.int .i64 p.num, .int .i64 p.day, .string p.loan, p.lines]
theorem Pv.enc_len (p : Pv) : p.enc.length = 4 := rfl
theorem Pv.one (p : Pv) (h : p.lines.oneCell' = true) : ∀ u ∈ p.enc, u.oneCell' = true := by
  intro u hu
  simp only [Pv.enc, List.mem_cons, List.not_mem_nil, or_false] at hu
  rcases hu with rfl | rfl | rfl | rfl <;> first | rfl | exact h

theorem infoLn : (Try.prog.info? 41).map (fun i => (i.zero, i.size, i.bytes)) = some (some (.agg #[.int .i64 0, .int .i64 0]), 2, 16) := by kernel_rfl
theorem infoPv : (Try.prog.info? 34).map (fun i => (i.zero, i.size, i.bytes)) = some (some (.agg #[.int .i64 0, .int .i64 0, .string ⟨#[]⟩, .slice none 0 0]), 4, 56) := by kernel_rfl

def sameLn (xs ys : List Ln) : Bool := decide (xs = ys)

theorem take_snoc {α : Type} (l : List α) (k : Nat) (h : k < l.length) : l.take (k + 1) = l.take k ++ [l[k]] := by
  rw [List.take_succ_eq_append_getElem h]
theorem Ln.ext' {a b : Ln} (h1 : a.acc = b.acc) (h2 : a.amt = b.amt) : a = b := by cases a; cases b; simp_all
theorem Sl.cells2 {w : World} {A : Option Addr} {xs : List Ln} (h : 0 < xs.length → ∃ b off, A = some ⟨b, off, none⟩ ∧ ∀ j (h : j < xs.length) k u, (Ln.enc xs[j])[k]? = some u → w.cell? ⟨b, off + j * 2 + k, none⟩ = some u)
    (k : Nat) (hk : k < xs.length) : ∃ b off, A = some ⟨b, off, none⟩ ∧ w.cell? ⟨b, off + k * 2, none⟩ = some (.int .i64 xs[k].acc) ∧ w.cell? ⟨b, off + k * 2 + 1, none⟩ = some (.int .i64 xs[k].amt) := by
  obtain ⟨b, off, e, hc⟩ := h (by omega)
  exact ⟨b, off, e, hc k hk 0 _ rfl, hc k hk 1 _ rfl⟩

theorem eqLn (d : Nat) (w : World) (a b a' b' : Int) :
    (Op.equalIn (d + 2) 41 (.agg #[.int .i64 a, .int .i64 b]) (.agg #[.int .i64 a', .int .i64 b'])).run Try.prog w = .ok (a == a' && b == b') w := by
  rw [run_equalIn_struct w (d + 1) 41 _ _ (by rfl) (by kernel_rfl)]
  go_simp
  by_cases h1 : a = a' <;> by_cases h2 : b = b' <;> simp [h1, h2]

set_option maxHeartbeats 400000 in
theorem same_any (x y : Value) (xs ys : List Ln) (w : World) (hx : Sl w 2 Ln.enc x xs) (hy : Sl w 2 Ln.enc y ys) :
    Calls Try.prog 14 #[x, y] w fun e w' => e = .returned (.bool (sameLn xs ys)) ∧ ∃ n, w' = w.drewN n := by
  obtain ⟨A, c, rfl, hxl, _, hxc⟩ := hx
  obtain ⟨B, d, rfl, hyl, _, hyc⟩ := hy
  have HX := Lib.hid hxc
  have HY := Lib.hid hyc
  clear hxc hyc
  have E := eqLn
  by_cases hl : xs.length = ys.length
  · have hl' : ((xs.length : Int) != (ys.length : Int)) = false := by simp [hl]
    have HL := Lib.hid hl
    clear hl
    go_enter Try.func14, Try.ntmps14
    go_wp2
    go_loopw [5, 13] (fun i j wr => ∃ k : Nat, k ≤ xs.length ∧ j = .int .i64 k ∧ Hid (xs.take k = ys.take k) ∧ ∃ n, wr = w.drewN n) (fun _ j _ => xs.length - (intOf j).toNat)
    case atStart => exact ⟨0, by omega, rfl, Lib.hid (by simp), 0, rfl⟩
    case round =>
      obtain ⟨k, hk, rfl, HT, n, rfl⟩ := hrel
      by_cases hlt : k < xs.length
      · have hlt' : k < ys.length := by rw [← HL.out]; exact hlt
        obtain ⟨b, off, rfl, h0, h1⟩ := Sl.cells2 HX.out k hlt
        obtain ⟨b', off', rfl, h2, h3⟩ := Sl.cells2 HY.out k hlt'
        go_wp2
        go_quiet (fail)
        go_wp2
        · have hne : xs[k].acc ≠ ys[k].acc ∨ xs[k].amt ≠ ys[k].amt := by have := ‹_ ∨ _›; simpa using this
          go_ret
          refine ⟨?_, n + nq, by simp⟩
          have : ¬ xs = ys := fun h => by subst h; simp at hne
          simp [sameLn, this]
        · have heq : xs[k].acc = ys[k].acc ∧ xs[k].amt = ys[k].amt := by have := ‹_ ∧ _›; simpa using this
          have e : xs[k] = ys[k] := Ln.ext' heq.1 heq.2
          refine ⟨⟨k + 1, by omega, by go_num, ?_, n + nq, by simp⟩, by simp [intOf]; omega⟩
          refine Lib.hid ?_
          rw [take_snoc xs k hlt, take_snoc ys k hlt', HT.out, e]
      · go_wp2
        go_ret
        refine ⟨?_, n, rfl⟩
        have hT := HT.out
        rw [List.take_of_length_le (by omega), List.take_of_length_le (by rw [← HL.out]; omega)] at hT
        simp [sameLn, hT]
  · have hl' : ((xs.length : Int) != (ys.length : Int)) = true := by simp; omega
    go_enter Try.func14, Try.ntmps14
    go_wp2
    go_ret
    refine ⟨?_, 0, rfl⟩
    have : ¬ xs = ys := fun h => hl (by rw [h])
    simp [sameLn, this]


set_option maxHeartbeats 400000 in
theorem cloneLn_any (x : Value) (xs : List Ln) (w : World) (hx : Sl w 2 Ln.enc x xs) (hb : xs.length * 16 ≤ 140737488355328) :
    Calls Try.prog 30 #[x] w fun e w' => ∃ v, e = .returned v ∧ Own w' w.heap.size 41 2 Ln.enc v xs ∧ Below w.heap.size w w' := by
  have E := fun (W : World) a n c => Lib.run_eql_slice_nil (P := Try.prog) W 32 41 a n c 0 0 Try.underlying32
  rcases hx.form with ⟨rfl, rfl⟩ | ⟨ad, c, rfl⟩
  · go_enter Try.func30, Try.ntmps30
    go_wp2
    go_ret
    exact ⟨_, rfl, Own.nil _ _ _ _ _, Below.refl _ _⟩
  · go_enter Try.func30, Try.ntmps30
    go_wp2_with (at_builtin; go_must (refine wpl_appN (w0 := w) w.heap.size rfl (.tmp 5) (.tmp 6) _ _ _ 2 16 rfl Try.underlying32 infoLn rfl (by decide) (by decide) Ln.enc Ln.enc_len _ _ [] xs rfl rfl (fun y _ => y.one) (Own.made0 _ _ _ _ _ (Nat.le_refl _)) ?hx ((Below.refl _ _).alloc (Nat.le_refl _) _) (by simp) (by simpa using hb) ?_; (case hx => exact hx.below ((Below.refl _ _).alloc (Nat.le_refl _) _)); intro v1 w1 hown hbel _ _))
    go_ret
    exact ⟨_, rfl, by simpa using hown, hbel⟩


set_option maxHeartbeats 400000 in
theorem clone_any (p : Pv) (xs : List Ln) (w : World) (hx : Sl w 2 Ln.enc p.lines xs) (hb : xs.length * 16 ≤ 140737488355328) :
    Calls Try.prog 16 #[.agg #[.int .i64 p.num, .int .i64 p.day, .string p.loan, p.lines]] w fun e w' =>
      ∃ v, e = .returned (.agg #[.int .i64 p.num, .int .i64 p.day, .string p.loan, v]) ∧ Own w' w.heap.size 41 2 Ln.enc v xs ∧ Below w.heap.size w w' := by
  go_enter Try.func16, Try.ntmps16
  go_wp2_with fail
  have hW := ((Below.refl w.heap.size w).alloc (Nat.le_refl _) (.cells #[.int .i64 p.num, .int .i64 p.day, .string p.loan, p.lines] 34)).alloc (by simp) (.cells #[.int .i64 0, .int .i64 0, .string ⟨#[]⟩, .slice none 0 0] 34)
  refine (cloneLn_any p.lines xs _ (hx.below hW) hb).mono ?_
  rintro e w1 ⟨v, rfl, hown, hbel⟩
  have h0 : w1.heap[w.heap.size]? = some (.cells #[.int .i64 p.num, .int .i64 p.day, .string p.loan, p.lines] 34) := (hbel.block w.heap.size (by simp; omega)).trans (heap_alloc2_old _ _ _)
  have h1 : w1.heap[w.heap.size + 1]? = some (.cells #[.int .i64 0, .int .i64 0, .string ⟨#[]⟩, .slice none 0 0] 34) := (hbel.block (w.heap.size + 1) (by simp)).trans (heap_alloc2_new _ _ _)
  obtain ⟨c0, f0, z0⟩ := blk_cells h0
  obtain ⟨c1, f1, z1⟩ := blk_cells h1
  have hown' := Own.lower (B := w.heap.size) hown (by simp; omega)
  have hne : ∀ b, v.ownBlock = some b → w.heap.size + 2 ≤ b := fun b h => by have := (hown.lt h).1; simpa using this
  have hbel' : Below w.heap.size w w1 := below_then hW (by simp; omega) hbel
  have HO := Lib.hid (And.intro hown' (And.intro hne hbel'))
  obtain ⟨A, c, hv⟩ := hown'.shape
  clear hown hown' hne hbel' hbel hW h0 h1
  subst hv
  go_wp2
  refine bodyPost_ret (v := .agg #[.int .i64 p.num, .int .i64 p.day, .string p.loan, .slice A xs.length c]) (by simp [results, Try.results16, go_sem, c1]) rfl ?_
  obtain ⟨ho, hne, hb1⟩ := HO.out
  have hm : ∀ W, Mods (fun k => k = w.heap.size ∨ k = w.heap.size + 1) w1 W → Own W w.heap.size 41 2 Ln.enc (.slice A xs.length c) xs ∧ Below w.heap.size w W := fun W hW =>
    ⟨ho.mods hW fun b hb => by have := hne b hb; omega, hb1.trans (hW.below (by omega) fun i hi => by omega)⟩
  refine ⟨_, rfl, hm _ ?_⟩
  repeat (first | exact Mods.refl _ _ | refine Mods.set ?_ (fun _ => by simp) _)

theorem cells4 {w : World} {A : Option Addr} {xs : List Pv} (h : 0 < xs.length → ∃ b off, A = some ⟨b, off, none⟩ ∧ ∀ j (h : j < xs.length) k u, (Pv.enc xs[j])[k]? = some u → w.cell? ⟨b, off + j * 4 + k, none⟩ = some u)
    (k : Nat) (hk : k < xs.length) : ∃ b off, A = some ⟨b, off, none⟩ ∧ b < w.heap.size ∧ w.cell? ⟨b, off + k * 4, none⟩ = some (.int .i64 xs[k].num) ∧ w.cell? ⟨b, off + k * 4 + 1, none⟩ = some (.int .i64 xs[k].day) ∧
      w.cell? ⟨b, off + k * 4 + 2, none⟩ = some (.string xs[k].loan) ∧ w.cell? ⟨b, off + k * 4 + 3, none⟩ = some xs[k].lines := by
  obtain ⟨b, off, e, hc⟩ := h (by omega)
  have h0 := hc k hk 0 _ rfl
  exact ⟨b, off, e, cell_lt h0, h0, hc k hk 1 _ rfl, hc k hk 2 _ rfl, hc k hk 3 _ rfl⟩
/-- Is a posting's day among those asked for? -/
def inB (a z d : Int) : Bool := decide (a ≤ d) && decide (d ≤ z)

theorem filter_snoc {α : Type} (p : α → Bool) (l : List α) (k : Nat) (h : k < l.length) : (l.take (k + 1)).filter p = (l.take k).filter p ++ if p l[k] then [l[k]] else [] := by
  rw [take_snoc l k h, List.filter_append]
  congr 1
  simp [List.filter_cons]
theorem filter_len {α : Type} (p : α → Bool) (l : List α) (k : Nat) : ((l.take k).filter p).length ≤ k := Nat.le_trans (List.length_filter_le _ _) (List.length_take_le _ _)

set_option maxHeartbeats 400000 in
theorem postings_any (v : Value) (ps : List Pv) (from_ to_ : Int) (w : World) (hv : Sl w 4 Pv.enc v ps) (hone : ∀ p ∈ ps, p.lines.oneCell' = true) (hb : ps.length * 56 ≤ 140737488355328) :
    Calls Try.prog 21 #[v, .int .i64 from_, .int .i64 to_] w fun e w' =>
      ∃ u, e = .returned u ∧ Own w' w.heap.size 34 4 Pv.enc u (ps.filter fun p => inB from_ to_ p.day) ∧ Below w.heap.size w w' := by
  obtain ⟨A, c, rfl, hl, _, hc⟩ := hv
  have HC := Lib.hid hc
  have HONE := Lib.hid hone
  clear hc hone
  go_enter Try.func21, Try.ntmps21
  go_wp2
  go_loopw [7, 8, 11] (fun out i j wr => ∃ k : Nat, k ≤ ps.length ∧ j = .int .i64 k ∧ Hid (Own wr w.heap.size 34 4 Pv.enc out ((ps.take k).filter fun p => inB from_ to_ p.day)) ∧ Below w.heap.size w wr) (fun _ _ j _ => ps.length - (intOf j).toNat)
  case atStart => exact ⟨0, by omega, rfl, Lib.hid (by simpa using Own.nil _ _ _ _ _), Below.refl _ _⟩
  case round =>
    obtain ⟨k, hk, rfl, HO, hbel⟩ := hrel
    by_cases hlt : k < ps.length
    · obtain ⟨b, off, rfl, hbl, h0, h1, h2, h3⟩ := cells4 HC.out k hlt
      have g0 := (hbel.cell (p := ⟨b, off + k * 4, none⟩) hbl).trans h0
      have g1 := (hbel.cell (p := ⟨b, off + k * 4 + 1, none⟩) hbl).trans h1
      have g2 := (hbel.cell (p := ⟨b, off + k * 4 + 2, none⟩) hbl).trans h2
      have g3 := (hbel.cell (p := ⟨b, off + k * 4 + 3, none⟩) hbl).trans h3
      clear h0 h1 h2 h3
      have hone := HONE.out _ (List.getElem_mem hlt)
      have hfl := filter_len (fun p => inB from_ to_ p.day) ps k
      have hsn := filter_snoc (fun p => inB from_ to_ p.day) ps k hlt
      have HSN := Lib.hid hsn
      clear hsn
      go_wp2_with (at_builtin; go_must (refine wpl_app1 (w0 := w) w.heap.size rfl (.tmp 30) (.tmp 35) _ _ _ 4 56 rfl Try.underlying42 infoPv rfl (by decide) (by decide) Pv.enc Pv.enc_len _ _ ps[k] _ rfl rfl rfl (Pv.one _ hone) HO.out hbel hbel.size ?hl ?_; (case hl => omega); intro v1 w1 hown1 hbel1 _ _; have HO1 := Lib.hid hown1; clear hown1))
      · have i1 : from_ ≤ ps[k].day := by assumption
        have i2 : ps[k].day ≤ to_ := by assumption
        refine ⟨⟨k + 1, by omega, by go_num, Lib.hid ?_, hbel1⟩, by simp [intOf]; omega⟩
        rw [HSN.out, if_pos (by simp [inB, i1, i2])]
        exact HO1.out
      all_goals
        refine ⟨⟨k + 1, by omega, by go_num, Lib.hid ?_, hbel⟩, by simp [intOf]; omega⟩
        rw [HSN.out, if_neg (by simp [inB]; omega), List.append_nil]
        exact HO.out
    · go_wp2_with fail
      go_ret
      have h := HO.out
      rw [List.take_of_length_le (by omega)] at h
      exact ⟨_, rfl, h, hbel⟩

end Go.Proofs.Ytegmobdpbaeijaa
