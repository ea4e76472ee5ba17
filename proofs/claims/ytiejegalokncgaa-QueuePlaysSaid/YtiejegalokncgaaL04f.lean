/- The document's queue: a list in memory; find, Key.
Conditions: none. -/
import Derived.Test.YtiejegalokncgaaL04d
namespace Go.Proofs.Ytiejegalokncgaa
open Go.RowKit Go.Proofs.YtiejegalokncgaaW.PrintWords Go.Proofs.YtiejegalokncgaaW.PrintLast Go.Proofs.YtiejegalokncgaaW.PrintMore
set_option linter.unusedVariables false
set_option linter.unusedSimpArgs false
/-- The document's queue in block rb: its list is m. -/
structure ROk (W : World) (rb : Nat) (gb : Option Nat) (c : Nat) (m : List QE) : Prop where
  box : W.heap[rb]? = some (.cells #[.slice (qA gb) m.length c] 37 (0, 0))
  row : W.ownsRow 0 57 2 (.slice (qA gb) m.length c) m.length (cellsQ m)
  len : m.length ≤ 4096
def RS (rb : Nat) (gb : Option Nat) (k : Nat) : Prop := k = rb ∨ some k = gb
/-- The place of an item, from i on. -/
def rfind (x : Int) : List QE → Nat → Int
  | [], _ => -1
  | e :: l, i => if e.Item = x then (i : Int) else rfind x l (i + 1)
theorem rfind_at (x : Int) : ∀ (l : List QE) (i : Nat), (findQ l x = none ∧ rfind x l i = -1) ∨ ∃ k, k < l.length ∧ rfind x l i = ((i + k : Nat) : Int) ∧ findQ l x = some (atE l k) ∧ (atE l k).Item = x
  | [], i => .inl ⟨rfl, rfl⟩
  | e :: l, i => by
    by_cases h : e.Item = x
    · right
      exact ⟨0, by simp, by simp [rfind, h], by simp [findQ, h, atE], by simpa [atE] using h⟩
    · rcases rfind_at x l (i + 1) with ⟨h1, h2⟩ | ⟨k, h1, h2, h3, h4⟩
      · left
        exact ⟨by simpa [findQ, h] using h1, by simpa [rfind, h] using h2⟩
      · right
        refine ⟨k + 1, by simpa using h1, ?_, ?_, by simpa [atE] using h4⟩
        · rw [rfind, if_neg h, h2]; omega
        · have : atE (e :: l) (k + 1) = atE l k := by simp [atE]
          rw [this]
          simpa [findQ, h] using h3
section
variable {W : World} {rb c : Nat} {gb : Option Nat} {m : List QE}
theorem ROk.cell0 (h : ROk W rb gb c m) : W.cell? ⟨rb, 0, none⟩ = some (.slice (qA gb) m.length c) := blk_cell h.box 0
theorem ROk.row' (h : ROk W rb gb c m) (hl : 0 < m.length) : ∃ g, gb = some g ∧ g ≠ rb ∧ g < W.heap.size ∧ m.length ≤ c ∧ W.ownsRow 0 57 2 (.slice (some ⟨g, 0, none⟩) m.length c) m.length (cellsQ m) := by
  rcases h.row.2 with ⟨_, h2⟩ | ⟨g, cap, cur, h2, h3, h4, h5, h6⟩
  · omega
  · cases gb with
    | none => simp [qA] at h2
    | some g' =>
      have h2' := h2
      simp [qA] at h2'
      obtain ⟨rfl, rfl⟩ := h2'
      exact ⟨g', rfl, (blk_ne h.box h4 (by decide)).symm, blk_lt h4, h5, h.row⟩
theorem ROk.at_ (h : ROk W rb gb c m) (k : Nat) (hk : k < m.length) : ∃ g, gb = some g ∧ g < W.heap.size ∧ W.cell? ⟨g, k * 2, none⟩ = some (.int .i64 (atE m k).Item) ∧ W.cell? ⟨g, k * 2 + 1, none⟩ = some (.int .i64 (atE m k).Key) := by
  obtain ⟨g, rfl, n1, n2, n3, hr⟩ := h.row' (by omega)
  have h2 := cellsQ_get m k hk
  exact ⟨g, rfl, n2, by rw [hr.cellAt _ (by omega), ← h2.1], by rw [hr.cellAt _ (by omega), ← h2.2]⟩
theorem rFind_any (h : ROk W rb gb c m) (x : Int) : Calls Try.prog 24 #[qP rb, .int .i64 x] W fun e w' => e = .returned (.int .i64 (rfind x m 0)) ∧ w' = W := by
  have HR := Aside0.mk h
  have h0 := h.cell0
  have hln := h.len
  clear h
  go_enter Try.func24, Try.ntmps24
  go_wp2
  go_loopw [5] (fun vi wr => ∃ i : Nat, i ≤ m.length ∧ vi = .int .i64 i ∧ Aside0 (rfind x m 0 = rfind x (m.drop i) i) ∧ wr = W) (fun vi _ => m.length - (intOf vi).toNat)
  case atStart => exact ⟨0, Nat.zero_le _, rfl, ⟨rfl⟩, rfl⟩
  case round =>
    obtain ⟨i, hi, rfl, HF, rfl⟩ := hrel
    by_cases hlt : i < m.length
    · have d1 : decide ((i : Int) < (m.length : Int)) = true := decide_eq_true (by omega)
      obtain ⟨g, rfl, hg, x0, x1⟩ := HR.out.at_ i hlt
      have i0 : (0 : Int) ≤ i := by omega
      have i1 : (i : Int) < m.length := by omega
      have hf := HF.out
      rw [List.drop_eq_getElem_cons hlt, rfind, ← atE_get hlt] at hf
      by_cases he : (atE m i).Item = x
      · have d2 : ((atE m i).Item == x) = true := by simp [he]
        rw [if_pos he] at hf
        have HF2 := Aside0.mk hf
        clear hf he HF
        go_wp2
        go_ret
        exact ⟨by rw [HF2.out]; rfl, rfl⟩
      · have d2 : ((atE m i).Item == x) = false := by simp [he]
        rw [if_neg he] at hf
        have HF2 := Aside0.mk hf
        clear hf he HF
        go_wp2
        go_roundw
        case rel => exact ⟨i + 1, by omega, by go_num, HF2, by trivial⟩
        case measure => simp [intOf]; omega
    · have d1 : decide ((i : Int) < (m.length : Int)) = false := decide_eq_false (by omega)
      have hf := HF.out
      rw [List.drop_of_length_le (by omega)] at hf
      have HF2 := Aside0.mk hf
      clear hf HF
      go_wp2
      go_ret
      exact ⟨by rw [HF2.out]; rfl, rfl⟩
theorem rKey_any (h : ROk W rb gb c m) (x : Int) : Calls Try.prog 17 #[qP rb, .int .i64 x] W
    fun e w' => e = .returned (.tuple #[.int .i64 (match findQ m x with | some a => a.Key | none => 0), .bool (findQ m x).isSome]) ∧ w' = W := by
  have HF := Aside0.mk (rFind_any h x)
  rcases rfind_at x m 0 with ⟨h1, h2⟩ | ⟨k, h1, h2, h3, h4⟩
  · rw [h1]
    rw [h2] at HF
    clear h h1 h2
    go_enter Try.func17, Try.ntmps17
    go_wp2_with (go_at_call 24; refine HF.out.mono ?_; rintro e w1 ⟨rfl, hw⟩; subst hw)
    exact bodyPost_ret (v := .tuple #[.int .i64 0, .bool false]) (by simp [results, Try.results17, go_sem, *]) rfl ⟨rfl, rfl⟩
  · rw [h3]
    rw [h2, Nat.zero_add] at HF
    have h0 := h.cell0
    obtain ⟨g, rfl, hg, x0, x1⟩ := h.at_ k h1
    have i0 : (0 : Int) ≤ k := by omega
    have i1 : (k : Int) < m.length := by omega
    have d1 : decide ((k : Int) < 0) = false := decide_eq_false (by omega)
    clear h h1 h2 h3 h4
    go_enter Try.func17, Try.ntmps17
    go_wp2_with (go_at_call 24; refine HF.out.mono ?_; rintro e w1 ⟨rfl, hw⟩; subst hw)
    exact bodyPost_ret (v := .tuple #[.int .i64 (atE m k).Key, .bool true]) (by simp [results, Try.results17, go_sem, *]) rfl ⟨rfl, rfl⟩
end
end Go.Proofs.Ytiejegalokncgaa
