/- Contract: breaks set in among visits. The document's Set.
Conditions: at most 200 visits, at most two breaks. -/
import Derived.Test.YtemjpgmfignhnaaM7
import Derived.Test.YtemjpgmfignhnaaM8
import Derived.Test.YtemjpgmfignhnaaM9
import Derived.Test.YtemjpgmfignhnaaM6
import Derived.Test.YtemjpgmfignhnaaM0
import Derived.Test.YtemjpgmfignhnaaM4
import Derived.Carry
import Derived.Test.YtemjpgmfignhnaaM10
namespace Go.Proofs.Ytemjpgmfignhnaa
open Go.RowKit Go.Proofs.YtemjpgmfignhnaaW.PrintWords Go.Proofs.YtemjpgmfignhnaaW.PrintLast Go.Proofs.YtemjpgmfignhnaaW.PrintMore
set_option linter.unusedVariables false
set_option linter.unusedSimpArgs false
attribute [local go_sem] cell_growBy Option.some_or
theorem kVisit_mkM (w : World) (base : Nat) (ok : Nat → Prop) (x : TVisit) : kVisit.M w base ok x [.int .i64 x.Kind, .int .i64 x.Item] := ⟨[.int .i64 x.Kind], _, rfl, rfl, rfl⟩
set_option maxHeartbeats 8000000 in
set_option maxRecDepth 100000 in
theorem refSet_any (l : List TVisit) (at_ : List Int) (A B : Option Addr) (c cB : Nat) (w : World) (hr : Kd.C kVisit w A l.length l) (hr' : Kd.C (Kd.int .i64) w B at_.length at_) (hl : l.length ≤ 200) (ha : at_.length ≤ 2) :
  Calls Try.prog 59 #[.slice A l.length c, .slice B at_.length cB] w (ListPost kVisit (setS l at_) w) := by
 have HA := Aside0.mk hr
 have HB := Aside0.mk hr'
 have hsz : ∀ k, k ≤ l.length → (setTo l at_ k).length ≤ 600 := fun k hk => by
  have h1 := setTo_len l at_ k
  have h2 : k * (at_.length + 1) ≤ 200 * 3 := Nat.mul_le_mul (by omega) (by omega)
  omega
 have HSZ := Aside0.mk hsz
 clear hr hr' hsz
 go_enter Try.func59, Try.ntmps59
 go_wp2
 go_loopw [5, 6] (fun v i wr => ∃ k : Nat, k ≤ l.length + 1 ∧ i = .int .i64 k ∧ Aside0 (kVisit.R 57 wr w.heap.size (fun _ => True) v (setTo l at_ k)) ∧ Aside0 (Below w.heap.size w wr)) (fun _ i _ => l.length + 1 - (intOf i).toNat)
 case atStart => exact ⟨0, Nat.zero_le _, rfl, ⟨Kd.R_nil _ _ _ _ _⟩, ⟨Below.refl _ _⟩⟩
 case round =>
  obtain ⟨k, hk, rfl, HR, HW⟩ := hrel
  by_cases hlt : k ≤ l.length
  ·have hs := HSZ.out k hlt
   obtain ⟨wb, rfl⟩ : ∃ wb : World, wb = wr := ⟨_, rfl⟩
   have HRa := HR
   have HWa := HW
   clear HR HW
   go_wp2
   go_loopw [5, 7] (fun v kk wr => ∃ j : Nat, j ≤ at_.length ∧ kk = .int .i64 j ∧ Aside0 (kVisit.R 57 wr w.heap.size (fun _ => True) v (setTo l at_ k ++ brkS at_ k j)) ∧ Aside0 (Below w.heap.size w wr)) (fun _ kk _ => at_.length - (intOf kk).toNat)
   case atStart => exact ⟨0, Nat.zero_le _, rfl, ⟨by simpa [brkS] using HRa.out⟩, HWa⟩
   case round =>
    clear HRa HWa
    obtain ⟨j, hj, rfl, HR, HW⟩ := hrel
    have hbl := brkS_len at_ k j
    have hlen : (setTo l at_ k ++ brkS at_ k j).length ≤ 602 := by rw [List.length_append]; omega
    by_cases hjl : j < at_.length
    ·obtain ⟨ad, ea, x0⟩ := Kd.at_int (Kd.C_below HB.out HW.out) (j : Int) (by omega) (by omega)
     subst ea
     simp only [Int.toNat_natCast] at x0
     have r0 : (0 : Int) ≤ (j : Int) := by omega
     have r1 : (j : Int) < (at_.length : Int) := by omega
     by_cases he : rd at_ j = k
     ·have d1 : (rd at_ (j : Int) == (k : Int)) = true := by simp [he]
      have en : brkS at_ k (j + 1) = brkS at_ k j ++ [⟨4, j⟩] := by simp [brkS, he]
      have EN := Aside0.mk en
      clear en he
      go_wp2_with (at_builtin; refine Kd.R_append kVisit (w0 := w) w.heap.size rfl (.tmp 26) (.tmp 29) 63 57 (.agg #[.int .i64 0, .int .i64 0]) 16 rfl Try.underlying63 infoVisit rfl (by decide) (by omega) u5 (setTo l at_ k ++ brkS at_ k j) ⟨4, (j : Int)⟩ _ (fun _ => True) (fun _ => False) rfl rfl (kVisit_mkM _ _ _ _) (fun _ h => h.elim) (fun _ _ => trivial) HR.out HW.out (by have := HW.out.size; omega) (by omega) ?_; intro v1 w1 ho hb hg hat; have HO := Aside0.mk ho; have HBN := Aside0.mk hb; clear ho hb hg hat)
      go_roundw
      case rel => exact ⟨j + 1, by omega, by go_num, ⟨by rw [EN.out, ← List.append_assoc]; exact HO.out⟩, HBN⟩
      case measure => simp [intOf]; omega
     ·have d1 : (rd at_ (j : Int) == (k : Int)) = false := by simp [he]
      have en : brkS at_ k (j + 1) = brkS at_ k j := by simp [brkS, he]
      have EN := Aside0.mk en
      clear en he
      go_wp2
      go_roundw
      case rel => exact ⟨j + 1, by omega, by go_num, ⟨by rw [EN.out]; exact HR.out⟩, HW⟩
      case measure => simp [intOf]; omega
    ·obtain rfl : j = at_.length := by omega
     by_cases hkl : k < l.length
     ·obtain ⟨ad, ea, x0, x1⟩ := atNVisit (Kd.C_below HA.out HW.out) k hkl
      subst ea
      have r0 : (0 : Int) ≤ (k : Int) := by omega
      have r1 : (k : Int) < (l.length : Int) := by omega
      have en : setTo l at_ (k + 1) = setTo l at_ k ++ brkS at_ k at_.length ++ [l[k]] := by simp [setTo, hkl, rdVisit_nat l k hkl]
      have EN := Aside0.mk en
      clear en
      generalize hx : l[k] = x at *
      go_wp2_with (at_builtin; refine Kd.R_append kVisit (w0 := w) w.heap.size rfl (.tmp 35) (.tmp 40) 63 57 (.agg #[.int .i64 0, .int .i64 0]) 16 rfl Try.underlying63 infoVisit rfl (by decide) (by omega) u5 (setTo l at_ k ++ brkS at_ k at_.length) x _ (fun _ => True) (fun _ => False) rfl rfl (kVisit_mkM _ _ _ _) (fun _ h => h.elim) (fun _ _ => trivial) HR.out HW.out (by have := HW.out.size; omega) (by omega) ?_; intro v1 w1 ho hb hg hat; have HO := Aside0.mk ho; have HBN := Aside0.mk hb; clear ho hb hg hat)
      go_roundw
      case rel => exact ⟨k + 1, by omega, by go_num, ⟨by rw [EN.out]; exact HO.out⟩, HBN⟩
      case measure => simp [intOf]; omega
     ·have en : setTo l at_ (k + 1) = setTo l at_ k ++ brkS at_ k at_.length := by simp [setTo, hkl]
      have EN := Aside0.mk en
      clear en
      go_wp2
      go_roundw
      case rel => exact ⟨k + 1, by omega, by go_num, ⟨by rw [EN.out]; exact HR.out⟩, HW⟩
      case measure => simp [intOf]; omega
  ·obtain rfl : k = l.length + 1 := by omega
   obtain ⟨A', c', rfl, hle, hC⟩ := Kd.R_reads HR.out
   have HC := Aside0.mk hC
   have HS : Aside0 (setTo l at_ (l.length + 1) = setS l at_) := ⟨rfl⟩
   clear hC
   go_wp2
   go_ret
   exact ⟨A', c', rfl, hle, HC.out, HW.out⟩
end Go.Proofs.Ytemjpgmfignhnaa
/- Contract: breaks set in among visits. The program's Set.
Conditions: at most 200 visits and 200 breaks. -/
namespace Go.Proofs.Ytemjpgmfignhnaa
open Go.RowKit Go.Proofs.YtemjpgmfignhnaaW.PrintWords Go.Proofs.YtemjpgmfignhnaaW.PrintLast Go.Proofs.YtemjpgmfignhnaaW.PrintMore
set_option linter.unusedVariables false
set_option linter.unusedSimpArgs false
attribute [local go_sem] cell_growBy Option.some_or
/-- The breaks that stand at i, from the k-th on. -/
def brkTake (i : Int) : List Int → Int → List TVisit
 | [], _ => []
 | a :: r, k => if a ≤ i then ⟨4, k⟩ :: brkTake i r (k + 1) else []
def brkDrop (i : Int) : List Int → List Int
 | [] => []
 | a :: r => if a ≤ i then brkDrop i r else a :: r
/-- The program's Set, from the i-th visit and the k-th break on. -/
def setP : List TVisit → List Int → Int → Int → List TVisit
 | [], bs, i, k => brkTake i bs k
 | x :: l, bs, i, k => brkTake i bs k ++ x :: setP l (brkDrop i bs) (i + 1) (k + (brkTake i bs k).length)
theorem setP_brk (l : List TVisit) (a : Int) (r : List Int) (i k : Int) (h : a ≤ i) : setP l (a :: r) i k = ⟨4, k⟩ :: setP l r i (k + 1) := by
 cases l with
 | nil => rw [setP, setP, brkTake, if_pos h]
 | cons x l =>
  rw [setP, setP, brkTake, if_pos h, brkDrop, if_pos h, List.length_cons, List.cons_append]
  congr 4
  omega
theorem brk_none {i : Int} {bs : List Int} (h : ∀ a r, bs = a :: r → i < a) (k : Int) : brkTake i bs k = [] ∧ brkDrop i bs = bs := by
 cases bs with
 | nil => exact ⟨rfl, rfl⟩
 | cons a r =>
  have := h a r rfl
  rw [brkTake, if_neg (by omega), brkDrop, if_neg (by omega)]
  exact ⟨rfl, rfl⟩
theorem setP_visit (x : TVisit) (l : List TVisit) (bs : List Int) (i k : Int) (h : ∀ a r, bs = a :: r → i < a) : setP (x :: l) bs i k = x :: setP l bs (i + 1) k := by
 obtain ⟨h1, h2⟩ := brk_none h k
 rw [setP, h1, h2, List.nil_append, List.length_nil]
 congr 2
 omega
theorem setP_end (bs : List Int) (i k : Int) (h : ∀ a r, bs = a :: r → i < a) : setP [] bs i k = [] := (brk_none h k).1
theorem setP_len : ∀ (l : List TVisit) (bs : List Int) (i k : Int), (setP l bs i k).length ≤ l.length + bs.length := by
 have hb : ∀ (i : Int) (bs : List Int) (k : Int), (brkTake i bs k).length + (brkDrop i bs).length ≤ bs.length := by
  intro i bs
  induction bs with
  | nil => intro k; simp [brkTake, brkDrop]
  | cons a r ih =>
   intro k
   rw [brkTake, brkDrop]
   split
   ·have := ih (k + 1)
    simp only [List.length_cons]
    omega
   ·simp
 intro l
 induction l with
 | nil =>
  intro bs i k
  have := hb i bs k
  rw [setP]
  simp only [List.length_nil]
  omega
 | cons x l ih =>
  intro bs i k
  have := hb i bs k
  have := ih (brkDrop i bs) (i + 1) (k + (brkTake i bs k).length)
  rw [setP, List.length_append, List.length_cons, List.length_cons]
  omega
set_option maxHeartbeats 8000000 in
set_option maxRecDepth 100000 in
theorem planSet_any (l : List TVisit) (at_ : List Int) (A B : Option Addr) (c cB : Nat) (w : World) (hr : Kd.C kVisit w A l.length l) (hr' : Kd.C (Kd.int .i64) w B at_.length at_) (hl : l.length ≤ 200) (ha : at_.length ≤ 200) :
  Calls Try.prog 58 #[.slice A l.length c, .slice B at_.length cB] w (ListPost kVisit (setP l at_ 0 0) w) := by
 have HA := Aside0.mk hr
 have HB := Aside0.mk hr'
 have hfl := setP_len l at_ 0 0
 have HE0 : Aside0 ([] ++ setP (l.drop 0) (at_.drop 0) ((0 : Nat) : Int) ((0 : Nat) : Int) = setP l at_ 0 0) := ⟨rfl⟩
 generalize setP l at_ 0 0 = FF at *
 have HFL := Aside0.mk (show FF.length ≤ 400 by omega)
 clear hr hr' hfl
 go_enter Try.func58, Try.ntmps58
 go_wp2
 go_loopw [5, 6, 7] (fun v kk ii wr => ∃ (i k : Nat) (out : List TVisit), i ≤ l.length + 1 ∧ k ≤ at_.length ∧ ii = .int .i64 i ∧ kk = .int .i64 k ∧ Aside0 (if i ≤ l.length then out ++ setP (l.drop i) (at_.drop k) (i : Int) (k : Int) = FF else out = FF) ∧ Aside0 (kVisit.R 57 wr w.heap.size (fun _ => True) v out) ∧ Aside0 (Below w.heap.size w wr)) (fun _ _ ii _ => l.length + 1 - (intOf ii).toNat)
 case atStart => exact ⟨0, 0, [], Nat.zero_le _, Nat.zero_le _, rfl, rfl, ⟨by rw [if_pos (Nat.zero_le _)]; exact HE0.out⟩, ⟨Kd.R_nil _ _ _ _ _⟩, ⟨Below.refl _ _⟩⟩
 case round =>
  clear HE0
  obtain ⟨i, k, out, hi, hk, rfl, rfl, HE, HO, HW⟩ := hrel
  by_cases hil : i ≤ l.length
  ·have hE := HE.out
   rw [if_pos hil] at hE
   have HEa := Aside0.mk hE
   have d0 : decide ((i : Int) ≤ (l.length : Int)) = true := decide_eq_true (by omega)
   obtain ⟨wb, rfl⟩ : ∃ wb : World, wb = wr := ⟨_, rfl⟩
   have HOa := HO
   have HWa := HW
   clear HO HW HE hE
   go_wp2
   go_loopw [5, 6] (fun v kk wr => ∃ (k : Nat) (out : List TVisit), k ≤ at_.length ∧ kk = .int .i64 k ∧ Aside0 (out ++ setP (l.drop i) (at_.drop k) (i : Int) (k : Int) = FF) ∧ Aside0 (kVisit.R 57 wr w.heap.size (fun _ => True) v out) ∧ Aside0 (Below w.heap.size w wr)) (fun _ kk _ => at_.length - (intOf kk).toNat)
   case atStart => exact ⟨k, out, hk, rfl, HEa, HOa, HWa⟩
   case round =>
    clear HEa HOa HWa
    obtain ⟨k, out, hk, rfl, HE, HO, HW⟩ := hrel
    have HLN : Aside0 (out.length ≤ 400) := ⟨by have h := congrArg List.length HE.out; rw [List.length_append] at h; have := HFL.out; omega⟩
    by_cases hc : ∃ h : k < at_.length, at_[k] ≤ (i : Int)
    ·obtain ⟨hkl, hle⟩ := hc
     obtain ⟨bd, eb, y0⟩ := Kd.at_int (Kd.C_below HB.out HW.out) (k : Int) (by omega) (by omega)
     subst eb
     rw [rd_nat at_ k hkl] at y0
     simp only [Int.toNat_natCast] at y0
     have hE := HE.out
     rw [List.drop_eq_getElem_cons hkl, setP_brk _ _ _ _ _ hle] at hE
     have d1 : decide (at_[k] ≤ (i : Int)) = true := decide_eq_true hle
     have d2 : decide ((k : Int) < (at_.length : Int)) = true := decide_eq_true (by omega)
     have r0 : (0 : Int) ≤ (k : Int) := by omega
     have r1 : (k : Int) < (at_.length : Int) := by omega
     have HN := Aside0.mk hE
     clear hE hle HE
     go_wp2_with (at_builtin; refine Kd.R_append kVisit (w0 := w) w.heap.size rfl (.tmp 26) (.tmp 29) 63 57 (.agg #[.int .i64 0, .int .i64 0]) 16 rfl Try.underlying63 infoVisit rfl (by decide) (by omega) u5 out ⟨4, (k : Int)⟩ _ (fun _ => True) (fun _ => False) rfl rfl (kVisit_mkM _ _ _ _) (fun _ h => h.elim) (fun _ _ => trivial) HO.out HW.out (by have := HW.out.size; omega) (by have := HLN.out; omega) ?_; intro v1 w1 ho hb hg hat; have HO2 := Aside0.mk ho; have HBN := Aside0.mk hb; clear ho hb hg hat)
     go_roundw
     case rel => exact ⟨k + 1, out ++ [⟨4, (k : Int)⟩], by omega, by go_num, ⟨by rw [List.append_assoc]; exact HN.out⟩, HO2, HBN⟩
     case measure => simp [intOf]; omega
    ·have hno : ∀ a r, at_.drop k = a :: r → (i : Int) < a := by
      intro a r e
      have hkl : k < at_.length := by
       rcases Nat.lt_or_ge k at_.length with h | h
       ·exact h
       ·rw [List.drop_of_length_le h] at e; cases e
      rw [List.drop_eq_getElem_cons hkl] at e
      obtain ⟨rfl, _⟩ := List.cons.inj e
      exact Int.not_le.1 (fun h => hc ⟨hkl, h⟩)
     have HNO := Aside0.mk hno
     clear hno
     by_cases hlt : i < l.length
     ·obtain ⟨ad, ea, x0, x1⟩ := atNVisit (Kd.C_below HA.out HW.out) i hlt
      subst ea
      have r0 : (0 : Int) ≤ (i : Int) := by omega
      have r1 : (i : Int) < (l.length : Int) := by omega
      have hE := HE.out
      rw [List.drop_eq_getElem_cons hlt, setP_visit _ _ _ _ _ HNO.out] at hE
      have HN := Aside0.mk hE
      generalize hx : l[i] = x at *
      clear hE HE
      by_cases hkl : k < at_.length
      ·obtain ⟨bd, eb, y0⟩ := Kd.at_int (Kd.C_below HB.out HW.out) (k : Int) (by omega) (by omega)
       subst eb
       rw [rd_nat at_ k hkl] at y0
       simp only [Int.toNat_natCast] at y0
       have d1 : decide (at_[k] ≤ (i : Int)) = false := decide_eq_false (fun h => hc ⟨hkl, h⟩)
       have d2 : decide ((k : Int) < (at_.length : Int)) = true := decide_eq_true (by omega)
       have q0 : (0 : Int) ≤ (k : Int) := by omega
       have q1 : (k : Int) < (at_.length : Int) := by omega
       clear hc hx
       go_wp2_with (at_builtin; refine Kd.R_append kVisit (w0 := w) w.heap.size rfl (.tmp 37) (.tmp 42) 63 57 (.agg #[.int .i64 0, .int .i64 0]) 16 rfl Try.underlying63 infoVisit rfl (by decide) (by omega) u5 out x _ (fun _ => True) (fun _ => False) rfl rfl (kVisit_mkM _ _ _ _) (fun _ h => h.elim) (fun _ _ => trivial) HO.out HW.out (by have := HW.out.size; omega) (by have := HLN.out; omega) ?_; intro v1 w1 ho hb hg hat; have HO2 := Aside0.mk ho; have HBN := Aside0.mk hb; clear ho hb hg hat)
       go_roundw
       case rel => exact ⟨i + 1, k, out ++ [x], by omega, hk, by go_num, rfl, ⟨by rw [if_pos (by omega), List.append_assoc]; exact HN.out⟩, HO2, HBN⟩
       case measure => simp [intOf]; omega
      ·obtain rfl : k = at_.length := by omega
       clear hc hx
       go_wp2_with (at_builtin; refine Kd.R_append kVisit (w0 := w) w.heap.size rfl (.tmp 37) (.tmp 42) 63 57 (.agg #[.int .i64 0, .int .i64 0]) 16 rfl Try.underlying63 infoVisit rfl (by decide) (by omega) u5 out x _ (fun _ => True) (fun _ => False) rfl rfl (kVisit_mkM _ _ _ _) (fun _ h => h.elim) (fun _ _ => trivial) HO.out HW.out (by have := HW.out.size; omega) (by have := HLN.out; omega) ?_; intro v1 w1 ho hb hg hat; have HO2 := Aside0.mk ho; have HBN := Aside0.mk hb; clear ho hb hg hat)
       go_roundw
       case rel => exact ⟨i + 1, at_.length, out ++ [x], by omega, hk, by go_num, rfl, ⟨by rw [if_pos (by omega), List.append_assoc]; exact HN.out⟩, HO2, HBN⟩
       case measure => simp [intOf]; omega
     ·obtain rfl : i = l.length := by omega
      have hE := HE.out
      rw [List.drop_of_length_le (Nat.le_refl _), setP_end _ _ _ HNO.out, List.append_nil] at hE
      have HN := Aside0.mk hE
      clear hE HE
      by_cases hkl : k < at_.length
      ·obtain ⟨bd, eb, y0⟩ := Kd.at_int (Kd.C_below HB.out HW.out) (k : Int) (by omega) (by omega)
       subst eb
       rw [rd_nat at_ k hkl] at y0
       simp only [Int.toNat_natCast] at y0
       have d1 : decide (at_[k] ≤ (l.length : Int)) = false := decide_eq_false (fun h => hc ⟨hkl, h⟩)
       have d2 : decide ((k : Int) < (at_.length : Int)) = true := decide_eq_true (by omega)
       have q0 : (0 : Int) ≤ (k : Int) := by omega
       have q1 : (k : Int) < (at_.length : Int) := by omega
       clear hc
       go_wp2
       go_roundw
       case rel => exact ⟨l.length + 1, k, out, by omega, hk, by go_num, rfl, ⟨by rw [if_neg (by omega)]; exact HN.out⟩, HO, HW⟩
       case measure => simp [intOf] <;> omega
      ·obtain rfl : k = at_.length := by omega
       clear hc
       go_wp2
       go_roundw
       case rel => exact ⟨l.length + 1, at_.length, out, by omega, hk, by go_num, rfl, ⟨by rw [if_neg (by omega)]; exact HN.out⟩, HO, HW⟩
       case measure => simp [intOf] <;> omega
  ·obtain rfl : i = l.length + 1 := by omega
   have hE := HE.out
   rw [if_neg (by omega)] at hE
   subst hE
   obtain ⟨A', c', rfl, hle, hC⟩ := Kd.R_reads HO.out
   have HC := Aside0.mk hC
   have d0 : decide (((l.length + 1 : Nat) : Int) ≤ (l.length : Int)) = false := decide_eq_false (by omega)
   clear hC HE
   go_wp2
   go_ret
   exact ⟨A', c', rfl, hle, HC.out, HW.out⟩
end Go.Proofs.Ytemjpgmfignhnaa

/- Contract: the next places of breaks. The program's later.
Conditions: at most 200 breaks, places from 0 to 1000000. -/
namespace Go.Proofs.Ytemjpgmfignhnaa
open Go.RowKit Go.Proofs.YtemjpgmfignhnaaW.PrintWords Go.Proofs.YtemjpgmfignhnaaW.PrintLast Go.Proofs.YtemjpgmfignhnaaW.PrintMore
set_option linter.unusedVariables false
set_option linter.unusedSimpArgs false
attribute [local go_sem] cell_growBy Option.some_or
/-- The last place that may still go on, below the i-th. -/
def laterI (most : Int) (a : List Int) : Nat → Option Nat
 | 0 => none
 | i + 1 => if rd a i < most then some i else laterI most a i
/-- The places behind one more step. -/
def laterL (a : List Int) (i k : Nat) : List Int := a.take i ++ List.replicate (k - i) (rd a i + 1) ++ a.drop k
def laterS (most : Int) (a : List Int) : Option Nat → List Int × Bool
 | none => (a, false)
 | some i => (laterL a i a.length, true)
theorem laterL_set (a : List Int) (i k : Nat) (hi : i ≤ k) (hk : k < a.length) : (laterL a i k).set k (rd a i + 1) = laterL a i (k + 1) := by
 unfold laterL
 rw [List.set_append_right _ _ (by rw [List.length_append, List.length_take, List.length_replicate]; omega)]
 rw [List.length_append, List.length_take, List.length_replicate, show k - (min i a.length + (k - i)) = 0 by omega, List.drop_eq_getElem_cons hk, List.set_cons_zero, show k + 1 - i = (k - i) + 1 by omega, List.replicate_succ']
 simp
theorem laterL_len (a : List Int) (i k : Nat) (hi : i ≤ k) (hk : k ≤ a.length) : (laterL a i k).length = a.length := by
 unfold laterL
 simp only [List.length_append, List.length_take, List.length_replicate, List.length_drop]
 omega
theorem laterL_at (a : List Int) (i k : Nat) (hi : i < k) (hk : k ≤ a.length) : rd (laterL a i k) (i : Int) = rd a i + 1 := by
 unfold laterL
 rw [rd, Int.toNat_natCast, List.getD_eq_getElem?_getD, List.append_assoc, List.getElem?_append_right (by rw [List.length_take]; omega), List.length_take, show i - min i a.length = 0 by omega, List.getElem?_append_left (by rw [List.length_replicate]; omega), List.getElem?_replicate, if_pos (by omega)]
 rfl
theorem laterL_one (a : List Int) (i : Nat) (hi : i < a.length) : a.set i (rd a i + 1) = laterL a i (i + 1) := by
 have h : laterL a i i = a := by unfold laterL; simp
 have := laterL_set a i i (Nat.le_refl _) hi
 rwa [h] at this
set_option maxHeartbeats 8000000 in
set_option maxRecDepth 100000 in
theorem planLater_any (a : List Int) (gN cN : Nat) (most : Int) (base : Nat) (ok : Nat → Prop) (w : World) (hr : (Kd.int .i64).R 3 w base ok (.slice (some ⟨gN, 0, none⟩) a.length cN) a) (hl : a.length ≤ 200) (ha : ∀ x ∈ a, 0 ≤ x ∧ x ≤ 1000000) (hg : base ≤ gN) (hb0 : base ≤ w.heap.size) :
  Calls Try.prog 103 #[.slice (some ⟨gN, 0, none⟩) a.length cN, .int .i64 most] w fun e w' =>
   e = .returned (.bool (laterS most a (laterI most a a.length)).2) ∧ (Kd.int .i64).R 3 w' base ok (.slice (some ⟨gN, 0, none⟩) a.length cN) (laterS most a (laterI most a a.length)).1 ∧ Below base w w' ∧ ((laterS most a (laterI most a a.length)).2 = false → w' = w) := by
 have HR := Aside0.mk hr
 have HA := Aside0.mk ha
 have hgl : gN < w.heap.size := own_lt (Kd.own_of_R hr) gN (by simp [Value.ownBlock])
 have HT0 : Aside0 (laterI most a a.length = laterI most a a.length) := ⟨rfl⟩
 generalize hres : laterI most a a.length = res at *
 have HT1 := Aside0.mk hres
 clear hr ha hres HT0
 have e0 : IntKind.i64.wrap ((a.length : Int) - 1) = (a.length : Int) - 1 := IntWalk.i64_in _ (by omega)
 go_enter Try.func103, Try.ntmps103
 go_wp2
 go_loopw [5] (fun vi wr => ∃ j : Nat, j ≤ a.length ∧ vi = .int .i64 ((j : Int) - 1) ∧ Aside0 (laterI most a j = res) ∧ Aside0 (wr = w)) (fun vi _ => ((intOf vi) + 1).toNat)
 case atStart => exact ⟨a.length, Nat.le_refl _, rfl, HT1, ⟨rfl⟩⟩
 case round =>
  clear HT1 e0
  obtain ⟨j, hj, rfl, HT, HW⟩ := hrel
  obtain rfl := HW.out
  cases j with
  | zero =>
   have h0 : none = res := HT.out
   subst h0
   go_wp2
   go_ret
   exact ⟨rfl, HR.out, Below.refl _ _, fun _ => rfl⟩
  | succ i =>
   have ej : ((i + 1 : Nat) : Int) - 1 = (i : Int) := by omega
   rw [ej]
   have hil : i < a.length := by omega
   have d0 : decide ((0 : Int) ≤ (i : Int)) = true := decide_eq_true (by omega)
   obtain ⟨x0, f0⟩ := Kd.R_celln 0 HR.out (i : Int) (by omega) (by omega)
   rw [show rdOf 0 a (i : Int) = rd a i from rfl] at x0
   simp only [Int.toNat_natCast] at x0 f0
   have hv := HA.out _ (List.getElem_mem hil)
   rw [← rd_nat a i hil] at hv
   have r0 : (0 : Int) ≤ (i : Int) := by omega
   have r1 : (i : Int) < (a.length : Int) := by omega
   have hT := HT.out
   rw [laterI] at hT
   clear HT ej HW
   by_cases hlt : rd a i < most
   ·rw [if_pos hlt] at hT
    subst hT
    have d1 : decide (rd a i < most) = true := decide_eq_true hlt
    have e1 : IntKind.i64.wrap (rd a i + 1) = rd a i + 1 := IntWalk.i64_in _ (by omega)
    have e2 : IntKind.i64.wrap ((i : Int) + 1) = ((i + 1 : Nat) : Int) := by rw [show ((i + 1 : Nat) : Int) = (i : Int) + 1 by omega]; exact IntWalk.i64_in _ (by omega)
    have HP : Aside0 ((Kd.int .i64).R 3 (wr.setCell ⟨gN, i, none⟩ (.int .i64 (rd a i + 1))) base ok (.slice (some ⟨gN, 0, none⟩) a.length cN) (laterL a i (i + 1))) := ⟨by
     have h := Kd.R_putn HR.out (i : Int) (rd a i + 1)
     rw [Int.toNat_natCast, laterL_one a i hil] at h
     exact h⟩
    obtain ⟨wo, rfl⟩ : ∃ wo : World, wo = wr := ⟨_, rfl⟩
    clear hlt
    go_wp2
    go_loopw [6] (fun vk ws => ∃ k : Nat, i + 1 ≤ k ∧ k ≤ a.length ∧ vk = .int .i64 k ∧ Aside0 ((Kd.int .i64).R 3 ws base ok (.slice (some ⟨gN, 0, none⟩) a.length cN) (laterL a i k)) ∧ Aside0 (Below base wo ws)) (fun vk _ => a.length - (intOf vk).toNat)
    case atStart => exact ⟨i + 1, Nat.le_refl _, by omega, rfl, HP, ⟨Below.setCell (show Below base wo wo from ⟨rfl, rfl, rfl, Nat.le_refl _, fun _ _ => rfl⟩) hg _⟩⟩
    case round =>
     clear HP x0 f0
     obtain ⟨k, hk0, hk1, rfl, HQ, HW⟩ := hrel
     have hll := laterL_len a i k (by omega) hk1
     obtain ⟨y0, g0⟩ := Kd.R_celln 0 HQ.out (i : Int) (by omega) (by omega)
     rw [show rdOf 0 (laterL a i k) (i : Int) = rd (laterL a i k) i from rfl, laterL_at a i k (by omega) hk1] at y0
     simp only [Int.toNat_natCast] at y0 g0
     by_cases hlt : k < a.length
     ·obtain ⟨y1, g1⟩ := Kd.R_celln 0 HQ.out (k : Int) (by omega) (by omega)
      simp only [Int.toNat_natCast] at y1 g1
      have d2 : decide ((k : Int) < (a.length : Int)) = true := decide_eq_true (by omega)
      have q0 : (0 : Int) ≤ (k : Int) := by omega
      have q1 : (k : Int) < (a.length : Int) := by omega
      have HP : Aside0 ((Kd.int .i64).R 3 (wr.setCell ⟨gN, k, none⟩ (.int .i64 (rd a i + 1))) base ok (.slice (some ⟨gN, 0, none⟩) a.length cN) (laterL a i (k + 1))) := ⟨by
       have h := Kd.R_putn HQ.out (k : Int) (rd a i + 1)
       rw [Int.toNat_natCast, laterL_set a i k (by omega) hlt] at h
       exact h⟩
      clear hll e1 e2
      go_wp2
      go_roundw
      case rel => exact ⟨k + 1, by omega, by omega, by go_num, HP, ⟨Below.setCell HW.out hg _⟩⟩
      case measure => simp [intOf] <;> omega
     ·obtain rfl : k = a.length := by omega
      clear hll
      go_wp2
      go_ret
      exact ⟨rfl, HQ.out, HW.out, fun h => by cases h⟩
   ·rw [if_neg hlt] at hT
    have d1 : decide (rd a i < most) = false := decide_eq_false hlt
    have HT := Aside0.mk hT
    clear hT hlt
    go_wp2
    go_roundw
    case rel => exact ⟨i, by omega, by go_num, HT, ⟨by first | rfl | trivial⟩⟩
    case measure => simp [intOf] <;> omega
end Go.Proofs.Ytemjpgmfignhnaa

/- The program's look at pairs and the document's are one, in plain words.
Conditions: none. -/
namespace Go.Proofs.Ytemjpgmfignhnaa
open Go.RowKit Go.Proofs.YtemjpgmfignhnaaW.PrintWords Go.Proofs.YtemjpgmfignhnaaW.PrintLast Go.Proofs.YtemjpgmfignhnaaW.PrintMore
set_option linter.unusedVariables false
set_option linter.unusedSimpArgs false
/-! ### the pairs: the program's way -/
def pairsP (p : TProblem) : List TVisit → List TVisit → Int → Bool
 | [], _, o => decide (o = 0)
 | x :: l, seen, o => if x.Kind = 4 then pairsP p l seen o else
  if (stopS p x).2 = false ∨ seen.any (eqVisit x) = true ∨ (x.Kind = 3 ∧ seen.any (eqVisit ⟨2, x.Item⟩) = false) then false else
  pairsP p l (seen ++ [x]) (if x.Kind = 2 then o + 1 else if x.Kind = 3 then o - 1 else o)
def nKind (c : Int) (l : List TVisit) : Int := ((l.filter (fun x => decide (x.Kind = c))).length : Int)
theorem nKind_cons (c : Int) (x : TVisit) (l : List TVisit) : nKind c (x :: l) = (if x.Kind = c then 1 else 0) + nKind c l := by
 unfold nKind
 rw [List.filter_cons]
 by_cases h : x.Kind = c
 ·simp [h]; omega
 ·simp [h]
theorem any_eqVisit {l : List TVisit} {x : TVisit} : l.any (eqVisit x) = true ↔ x ∈ l := by
 rw [List.any_eq_true]
 constructor
 ·rintro ⟨y, hy, h⟩
  rw [eqVisit_iff.1 h]
  exact hy
 ·exact fun h => ⟨x, h, eqVisit_iff.2 rfl⟩
theorem pairsP_iff (p : TProblem) : ∀ (l seen : List TVisit) (o : Int), (∀ y ∈ seen, y.Kind ≠ 4) → (pairsP p l seen o = true ↔
  (∀ k (h : k < l.length), l[k].Kind ≠ 4 → (stopS p l[k]).2 = true ∧ l[k] ∉ seen ++ l.take k ∧ (l[k].Kind = 3 → (⟨2, l[k].Item⟩ : TVisit) ∈ seen ++ l.take k)) ∧ o + nKind 2 l - nKind 3 l = 0)
 | [], seen, o, _ => by
  simp [pairsP, nKind]
 | x :: l, seen, o, hs => by
  unfold pairsP
  by_cases h4 : x.Kind = 4
  ·rw [if_pos h4, pairsP_iff p l seen o hs, nKind_cons, nKind_cons, if_neg (by omega), if_neg (by omega), Int.zero_add, Int.zero_add]
   refine and_congr ⟨fun h k hk hk4 => ?_, fun h k hk hk4 => ?_⟩ Iff.rfl
   ·cases k with
    | zero => exact absurd h4 hk4
    | succ k =>
     simp only [List.getElem_cons_succ, List.take_succ_cons] at hk4 ⊢
     obtain ⟨a, b, c⟩ := h k (by simpa using hk) hk4
     refine ⟨a, fun hm => ?_, fun h3 => ?_⟩
     ·rcases List.mem_append.1 hm with hm | hm
      ·exact b (List.mem_append_left _ hm)
      ·rcases List.mem_cons.1 hm with e | hm
       ·exact hk4 (e ▸ h4)
       ·exact b (List.mem_append_right _ hm)
     ·rcases List.mem_append.1 (c h3) with hm | hm
      ·exact List.mem_append_left _ hm
      ·exact List.mem_append_right _ (List.mem_cons_of_mem _ hm)
   ·obtain ⟨a, b, c⟩ := h (k + 1) (by simpa using hk) (by simpa using hk4)
    simp only [List.getElem_cons_succ, List.take_succ_cons] at a b c
    refine ⟨a, fun hm => ?_, fun h3 => ?_⟩
    ·rcases List.mem_append.1 hm with hm | hm
     ·exact b (List.mem_append_left _ hm)
     ·exact b (List.mem_append_right _ (List.mem_cons_of_mem _ hm))
    ·rcases List.mem_append.1 (c h3) with hm | hm
     ·exact List.mem_append_left _ hm
     ·rcases List.mem_cons.1 hm with e | hm
      ·exact absurd (congrArg TVisit.Kind e) (by simp only; omega)
      ·exact List.mem_append_right _ hm
  ·rw [if_neg h4]
   by_cases hb : (stopS p x).2 = false ∨ seen.any (eqVisit x) = true ∨ (x.Kind = 3 ∧ seen.any (eqVisit ⟨2, x.Item⟩) = false)
   ·rw [if_pos hb]
    refine ⟨fun h => (by cases h), fun h => ?_⟩
    obtain ⟨a, b, c⟩ := h.1 0 (by simp) h4
    simp only [List.getElem_cons_zero, List.take_zero, List.append_nil] at a b c
    rcases hb with hb | hb | ⟨h3, hb⟩
    ·rw [hb] at a; cases a
    ·exact absurd (any_eqVisit.1 hb) b
    ·have := any_eqVisit.2 (c h3)
     rw [hb] at this; cases this
   ·rw [if_neg hb, pairsP_iff p l (seen ++ [x]) _ (fun y hy => by
     rcases List.mem_append.1 hy with hy | hy
     ·exact hs y hy
     ·rw [List.mem_singleton.1 hy]; exact h4), nKind_cons, nKind_cons]
    have h0 : (stopS p x).2 = true ∧ x ∉ seen ∧ (x.Kind = 3 → (⟨2, x.Item⟩ : TVisit) ∈ seen) := by
     refine ⟨?_, fun hm => hb (.inr (.inl (any_eqVisit.2 hm))), fun h3 => ?_⟩
     ·cases hx : (stopS p x).2 with
      | true => rfl
      | false => exact absurd (.inl hx) hb
     ·cases hx : seen.any (eqVisit ⟨2, x.Item⟩) with
      | true => exact any_eqVisit.1 hx
      | false => exact absurd (.inr (.inr ⟨h3, hx⟩)) hb
    refine and_congr ⟨fun h k hk hk4 => ?_, fun h k hk hk4 => ?_⟩ ?_
    ·cases k with
     | zero =>
      simp only [List.getElem_cons_zero, List.take_zero, List.append_nil]
      exact h0
     | succ k =>
      simp only [List.getElem_cons_succ, List.take_succ_cons] at hk4 ⊢
      have := h k (by simpa using hk) hk4
      rwa [List.append_assoc] at this
    ·have := h (k + 1) (by simpa using hk) (by simpa using hk4)
     simp only [List.getElem_cons_succ, List.take_succ_cons] at this
     rw [List.append_assoc]
     exact this
    ·by_cases h2 : x.Kind = 2
     ·rw [if_pos h2, if_pos h2, if_neg (by omega)]; omega
     ·rw [if_neg h2, if_neg h2]
      by_cases h3 : x.Kind = 3
      ·rw [if_pos h3, if_pos h3]; omega
      ·rw [if_neg h3, if_neg h3]; omega
theorem cntS_pos (l : List TVisit) (v : TVisit) : ∀ n, n ≤ l.length → (0 < cntS l v n ↔ v ∈ l.take n)
 | 0, _ => by simp [cntS]
 | n + 1, h => by
  have hn : n < l.length := by omega
  have ih := cntS_pos l v n (by omega)
  rw [cntS, rdVisit_nat l n hn, List.take_succ_eq_append_getElem hn, List.mem_append, List.mem_singleton, ← ih]
  by_cases e : eqVisit l[n] v = true
  ·rw [if_pos e]
   exact ⟨fun _ => .inr (eqVisit_iff.1 e).symm, fun _ => by omega⟩
  ·rw [if_neg e]
   constructor
   ·exact fun h => .inl (by omega)
   ·rintro (h | h)
    ·omega
    ·exact absurd (eqVisit_iff.2 h.symm) e
theorem cntS_one (l : List TVisit) (v : TVisit) (hu : ∀ j (h : j < l.length), l[j] = v → v ∉ l.take j) : ∀ n, n ≤ l.length → cntS l v n ≤ 1
 | 0, _ => Nat.zero_le _
 | n + 1, h => by
  have hn : n < l.length := by omega
  have ih := cntS_one l v hu n (by omega)
  rw [cntS, rdVisit_nat l n hn]
  by_cases e : eqVisit l[n] v = true
  ·rw [if_pos e]
   have := mt (cntS_pos l v n (by omega)).1 (hu n hn (eqVisit_iff.1 e))
   omega
  ·rw [if_neg e]; omega
theorem cntS_mono (l : List TVisit) (v : TVisit) : ∀ n m, n ≤ m → cntS l v n ≤ cntS l v m := by
 intro n m h
 induction m with
 | zero => rw [show n = 0 by omega]; exact Nat.le_refl _
 | succ m ih =>
  rcases Nat.lt_or_ge n (m + 1) with hl | hl
  ·have := ih (by omega)
   rw [cntS]; omega
  ·rw [show n = m + 1 by omega]; exact Nat.le_refl _
theorem cntS_two (l : List TVisit) (v : TVisit) (j : Nat) (h : j < l.length) (e : l[j] = v) (hm : v ∈ l.take j) : 2 ≤ cntS l v l.length := by
 have h1 := (cntS_pos l v j (by omega)).2 hm
 have h2 := cntS_mono l v (j + 1) l.length (by omega)
 rw [cntS, rdVisit_nat l j h, if_pos (eqVisit_iff.2 e)] at h2
 omega
theorem nodup_len {α : Type} [DecidableEq α] : ∀ (D P : List α), D.Nodup → (∀ x ∈ D, x ∈ P) → D.length ≤ P.length
 | [], P, _, _ => Nat.zero_le _
 | d :: D, P, hd, hs => by
  obtain ⟨h1, h2⟩ := List.nodup_cons.1 hd
  have hp := hs d List.mem_cons_self
  have := nodup_len D (P.erase d) h2 (fun x hx => (List.mem_erase_of_ne (fun e => h1 (by rw [← e]; exact hx))).2 (hs x (List.mem_cons_of_mem _ hx)))
  have hl := List.length_erase_of_mem hp
  have := List.length_pos_of_mem hp
  rw [List.length_cons]
  omega
theorem nodup_all {α : Type} [DecidableEq α] (D P : List α) (hd : D.Nodup) (hp : P.Nodup) (hs : ∀ x ∈ D, x ∈ P) (hl : P.length ≤ D.length) : ∀ x ∈ P, x ∈ D := by
 intro x hx
 apply Classical.byContradiction
 intro hn
 have := nodup_len D (P.erase x) hd (fun y hy => (List.mem_erase_of_ne (fun e => hn (by rw [← e]; exact hy))).2 (hs y hy))
 have h1 := List.length_erase_of_mem hx
 have := List.length_pos_of_mem hx
 omega
def itemsOf (c : Int) (l : List TVisit) : List Int := (l.filter (fun x => decide (x.Kind = c))).map (·.Item)
theorem mem_itemsOf {c : Int} {l : List TVisit} {i : Int} : i ∈ itemsOf c l ↔ (⟨c, i⟩ : TVisit) ∈ l := by
 unfold itemsOf
 rw [List.mem_map]
 constructor
 ·rintro ⟨x, hx, rfl⟩
  obtain ⟨h1, h2⟩ := List.mem_filter.1 hx
  rw [← of_decide_eq_true h2]
  exact h1
 ·exact fun h => ⟨_, List.mem_filter.2 ⟨h, by simp⟩, rfl⟩
theorem itemsOf_len (c : Int) (l : List TVisit) : ((itemsOf c l).length : Int) = nKind c l := by simp [itemsOf, nKind]
theorem itemsOf_nodup {c : Int} {l : List TVisit} (hc : c ≠ 4) (hu : ∀ k (h : k < l.length), l[k].Kind ≠ 4 → l[k] ∉ l.take k) : (itemsOf c l).Nodup := by
 have hp : l.Pairwise (fun a b => b.Kind ≠ 4 → a ≠ b) := by
  rw [List.pairwise_iff_getElem]
  intro i j hi hj hij h4 e
  refine hu j hj h4 ?_
  rw [← e]
  exact List.mem_take_iff_getElem.2 ⟨i, by omega, rfl⟩
 unfold itemsOf List.Nodup
 rw [List.pairwise_map]
 have h1 := hp.filter (fun x => decide (x.Kind = c))
 refine List.Pairwise.imp_of_mem ?_ h1
 intro a b ha hb h e
 have ka := of_decide_eq_true (List.mem_filter.1 ha).2
 have kb := of_decide_eq_true (List.mem_filter.1 hb).2
 refine h (by omega) ?_
 obtain ⟨a1, a2⟩ := a
 obtain ⟨b1, b2⟩ := b
 simp only at ka kb e
 rw [ka, kb, e]
theorem pairs_same (p : TProblem) (l : List TVisit) : pairsP p l [] 0 = pairsB p l := by
 rw [Bool.eq_iff_iff, pairsP_iff p l [] 0 (fun y hy => by cases hy)]
 simp only [List.nil_append]
 have hB : pairsB p l = true ↔ ∀ k (h : k < l.length), l[k].Kind ≠ 4 → (stopS p l[k]).2 = true ∧ cntS l l[k] l.length = 1 ∧ (l[k].Kind = 3 → cntS l ⟨2, l[k].Item⟩ k = 1) ∧ (l[k].Kind = 2 → cntS l ⟨3, l[k].Item⟩ l.length = 1) := by
  unfold pairsB
  rw [List.all_eq_true]
  constructor
  ·intro h k hk h4
   have := h k (List.mem_range.2 hk)
   unfold pairAt at this
   rw [rdVisit_nat l k hk] at this
   simp only [h4, decide_false, Bool.false_or, Bool.and_eq_true, decide_eq_true_eq, Bool.or_eq_true, Bool.not_eq_true', decide_eq_false_iff_not] at this
   obtain ⟨⟨⟨a, b⟩, c⟩, d⟩ := this
   exact ⟨a, b, fun h3 => c.resolve_left (fun h => h h3), fun h2 => d.resolve_left (fun h => h h2)⟩
  ·intro h k hk
   have hk := List.mem_range.1 hk
   unfold pairAt
   rw [rdVisit_nat l k hk]
   by_cases h4 : l[k].Kind = 4
   ·simp [h4]
   ·obtain ⟨a, b, c, d⟩ := h k hk h4
    simp only [h4, decide_false, Bool.false_or, Bool.and_eq_true, decide_eq_true_eq, Bool.or_eq_true, Bool.not_eq_true', decide_eq_false_iff_not]
    refine ⟨⟨⟨a, b⟩, ?_⟩, ?_⟩
    ·by_cases h3 : l[k].Kind = 3
     ·exact .inr (c h3)
     ·exact .inl h3
    ·by_cases h2 : l[k].Kind = 2
     ·exact .inr (d h2)
     ·exact .inl h2
 rw [hB]
 constructor
 ·rintro ⟨h, hn⟩ k hk h4
  have hu : ∀ v : TVisit, v.Kind ≠ 4 → ∀ j (h : j < l.length), l[j] = v → v ∉ l.take j := fun v hv j hj e => by
   have := (h j hj (e ▸ hv)).2.1
   rwa [e] at this
  obtain ⟨a, b, c⟩ := h k hk h4
  have hpos : ∀ n v, n ≤ l.length → v.Kind ≠ 4 → v ∈ l.take n → cntS l v n = 1 := fun n v hn hv hm => by
   have h1 := (cntS_pos l v n hn).2 hm
   have h2 := cntS_one l v (hu v hv) n hn
   omega
  refine ⟨a, ?_, fun h3 => hpos k _ (by omega) (by simp) (c h3), fun h2 => hpos l.length _ (Nat.le_refl _) (by simp) ?_⟩
  ·refine hpos l.length _ (Nat.le_refl _) h4 ?_
   rw [List.take_length]
   exact List.getElem_mem hk
  ·rw [List.take_length]
   have hP := itemsOf_nodup (c := 2) (l := l) (by decide) (fun k hk h4 => (h k hk h4).2.1)
   have hD := itemsOf_nodup (c := 3) (l := l) (by decide) (fun k hk h4 => (h k hk h4).2.1)
   have hsub : ∀ i ∈ itemsOf 3 l, i ∈ itemsOf 2 l := fun i hi => by
    obtain ⟨j, hj, e⟩ := List.mem_iff_getElem.1 (mem_itemsOf.1 hi)
    have := (h j hj (by rw [e]; simp)).2.2 (by rw [e])
    rw [e] at this
    exact mem_itemsOf.2 (List.mem_of_mem_take this)
   have hlen : (itemsOf 2 l).length ≤ (itemsOf 3 l).length := by
    have h1 := itemsOf_len 2 l
    have h2 := itemsOf_len 3 l
    omega
   refine mem_itemsOf.1 (nodup_all _ _ hD hP hsub hlen _ (mem_itemsOf.2 ?_))
   have e : l[k] = ⟨2, l[k].Item⟩ := by rw [← h2]
   rw [← e]
   exact List.getElem_mem hk
 ·intro h
  have hu : ∀ k (hk : k < l.length), l[k].Kind ≠ 4 → l[k] ∉ l.take k := fun k hk h4 hm => by
   have h1 := cntS_two l l[k] k hk rfl hm
   have h2 := (h k hk h4).2.1
   omega
  have hd : ∀ k (hk : k < l.length), l[k].Kind = 3 → (⟨2, l[k].Item⟩ : TVisit) ∈ l.take k := fun k hk h3 => (cntS_pos l _ k (by omega)).1 (by
   have := (h k hk (by omega)).2.2.1 h3
   omega)
  refine ⟨fun k hk h4 => ⟨(h k hk h4).1, hu k hk h4, hd k hk⟩, ?_⟩
  have hP := itemsOf_nodup (c := 2) (l := l) (by decide) hu
  have hD := itemsOf_nodup (c := 3) (l := l) (by decide) hu
  have h1 := nodup_len (itemsOf 3 l) (itemsOf 2 l) hD (fun i hi => by
   obtain ⟨j, hj, e⟩ := List.mem_iff_getElem.1 (mem_itemsOf.1 hi)
   have := hd j hj (by rw [e])
   rw [e] at this
   exact mem_itemsOf.2 (List.mem_of_mem_take this))
  have h2 := nodup_len (itemsOf 2 l) (itemsOf 3 l) hP (fun i hi => by
   obtain ⟨j, hj, e⟩ := List.mem_iff_getElem.1 (mem_itemsOf.1 hi)
   have h2 := (h j hj (by rw [e]; simp)).2.2.2 (by rw [e])
   rw [e] at h2
   have := (cntS_pos l _ l.length (Nat.le_refl _)).1 (show 0 < cntS l ⟨3, i⟩ l.length by rw [h2]; decide)
   rw [List.take_length] at this
   exact mem_itemsOf.2 this)
  have e1 := itemsOf_len 2 l
  have e2 := itemsOf_len 3 l
  omega
end Go.Proofs.Ytemjpgmfignhnaa

/- Contract: is each visit there, none twice, each pickup ahead of its delivery? The program's pairs.
Conditions: a lawful problem, at most 200 visits. -/
namespace Go.Proofs.Ytemjpgmfignhnaa
open Go.RowKit Go.Proofs.YtemjpgmfignhnaaW.PrintWords Go.Proofs.YtemjpgmfignhnaaW.PrintLast Go.Proofs.YtemjpgmfignhnaaW.PrintMore
set_option linter.unusedVariables false
set_option linter.unusedSimpArgs false
attribute [local go_sem] cell_growBy Option.some_or
theorem pairsP_at (p : TProblem) (l : List TVisit) (k : Nat) (h : k < l.length) (seen : List TVisit) (o : Int) : pairsP p (l.drop k) seen o = (if l[k].Kind = 4 then pairsP p (l.drop (k + 1)) seen o else
  if (stopS p l[k]).2 = false ∨ seen.any (eqVisit l[k]) = true ∨ (l[k].Kind = 3 ∧ seen.any (eqVisit ⟨2, l[k].Item⟩) = false) then false else
  pairsP p (l.drop (k + 1)) (seen ++ [l[k]]) (if l[k].Kind = 2 then o + 1 else if l[k].Kind = 3 then o - 1 else o)) := by
 rw [List.drop_eq_getElem_cons h, pairsP]
def pairsE (b : Bool) : Int := if b = true then 0 else 161
set_option maxHeartbeats 16000000 in
set_option maxRecDepth 100000 in
theorem planPairs_any (q : PV) (p : TProblem) (v : TVehicle) (AC AB : Option Addr) (cC cB : Nat) (l : List TVisit) (A : Option Addr) (c : Nat) (w : World) (hlp : Good p) (law : Law p) (hq : q.Ok p w) (hr : Kd.C kVisit w A l.length l) (hl : l.length ≤ 200) :
  Calls Try.prog 95 #[q.val p, vehVal v AC AB cC cB, .slice A l.length c] w fun e w' => e = .returned (.int .i64 (pairsE (pairsP p l [] 0))) ∧ Below w.heap.size w w' := by
 have HR := Aside0.mk hr
 have HMS := Aside0.mk (fun (x : TVisit) W (hb : Below w.heap.size w W) => modStop_any q p x W hlp.toLens (hq.below hb) (fun _ => ⟨by have := law.stopLen' x; omega, by have := law.stopLen' x; unfold maxLen; omega⟩))
 clear hr
 generalize hres : pairsE (pairsP p l [] 0) = r
 have HFS : Aside0 (pairsE (pairsP p (l.drop 0) [] 0) = r) := ⟨hres⟩
 obtain ⟨a1, c1, a2, c2, a3, c3, a4, c4, a5, c5⟩ := q
 clear hq hlp law hres
 unfold PV.val at HMS ⊢
 unfold vehVal
 have hmk := fun W => run_makeMap (P := Try.prog) 169 W
 go_enter Try.func95, Try.ntmps95
 go_wp2
 go_loopw [8, 16] (fun vo vi wr => ∃ (k : Nat) (o : Int) (seen : List TVisit), k ≤ l.length ∧ vi = .int .i64 k ∧ vo = .int .i64 o ∧ -(k : Int) ≤ o ∧ o ≤ k ∧ Aside0 (pairsE (pairsP p (l.drop k) seen o) = r) ∧ Aside0 (SetAt visitV wr (w.heap.size + 1 + 1) seen) ∧ Aside0 (Below (w.heap.size + 1 + 1) ((w.alloc (.cells #[.int .i64 p.Dims, .int .i64 p.Time.N, .slice a1 p.Time.Cells.length c1, .int .i64 p.Dist.N, .slice a2 p.Dist.Cells.length c2, .slice a3 p.Vehicles.length c3, .slice a4 p.Jobs.length c4, .slice a5 p.Shipments.length c5] 29)).alloc (.cells #[.int .i64 v.Start, .int .i64 v.End, .slice AC v.Cap.length cC, .int .u64 v.Skills, .int .i64 v.Shift.From, .int .i64 v.Shift.To, .int .i64 v.Fixed, .int .i64 v.PerTime, .int .i64 v.PerDist, .int .i64 v.MaxTasks, .slice AB v.Breaks.length cB] 89)) wr)) (fun _ vi _ => l.length - (intOf vi).toNat)
 case atStart => exact ⟨0, 0, [], Nat.zero_le _, rfl, rfl, by omega, by omega, HFS, ⟨#[], 0, blk_is (by simp), rfl, fun e he => (by cases he)⟩, ⟨by simpa using below_alloc (Below.refl ((w.alloc (.cells #[.int .i64 p.Dims, .int .i64 p.Time.N, .slice a1 p.Time.Cells.length c1, .int .i64 p.Dist.N, .slice a2 p.Dist.Cells.length c2, .slice a3 p.Vehicles.length c3, .slice a4 p.Jobs.length c4, .slice a5 p.Shipments.length c5] 29)).alloc (.cells #[.int .i64 v.Start, .int .i64 v.End, .slice AC v.Cap.length cC, .int .u64 v.Skills, .int .i64 v.Shift.From, .int .i64 v.Shift.To, .int .i64 v.Fixed, .int .i64 v.PerTime, .int .i64 v.PerDist, .int .i64 v.MaxTasks, .slice AB v.Breaks.length cB] 89)).heap.size ((w.alloc (.cells #[.int .i64 p.Dims, .int .i64 p.Time.N, .slice a1 p.Time.Cells.length c1, .int .i64 p.Dist.N, .slice a2 p.Dist.Cells.length c2, .slice a3 p.Vehicles.length c3, .slice a4 p.Jobs.length c4, .slice a5 p.Shipments.length c5] 29)).alloc (.cells #[.int .i64 v.Start, .int .i64 v.End, .slice AC v.Cap.length cC, .int .u64 v.Skills, .int .i64 v.Shift.From, .int .i64 v.Shift.To, .int .i64 v.Fixed, .int .i64 v.PerTime, .int .i64 v.PerDist, .int .i64 v.MaxTasks, .slice AB v.Breaks.length cB] 89))) (Obj.map #[] 0)⟩⟩
 case round =>
  clear HFS hmk
  obtain ⟨k, o, seen, hk, rfl, rfl, ho0, ho1, HFS, HST, HW⟩ := hrel
  have HW' : Aside0 (Below ((w.alloc (.cells #[.int .i64 p.Dims, .int .i64 p.Time.N, .slice a1 p.Time.Cells.length c1, .int .i64 p.Dist.N, .slice a2 p.Dist.Cells.length c2, .slice a3 p.Vehicles.length c3, .slice a4 p.Jobs.length c4, .slice a5 p.Shipments.length c5] 29)).alloc (.cells #[.int .i64 v.Start, .int .i64 v.End, .slice AC v.Cap.length cC, .int .u64 v.Skills, .int .i64 v.Shift.From, .int .i64 v.Shift.To, .int .i64 v.Fixed, .int .i64 v.PerTime, .int .i64 v.PerDist, .int .i64 v.MaxTasks, .slice AB v.Breaks.length cB] 89)).heap.size ((w.alloc (.cells #[.int .i64 p.Dims, .int .i64 p.Time.N, .slice a1 p.Time.Cells.length c1, .int .i64 p.Dist.N, .slice a2 p.Dist.Cells.length c2, .slice a3 p.Vehicles.length c3, .slice a4 p.Jobs.length c4, .slice a5 p.Shipments.length c5] 29)).alloc (.cells #[.int .i64 v.Start, .int .i64 v.End, .slice AC v.Cap.length cC, .int .u64 v.Skills, .int .i64 v.Shift.From, .int .i64 v.Shift.To, .int .i64 v.Fixed, .int .i64 v.PerTime, .int .i64 v.PerDist, .int .i64 v.MaxTasks, .slice AB v.Breaks.length cB] 89)) wr) := ⟨by simpa using HW.out⟩
  have HB0 : Aside0 (Below w.heap.size w wr) := ⟨below_to (below_alloc (below_alloc (Below.refl _ _) _) _) HW'.out⟩
  have hszr : w.heap.size + 1 < wr.heap.size := by
   have := HW'.out.size
   simp at this
   omega
  have hszr' : w.heap.size < wr.heap.size := by omega
  have hmb := HST.out.lt
  by_cases hlt : k < l.length
  ·obtain ⟨ad, ea, x0, x1⟩ := atNVisit (Kd.C_below HR.out HB0.out) k hlt
   subst ea
   have hpb : wr.heap[w.heap.size]? = some (.cells #[.int .i64 p.Dims, .int .i64 p.Time.N, .slice a1 p.Time.Cells.length c1, .int .i64 p.Dist.N, .slice a2 p.Dist.Cells.length c2, .slice a3 p.Vehicles.length c3, .slice a4 p.Jobs.length c4, .slice a5 p.Shipments.length c5] 29) := blk_below (blk_alloc (blk_new _ _) _) HW'.out
   have HPB := Aside0.mk hpb
   obtain ⟨p0, p1, p2, p3, p4, p5, p6, p7⟩ := cells8 hpb; have hpw := blk_lt hpb
   have r0 : (0 : Int) ≤ (k : Int) := by omega
   have r1 : (k : Int) < (l.length : Int) := by omega
   have hs := HFS.out
   rw [pairsP_at p l k hlt] at hs
   generalize hx : l[k] = x at *
   clear HFS hpb
   by_cases k4 : x.Kind = 4
   ·have d4 : (x.Kind == 4) = true := by simp [k4]
    rw [if_pos k4] at hs
    have HN := Aside0.mk hs
    clear hs k4
    go_wp2
    go_roundw
    case rel => exact ⟨k + 1, o, seen, by omega, by go_num, rfl, by omega, by omega, HN, ⟨HST.out.keep ((show Below wr.heap.size wr _ from chn).block _ hmb)⟩, ⟨by simpa using below_to HW'.out (show Below wr.heap.size wr _ from chn)⟩⟩
    case measure => simp [intOf]; omega
   have d4 : (x.Kind == 4) = false := by simp [k4]
   rw [if_neg k4] at hs
   generalize hsb : (stopS p x).2 = sb at hs
   have HSB := Aside0.mk hsb
   have HS := Aside0.mk hs
   clear hsb hs k4
   go_upto_region 8 with (go_at_call 36; refine (HMS.out x _ (below_to HB0.out chn)).mono ?_; rintro e w3 ⟨A3, k3, rfl, hle3, hb, hrow⟩; rw [HSB.out]; obtain ⟨qc3, qf3⟩ := bcell hb; have HB3 := Aside0.mk (show Below wr.heap.size wr w3 from below_to chn hb); have HXB := Aside0.mk (blk_below (blk_new wr (.cells #[.int .i64 x.Kind, .int .i64 x.Item] 57)) hb); clear hrow hle3 hb)
   refine gen_wp (fun W => Below wr.heap.size wr W ∧ W.heap[wr.heap.size]? = some (.cells #[.int .i64 x.Kind, .int .i64 x.Item] 57 (0, 0))) ⟨below_to HB3.out chn, blk_alloc HXB.out _⟩ (fun wq HQq => ?_)
   clear p0 p1 p2 p3 p4 p5 p6 p7 hpw x0 x1 HB3 HXB qc3 qf3
   have hxb := HQq.out.2
   have q0 := blk_cell hxb 0
   have q1 := blk_cell hxb 1
   have hqw := blk_lt hxb
   simp only [List.getElem?_toArray, List.getElem?_cons_succ, List.getElem?_cons_zero] at q0 q1
   have hst := HST.out.keep (HQq.out.1.block _ hmb)
   have HSTq := Aside0.mk hst
   have hlk1 := hst.lookup keyVisit Try.underlying169 (fun _ => rfl) x
   have hlk2 := hst.lookup keyVisit Try.underlying169 (fun _ => rfl) (⟨2, x.Item⟩ : TVisit)
   unfold visitV at hlk1 hlk2
   generalize hs1 : seen.any (eqVisit x) = b1 at hlk1
   generalize hs2 : seen.any (eqVisit (⟨2, x.Item⟩ : TVisit)) = b2 at hlk2
   have HS1 := Aside0.mk hs1
   have HS2 := Aside0.mk hs2
   have hs := HS.out
   rw [hs1, hs2] at hs
   clear hxb hst hs1 hs2 HS
   by_cases bad : sb = false ∨ b1 = true ∨ x.Kind = 3 ∧ b2 = false
   ·rw [if_pos bad] at hs
    obtain rfl : (161 : Int) = r := by simpa [pairsE] using hs
    clear hs
    rcases bad with rfl | rfl | ⟨k3, rfl⟩
    ·go_wp2
     go_ret
     exact ⟨rfl, below_to HB0.out (below_to HQq.out.1 chn)⟩
    ·cases sb
     all_goals
      go_wp2
      go_ret
      exact ⟨rfl, below_to HB0.out (below_to HQq.out.1 chn)⟩
    ·have d3 : (x.Kind == 3) = true := by simp [k3]
     clear k3
     cases sb <;> cases b1
     all_goals
      go_wp2
      go_ret
      exact ⟨rfl, below_to HB0.out (below_to HQq.out.1 chn)⟩
   ·rw [if_neg bad] at hs
    have HN := Aside0.mk hs
    obtain rfl : sb = true := by cases sb <;> simp_all
    obtain rfl : b1 = false := by cases b1 <;> simp_all
    obtain ⟨w8, hup, hs8, hsz8, hbl8, ho8, htp8, hou8⟩ := HSTq.out.update keyVisit Try.underlying169 x HS1.out
    unfold visitV at hup
    have hx8 := (hbl8 wr.heap.size (by omega)).trans HQq.out.2
    have q0' := blk_cell hx8 0
    have q1' := blk_cell hx8 1
    have hqw' := blk_lt hx8
    simp only [List.getElem?_toArray, List.getElem?_cons_succ, List.getElem?_cons_zero] at q0' q1'
    have HS8 := Aside0.mk hs8
    have HB8 : Aside0 (Below (w.heap.size + 1 + 1) ((w.alloc (.cells #[.int .i64 p.Dims, .int .i64 p.Time.N, .slice a1 p.Time.Cells.length c1, .int .i64 p.Dist.N, .slice a2 p.Dist.Cells.length c2, .slice a3 p.Vehicles.length c3, .slice a4 p.Jobs.length c4, .slice a5 p.Shipments.length c5] 29)).alloc (.cells #[.int .i64 v.Start, .int .i64 v.End, .slice AC v.Cap.length cC, .int .u64 v.Skills, .int .i64 v.Shift.From, .int .i64 v.Shift.To, .int .i64 v.Fixed, .int .i64 v.PerTime, .int .i64 v.PerDist, .int .i64 v.MaxTasks, .slice AB v.Breaks.length cB] 89)) w8) := ⟨⟨ho8.trans (HQq.out.1.os.trans HW.out.os), htp8.trans (HQq.out.1.tape.trans HW.out.tape), hou8.trans (HQq.out.1.output.trans HW.out.output), by have := HW.out.size; have := HQq.out.1.size; omega, fun i hi => (hbl8 i (by omega)).trans ((HQq.out.1.block i (by omega)).trans (HW.out.block i hi))⟩⟩
    have hb2 : x.Kind = 3 → b2 = true := fun h => by cases b2 <;> simp_all
    clear hs hs8 ho8 htp8 hou8 hbl8 hsz8 hx8 bad
    by_cases k3 : x.Kind = 3
    ·have d3 : (x.Kind == 3) = true := by simp [k3]
     have d2 : (x.Kind == 2) = false := by simp [k3]
     obtain rfl := hb2 k3
     have hn := HN.out
     rw [if_neg (by omega), if_pos k3] at hn
     have HN2 := Aside0.mk hn
     clear k3 hb2 hn HN
     go_wp2
     go_roundw
     case rel => exact ⟨k + 1, o - 1, seen ++ [x], by omega, by go_num, by go_num, by omega, by omega, HN2, HS8, HB8⟩
     case measure => simp [intOf]; omega
    ·have d3 : (x.Kind == 3) = false := by simp [k3]
     by_cases k2 : x.Kind = 2
     ·have d2 : (x.Kind == 2) = true := by simp [k2]
      have hn := HN.out
      rw [if_pos k2] at hn
      have HN2 := Aside0.mk hn
      clear k3 k2 hb2 hn HN
      go_wp2
      go_roundw
      case rel => exact ⟨k + 1, o + 1, seen ++ [x], by omega, by go_num, by go_num, by omega, by omega, HN2, HS8, HB8⟩
      case measure => simp [intOf]; omega
     ·have d2 : (x.Kind == 2) = false := by simp [k2]
      have hn := HN.out
      rw [if_neg k2, if_neg k3] at hn
      have HN2 := Aside0.mk hn
      clear k3 k2 hb2 hn HN
      go_wp2
      go_roundw
      case rel => exact ⟨k + 1, o, seen ++ [x], by omega, by go_num, rfl, by omega, by omega, HN2, HS8, HB8⟩
      case measure => simp [intOf]; omega
  ·obtain rfl : k = l.length := by omega
   have hs := HFS.out
   rw [List.drop_of_length_le (Nat.le_refl _), pairsP] at hs
   clear HFS
   by_cases e1 : o = 0
   ·have d1 : (o != 0) = false := by simp [e1]
    obtain rfl : (0 : Int) = r := by simpa [pairsE, e1] using hs
    clear hs e1
    go_wp2
    go_ret
    exact ⟨rfl, HB0.out⟩
   ·have d1 : (o != 0) = true := by simp [e1]
    obtain rfl : (161 : Int) = r := by simpa [pairsE, e1] using hs
    clear hs e1
    go_wp2
    go_ret
    exact ⟨rfl, HB0.out⟩
end Go.Proofs.Ytemjpgmfignhnaa

/- Contract: is what is aboard within the capacity? The program's check of loads.
Conditions: a lawful problem, at most 200 visits. -/
namespace Go.Proofs.Ytemjpgmfignhnaa
open Go.RowKit Go.Proofs.YtemjpgmfignhnaaW.PrintWords Go.Proofs.YtemjpgmfignhnaaW.PrintLast Go.Proofs.YtemjpgmfignhnaaW.PrintMore
set_option linter.unusedVariables false
set_option linter.unusedSimpArgs false
attribute [local go_sem] cell_growBy Option.some_or
set_option maxHeartbeats 8000000 in
set_option maxRecDepth 100000 in
theorem underP_any (a b : List Int) (A B : Option Addr) (c c' : Nat) (w : World) (hr : Kd.C (Kd.int .i64) w A a.length a) (hr' : Kd.C (Kd.int .i64) w B b.length b) (hl : a.length ≤ 4611686018427387904) :
  Calls Try.prog 120 #[.slice A a.length c, .slice B b.length c'] w fun e w' => e = .returned (.bool (underB a b)) ∧ Below w.heap.size w w' := by
 have HR := Aside0.mk hr
 have HR' := Aside0.mk hr'
 clear hr hr'
 by_cases hlen : a.length = b.length
 rotate_left
 ·have e : underB a b = false := by simp [underB, hlen]
  have d0 : ((a.length : Int) != (b.length : Int)) = true := by simp; omega
  rw [e]
  clear e
  go_enter Try.func120, Try.ntmps120
  go_wp2
  go_ret
  exact ⟨rfl, Below.refl _ _⟩
 have d0 : ((a.length : Int) != (b.length : Int)) = false := by simp; omega
 have HBAD : Aside0 (∀ k, k < a.length → rd b k < rd a k → underB a b = false) := ⟨fun k hk h => by
  unfold underB
  rw [show (List.range a.length).all (fun i => decide (rd a i ≤ rd b i)) = false from List.all_eq_false.2 ⟨k, List.mem_range.2 hk, by simp; omega⟩, Bool.and_false]⟩
 have HALL : Aside0 ((∀ k, k < a.length → rd a k ≤ rd b k) → underB a b = true) := ⟨fun h => by
  unfold underB
  rw [show (List.range a.length).all (fun i => decide (rd a i ≤ rd b i)) = true from List.all_eq_true.2 (fun k hk => decide_eq_true (h k (List.mem_range.1 hk))), Bool.and_true]
  exact decide_eq_true hlen⟩
 generalize underB a b = r at *
 have hl' : b.length ≤ 4611686018427387904 := by omega
 go_enter Try.func120, Try.ntmps120
 go_wp2
 go_loopw [13] (fun i wr => ∃ k : Nat, k ≤ a.length ∧ i = .int .i64 k ∧ Aside0 (∀ j, j < k → rd a j ≤ rd b j) ∧ Aside0 (Below w.heap.size w wr)) (fun i _ => a.length - (intOf i).toNat)
 case atStart => exact ⟨0, Nat.zero_le _, rfl, ⟨fun j h => absurd h (Nat.not_lt_zero _)⟩, ⟨Below.refl _ _⟩⟩
 case round =>
  obtain ⟨k, hk, rfl, HJ, HB1⟩ := hrel
  by_cases hlt : k < a.length
  ·obtain ⟨ad, ea, x0⟩ := Kd.at_int (Kd.C_below HR.out HB1.out) (k : Int) (by omega) (by omega)
   obtain ⟨ad', ea', y0⟩ := Kd.at_int (Kd.C_below HR'.out HB1.out) (k : Int) (by omega) (by omega)
   subst ea
   subst ea'
   simp only [Int.toNat_natCast] at x0 y0
   have r0 : (0 : Int) ≤ (k : Int) := by omega
   have r1 : (k : Int) < (a.length : Int) := by omega
   have r2 : (k : Int) < (b.length : Int) := by omega
   by_cases hc : rd b k < rd a k
   ·have d1 : decide (rd b (k : Int) < rd a (k : Int)) = true := decide_eq_true hc
    have er := HBAD.out k hlt hc
    subst er
    clear hc HBAD
    go_wp2
    go_quiet (fail)
    go_wp2
    go_ret
    exact ⟨rfl, clb⟩
   ·have d1 : decide (rd b (k : Int) < rd a (k : Int)) = false := decide_eq_false hc
    have HN := Aside0.mk (show rd a k ≤ rd b k by omega)
    clear hc HBAD
    go_wp2
    go_quiet (fail)
    go_wp2
    go_roundw
    case rel => exact ⟨k + 1, by omega, by go_num, ⟨all_succ HJ.out HN.out⟩, ⟨clb⟩⟩
    case measure => simp [intOf]; omega
  ·obtain rfl : k = a.length := by omega
   have er := HALL.out HJ.out
   subst er
   go_wp2
   go_ret
   exact ⟨rfl, clb⟩
def capE (v : TVehicle) (xs : List (List Int)) : Int := if xs.all (fun x => underB x v.Cap) = false then 165 else 0
theorem capE_at (v : TVehicle) (xs : List (List Int)) (k : Nat) (h : k < xs.length) : capE v (xs.drop k) = if underB xs[k] v.Cap = false then 165 else capE v (xs.drop (k + 1)) := by
 unfold capE
 rw [List.drop_eq_getElem_cons h, List.all_cons]
 cases underB xs[k] v.Cap <;> simp
set_option maxHeartbeats 16000000 in
set_option maxRecDepth 100000 in
theorem planCap_any (q : PV) (p : TProblem) (v : TVehicle) (AC AB : Option Addr) (cC cB : Nat) (l : List TVisit) (A : Option Addr) (c : Nat) (w : World) (hlp : Good p) (law : Law p) (hq : q.Ok p w) (hr : Kd.C kVisit w A l.length l) (hl : l.length ≤ 200)
  (hcap : Kd.C (Kd.int .i64) w AC v.Cap.length v.Cap) :
  Calls Try.prog 99 #[q.val p, vehVal v AC AB cC cB, .slice A l.length c] w fun e w' => e = .returned (.int .i64 (capE v (loadsP p l))) ∧ Below w.heap.size w w' := by
 have HLO := Aside0.mk (fun W (hb : Below w.heap.size w W) => planLoads_any q p l A c W hlp law (hq.below hb) (Kd.C_below hr hb) hl)
 have HCP := Aside0.mk hcap
 have HLN : Aside0 (∀ x ∈ loadsP p l, x.length ≤ 4611686018427387904) := ⟨by
  rw [loadsP_same law.amts.toAmtLens]
  intro x hx
  simp only [loadsS, List.mem_map] at hx
  obtain ⟨k, _, rfl⟩ := hx
  rw [nowS_length]
  have := law.d1
  omega⟩
 have hll : (loadsP p l).length ≤ 201 := by
  rw [loadsP_same law.amts.toAmtLens]
  simp [loadsS]
  omega
 generalize loadsP p l = LL at *
 have HT0 : Aside0 (capE v (LL.drop 0) = capE v LL) := ⟨rfl⟩
 generalize capE v LL = R at *
 obtain ⟨a1, c1, a2, c2, a3, c3, a4, c4, a5, c5⟩ := q
 clear hr hq law hlp hcap
 unfold PV.val at HLO ⊢
 unfold vehVal
 go_enter Try.func99, Try.ntmps99
 go_wp2_with (go_at_call 55; refine (HLO.out _ clb).mono ?_; rintro e w1 ⟨A1, k1, rfl, hLR, hb⟩; have hvb := blk_below (blk_is (W := w.alloc (.cells #[.int .i64 p.Dims, .int .i64 p.Time.N, .slice a1 p.Time.Cells.length c1, .int .i64 p.Dist.N, .slice a2 p.Dist.Cells.length c2, .slice a3 p.Vehicles.length c3, .slice a4 p.Jobs.length c4, .slice a5 p.Shipments.length c5] 29)) (o := (.cells #[.int .i64 v.Start, .int .i64 v.End, .slice AC v.Cap.length cC, .int .u64 v.Skills, .int .i64 v.Shift.From, .int .i64 v.Shift.To, .int .i64 v.Fixed, .int .i64 v.PerTime, .int .i64 v.PerDist, .int .i64 v.MaxTasks, .slice AB v.Breaks.length cB] 89)) (n := w.heap.size + 1) (by simp)) hb; have HVB := Aside0.mk hvb; have HLR := Aside0.mk hLR; have HB1 := Aside0.mk (show Below w.heap.size w w1 from below_to clb hb); clear hvb hLR hb)
 go_loopw [13] (fun vi wr => ∃ k : Nat, k ≤ LL.length ∧ vi = .int .i64 k ∧ Aside0 (capE v (LL.drop k) = R) ∧ Aside0 (Below w1.heap.size w1 wr)) (fun vi _ => LL.length - (intOf vi).toNat)
 case atStart => exact ⟨0, Nat.zero_le _, rfl, HT0, ⟨Below.refl _ _⟩⟩
 case round =>
  clear HT0 HLO
  obtain ⟨k, hk, rfl, HT, HW⟩ := hrel
  have HB0 : Aside0 (Below w.heap.size w wr) := ⟨below_to HB1.out HW.out⟩
  by_cases hlt : k < LL.length
  ·obtain ⟨A', c', e', hl', hF'⟩ := (HLR.out.below HW.out).F
   simp only [Value.slice.injEq] at e'
   obtain ⟨eA, -, -⟩ := e'
   subst eA
   obtain ⟨ad, A2, c2', ea, y0, hl2, hC2⟩ := atNInts (Kd.F_now hF') k hlt
   subst ea
   have hvb := blk_below HVB.out HW.out
   have v2 := blk_cell hvb 2
   simp only [List.getElem?_toArray, List.getElem?_cons_succ, List.getElem?_cons_zero] at v2
   have r0 : (0 : Int) ≤ (k : Int) := by omega
   have r1 : (k : Int) < (LL.length : Int) := by omega
   have hs := HT.out
   rw [capE_at v LL k hlt] at hs
   have HXL := Aside0.mk (HLN.out _ (List.getElem_mem hlt))
   generalize LL[k] = x at *
   have HC2 := Aside0.mk hC2
   clear hvb HT hF' hl' hC2 hl2
   have HUN := Aside0.mk (underP_any x v.Cap A2 AC c2' cC wr HC2.out (Kd.C_below HCP.out HB0.out) HXL.out)
   cases hu : underB x v.Cap
   ·rw [hu, if_pos rfl] at hs
    subst hs
    go_wp2_with (go_at_call 120; refine (HUN.out).mono ?_; rintro e w2 ⟨rfl, hb⟩; rw [hu]; have HB2 := Aside0.mk hb; clear hb)
    go_ret
    exact ⟨rfl, below_to HB0.out HB2.out⟩
   ·rw [hu, if_neg (by decide)] at hs
    have HN := Aside0.mk hs
    clear hs
    go_wp2_with (go_at_call 120; refine (HUN.out).mono ?_; rintro e w2 ⟨rfl, hb⟩; rw [hu]; have HB2 := Aside0.mk hb; clear hb)
    go_roundw
    case rel => exact ⟨k + 1, by omega, by go_num, HN, ⟨below_to HW.out HB2.out⟩⟩
    case measure => simp [intOf]; omega
  ·obtain rfl : k = LL.length := by omega
   have hs := HT.out
   rw [List.drop_of_length_le (Nat.le_refl _)] at hs
   have h0 : (0 : Int) = R := hs
   subst h0
   go_wp2
   go_ret
   exact ⟨rfl, HB0.out⟩
end Go.Proofs.Ytemjpgmfignhnaa

/- Sets of skills: what is wanted by all is wanted by each.
Conditions: none. -/
namespace Go.Proofs.Ytemjpgmfignhnaa
open Go.RowKit Go.Proofs.YtemjpgmfignhnaaW.PrintWords Go.Proofs.YtemjpgmfignhnaaW.PrintLast Go.Proofs.YtemjpgmfignhnaaW.PrintMore
set_option linter.unusedVariables false
set_option linter.unusedSimpArgs false
theorem u64_nat (b : BitVec 64) : IntKind.u64.wrap ((b.toNat : Nat) : Int) = (b.toNat : Int) := by
 have := b.isLt
 exact IntWalk.u64_in _ (by omega)
theorem vec_zero {b : BitVec 64} : ((b.toNat : Nat) : Int) = 0 ↔ b = 0#64 := by
 constructor
 ·intro h
  exact BitVec.eq_of_toNat_eq (by simpa using h)
 ·rintro rfl
  rfl
theorem andNot_zero (s k : Int) : bits .andNot .u64 s k = 0 ↔ BitVec.ofInt 64 s &&& ~~~(BitVec.ofInt 64 k) = 0#64 := by
 rw [← vec_zero, ← u64_nat]
 rfl
theorem or_vec (s t : Int) : BitVec.ofInt 64 (bits .or .u64 s t) = BitVec.ofInt 64 s ||| BitVec.ofInt 64 t := by
 have h : bits .or .u64 s t = (((BitVec.ofInt 64 s ||| BitVec.ofInt 64 t).toNat : Nat) : Int) := by
  rw [← u64_nat]
  rfl
 rw [h, BitVec.ofInt_natCast, BitVec.ofNat_toNat, BitVec.setWidth_eq]
theorem vec_or_and {S T N : BitVec 64} : (S ||| T) &&& N = 0#64 ↔ S &&& N = 0#64 ∧ T &&& N = 0#64 := by
 constructor
 ·intro h
  constructor
  all_goals
   refine BitVec.eq_of_getLsbD_eq fun i hi => ?_
   have := congrArg (fun b => b.getLsbD i) h
   simp only [BitVec.getLsbD_and, BitVec.getLsbD_or, BitVec.getLsbD_zero] at this ⊢
   cases h1 : S.getLsbD i <;> cases h2 : T.getLsbD i <;> cases h3 : N.getLsbD i <;> simp_all
 ·rintro ⟨h1, h2⟩
  refine BitVec.eq_of_getLsbD_eq fun i hi => ?_
  have a1 := congrArg (fun b => b.getLsbD i) h1
  have a2 := congrArg (fun b => b.getLsbD i) h2
  simp only [BitVec.getLsbD_and, BitVec.getLsbD_or, BitVec.getLsbD_zero] at a1 a2 ⊢
  cases h1 : S.getLsbD i <;> cases h2 : T.getLsbD i <;> cases h3 : N.getLsbD i <;> simp_all
theorem andNot_or (s t k : Int) : bits .andNot .u64 (bits .or .u64 s t) k = 0 ↔ bits .andNot .u64 s k = 0 ∧ bits .andNot .u64 t k = 0 := by
 rw [andNot_zero, andNot_zero, andNot_zero, or_vec, vec_or_and]
/-- Each wanted set of skills is had. -/
def covB (p : TProblem) (sk : Int) (x : TVisit) : Bool := decide (bits .andNot .u64 (factsS p (taskOf x).1).2 sk = 0)
theorem wantS_zero (p : TProblem) (sk : Int) : ∀ (l : List TVisit) (s : Int), bits .andNot .u64 (wantS p l s) sk = 0 ↔ bits .andNot .u64 s sk = 0 ∧ ∀ x ∈ l, x.Kind = 1 ∨ x.Kind = 2 → covB p sk x = true
 | [], s => by simp [wantS]
 | x :: l, s => by
  rw [wantS]
  split
  ·rename_i hk
   rw [wantS_zero p sk l, andNot_or]
   simp only [List.mem_cons, forall_eq_or_imp, covB, decide_eq_true_eq]
   constructor
   ·rintro ⟨⟨h1, h2⟩, h3⟩
    exact ⟨h1, fun _ => h2, h3⟩
   ·rintro ⟨h1, h2, h3⟩
    exact ⟨⟨h1, h2 hk⟩, h3⟩
  ·rename_i hk
   rw [wantS_zero p sk l]
   simp only [List.mem_cons, forall_eq_or_imp]
   constructor
   ·rintro ⟨h1, h2⟩
    exact ⟨h1, fun h => absurd h hk, h2⟩
   ·rintro ⟨h1, h2, h3⟩
    exact ⟨h1, h3⟩
/-- The program's look at skills: at each visit of a task. -/
def skillsB (p : TProblem) (sk : Int) (l : List TVisit) : Bool := l.all (fun x => !(taskOf x).2 || covB p sk x)
theorem skills_same (p : TProblem) (sk : Int) (l : List TVisit) (hp : ∀ x ∈ l, x.Kind = 3 → (⟨2, x.Item⟩ : TVisit) ∈ l) : skillsB p sk l = decide (bits .andNot .u64 (wantS p l 0) sk = 0) := by
 rw [Bool.eq_iff_iff, decide_eq_true_eq, wantS_zero, skillsB, List.all_eq_true]
 have h0 : bits .andNot .u64 0 sk = 0 := by
  rw [andNot_zero, show BitVec.ofInt 64 0 = 0#64 from rfl, BitVec.zero_and]
 constructor
 ·intro h
  refine ⟨h0, fun x hx hk => ?_⟩
  have := h x hx
  have ht : (taskOf x).2 = true := by rcases hk with k | k <;> simp [taskOf, k]
  simpa [ht] using this
 ·rintro ⟨_, h⟩ x hx
  by_cases k1 : x.Kind = 1 ∨ x.Kind = 2
  ·rw [h x hx k1]
   simp
  ·by_cases k3 : x.Kind = 3
   ·have h2 := h _ (hp x hx k3) (.inr rfl)
    have e : (taskOf x).1 = (taskOf (⟨2, x.Item⟩ : TVisit)).1 := by
     simp [taskOf, k3]
    unfold covB at h2 ⊢
    rw [e, h2]
    simp
   ·have ht : (taskOf x).2 = false := by
     have : taskOf x = (⟨false, 0⟩, false) := taskOf_none (by omega) (by omega) k3
     rw [this]
    simp [ht]
end Go.Proofs.Ytemjpgmfignhnaa
