/- Contracts: one load under another; when one may begin, or come at the latest.
Conditions: lists no longer than memory allows; lawful windows. -/
import Derived.Test.YtemjpgmfignhnaaM0
import Derived.Test.YtemjpgmfignhnaaM5
namespace Go.Proofs.Ytemjpgmfignhnaa
open Go.RowKit Go.Proofs.YtemjpgmfignhnaaW.PrintWords Go.Proofs.YtemjpgmfignhnaaW.PrintLast Go.Proofs.YtemjpgmfignhnaaW.PrintMore
set_option linter.unusedVariables false
set_option linter.unusedSimpArgs false
attribute [local go_sem] cell_growBy Option.some_or
def underB (a b : List Int) : Bool := decide (a.length = b.length) && (List.range a.length).all (fun i => decide (rd a i ≤ rd b i))
set_option maxHeartbeats 8000000 in
set_option maxRecDepth 100000 in
theorem refUnder_any (a b : List Int) (A B : Option Addr) (c c' : Nat) (w : World) (hr : Kd.C (Kd.int .i64) w A a.length a) (hr' : Kd.C (Kd.int .i64) w B b.length b) (hl : a.length ≤ 4611686018427387904) :
  Calls Try.prog 60 #[.slice A a.length c, .slice B b.length c'] w fun e w' => e = .returned (.bool (underB a b)) ∧ Below w.heap.size w w' := by
 have HR := Aside0.mk hr
 have HR' := Aside0.mk hr'
 clear hr hr'
 by_cases hlen : a.length = b.length
 rotate_left
 ·have e : underB a b = false := by simp [underB, hlen]
  have d0 : ((a.length : Int) != (b.length : Int)) = true := by simp; omega
  rw [e]
  clear e
  go_enter Try.func60, Try.ntmps60
  go_wp2
  go_ret
  exact ⟨rfl, Below.refl _ _⟩
 have d0 : ((a.length : Int) != (b.length : Int)) = false := by simp; omega
 have HBAD : Aside0 (∀ k, k < a.length → rd b k < rd a k → underB a b = false) := ⟨fun k hk h => by
  unfold underB
  rw [show (List.range a.length).all (fun i => decide (rd a i ≤ rd b i)) = false from List.all_eq_false.2 ⟨k, List.mem_range.2 hk, by simp; omega⟩, Bool.and_false]⟩
 have HALL : Aside0 ((∀ k, k < a.length → rd a k ≤ rd b k) → underB a b = true) := ⟨fun h => by
  unfold underB
  rw [show (List.range a.length).all (fun i => decide (rd a i ≤ rd b i)) = true from List.all_eq_true.2 (fun k hk => decide_eq_true (h k (List.mem_range.1 hk))), Bool.and_true]
  exact decide_eq_true hlen⟩
 generalize underB a b = r at *
 have hl' : b.length ≤ 4611686018427387904 := by omega
 go_enter Try.func60, Try.ntmps60
 go_wp2
 go_loopw [5] (fun i wr => ∃ k : Nat, k ≤ a.length ∧ i = .int .i64 k ∧ Aside0 (∀ j, j < k → rd a j ≤ rd b j) ∧ Aside0 (Below w.heap.size w wr)) (fun i _ => a.length - (intOf i).toNat)
 case atStart => exact ⟨0, Nat.zero_le _, rfl, ⟨fun j h => absurd h (Nat.not_lt_zero _)⟩, ⟨Below.refl _ _⟩⟩
 case round =>
  obtain ⟨k, hk, rfl, HJ, HB1⟩ := hrel
  by_cases hlt : k < a.length
  ·obtain ⟨ad, ea, x0⟩ := Kd.at_int (Kd.C_below HR.out HB1.out) (k : Int) (by omega) (by omega)
   obtain ⟨ad', ea', y0⟩ := Kd.at_int (Kd.C_below HR'.out HB1.out) (k : Int) (by omega) (by omega)
   subst ea
   subst ea'
   simp only [Int.toNat_natCast] at x0 y0
   have r0 : (0 : Int) ≤ (k : Int) := by omega
   have r1 : (k : Int) < (a.length : Int) := by omega
   have r2 : (k : Int) < (b.length : Int) := by omega
   by_cases hc : rd b k < rd a k
   ·have d1 : decide (rd b (k : Int) < rd a (k : Int)) = true := decide_eq_true hc
    have er := HBAD.out k hlt hc
    subst er
    clear hc HBAD
    go_wp2
    go_quiet (fail)
    go_wp2
    go_ret
    exact ⟨rfl, clb⟩
   ·have d1 : decide (rd b (k : Int) < rd a (k : Int)) = false := decide_eq_false hc
    have HN := Aside0.mk (show rd a k ≤ rd b k by omega)
    clear hc HBAD
    go_wp2
    go_quiet (fail)
    go_wp2
    go_roundw
    case rel => exact ⟨k + 1, by omega, by go_num, ⟨all_succ HJ.out HN.out⟩, ⟨clb⟩⟩
    case measure => simp [intOf]; omega
  ·obtain rfl : k = a.length := by omega
   have er := HALL.out HJ.out
   subst er
   go_wp2
   go_ret
   exact ⟨rfl, clb⟩
/-! ### windows -/
def startS (t : Int) : List TWindow → Int × Bool
 | [] => (0, false)
 | w :: l => if t ≤ w.To then ((if t < w.From then w.From else t), true) else startS t l
theorem startS_at (t : Int) (l : List TWindow) (k : Nat) (h : k < l.length) : startS t (l.drop k) = if t ≤ l[k].To then ((if t < l[k].From then l[k].From else t), true) else startS t (l.drop (k + 1)) := by
 rw [List.drop_eq_getElem_cons h, startS]
structure WinOk (l : List TWindow) : Prop where
 len : l.length ≤ 4
 pos : ∀ i (h : i < l.length), 0 ≤ l[i].From ∧ l[i].From ≤ l[i].To ∧ l[i].To ≤ 1000000
 asc : ∀ i j (hi : i < j) (hj : j < l.length), (l[i]'(by omega)).To < l[j].From
theorem winS_ok : ∀ (l : List TWindow) (i lo : Int), (winS i lo l).2 = 0 → (∀ j (h : j < l.length), lo < l[j].From ∧ 0 ≤ l[j].From ∧ l[j].From ≤ l[j].To ∧ l[j].To ≤ 1000000) ∧ ∀ i j (hi : i < j) (hj : j < l.length), (l[i]'(by omega)).To < l[j].From
 | [], _, _, _ => ⟨fun j h => (by simp at h), fun _ _ _ h => (by simp at h)⟩
 | w :: l, i, lo, h => by
  unfold winS at h
  split at h
  ·cases h
  ·rename_i hn
   have hw : ¬ w.From < 0 ∧ ¬ w.To > 1000000 ∧ ¬ w.From > w.To ∧ ¬ w.From ≤ lo := ⟨fun a => hn (.inl a), fun a => hn (.inr (.inl a)), fun a => hn (.inr (.inr (.inl a))), fun a => hn (.inr (.inr (.inr a)))⟩
   obtain ⟨h1, h2⟩ := winS_ok l (i + 1) w.To h
   refine ⟨fun j hj => ?_, fun a b hab hb => ?_⟩
   ·cases j with
    | zero => simp only [List.getElem_cons_zero]; omega
    | succ j =>
     simp only [List.getElem_cons_succ]
     have := h1 j (by simpa using hj)
     omega
   ·cases b with
    | zero => omega
    | succ b =>
     cases a with
     | zero =>
      simp only [List.getElem_cons_succ, List.getElem_cons_zero]
      exact (h1 b (by simpa using hb)).1
     | succ a =>
      simp only [List.getElem_cons_succ]
      exact h2 a b (by omega) (by simpa using hb)
theorem winOk_of {l : List TWindow} (h : windowsB l = true) : WinOk l := by
 have hl := windowsB_len h
 unfold windowsB windowsS at h
 split at h
 ·simp at h
 ·have h' : (winS 0 (-1) l).2 = 0 := by simpa using h
  obtain ⟨h1, h2⟩ := winS_ok l 0 (-1) h'
  exact ⟨hl, fun i hi => by have := h1 i hi; omega, h2⟩
set_option maxHeartbeats 8000000 in
set_option maxRecDepth 100000 in
theorem start_any (l : List TWindow) (A : Option Addr) (c : Nat) (t : Int) (w : World) (hr : Kd.C kWindow w A l.length l) (hl : l.length ≤ 4611686018427387904) :
  Calls Try.prog 109 #[.slice A l.length c, .int .i64 t] w fun e w' => e = .returned (.tuple #[.int .i64 (startS t l).1, .bool (startS t l).2]) ∧ Below w.heap.size w w' := by
 have HR := Aside0.mk hr
 clear hr
 generalize hq : startS t l = r
 have HQ : Aside0 (startS t (l.drop 0) = r) := ⟨hq⟩
 clear hq
 go_enter Try.func109, Try.ntmps109
 go_wp2
 go_loopw [10] (fun i wr => ∃ k : Nat, k ≤ l.length ∧ i = .int .i64 k ∧ Aside0 (startS t (l.drop k) = r) ∧ Aside0 (Below w.heap.size w wr)) (fun i _ => l.length - (intOf i).toNat)
 case atStart => exact ⟨0, Nat.zero_le _, rfl, HQ, ⟨Below.refl _ _⟩⟩
 case round =>
  clear HQ
  obtain ⟨k, hk, rfl, HS, HB1⟩ := hrel
  by_cases hlt : k < l.length
  ·obtain ⟨ad, ea, x0, x1⟩ := atNWindow (Kd.C_below HR.out HB1.out) k hlt
   subst ea
   have r0 : (0 : Int) ≤ (k : Int) := by omega
   have r1 : (k : Int) < (l.length : Int) := by omega
   have hs := HS.out
   rw [startS_at t l k hlt] at hs
   by_cases h1 : t ≤ l[k].To
   ·have d1 : decide (t ≤ l[k].To) = true := decide_eq_true h1
    rw [if_pos h1] at hs
    clear HS
    by_cases h2 : t < l[k].From
    ·rw [if_pos h2] at hs
     subst hs
     have d2 : decide (t < l[k].From) = true := decide_eq_true h2
     clear h1
     go_wp2
     go_ret2
     exact ⟨by first | rfl | (simp [h2]; done) | (simp [h2]; omega), clb⟩
    ·rw [if_neg h2] at hs
     subst hs
     have d2 : decide (t < l[k].From) = false := decide_eq_false h2
     clear h1
     go_wp2
     go_ret2
     exact ⟨by first | rfl | (simp [h2]; done) | (simp [h2]; omega), clb⟩
   ·have d1 : decide (t ≤ l[k].To) = false := decide_eq_false h1
    rw [if_neg h1] at hs
    have HN := Aside0.mk hs
    clear hs HS h1
    go_wp2
    go_roundw
    case rel => exact ⟨k + 1, by omega, by go_num, HN, ⟨clb⟩⟩
    case measure => simp [intOf]; omega
  ·obtain rfl : k = l.length := by omega
   have hs := HS.out
   rw [List.drop_of_length_le (Nat.le_refl _), startS] at hs
   subst hs
   go_wp2
   go_ret2
   exact ⟨rfl, clb⟩
set_option maxHeartbeats 8000000 in
set_option maxRecDepth 100000 in
theorem refStart_any (l : List TWindow) (A : Option Addr) (c : Nat) (t : Int) (w : World) (hr : Kd.C kWindow w A l.length l) (hw : WinOk l) :
  Calls Try.prog 61 #[.slice A l.length c, .int .i64 t] w fun e w' => e = .returned (.tuple #[.int .i64 (startS t l).1, .bool (startS t l).2]) ∧ Below w.heap.size w w' := by
 have HR := Aside0.mk hr
 have HW := Aside0.mk hw
 have hl := hw.len
 clear hr hw
 generalize hq : startS t l = r
 have HQ : Aside0 (startS t (l.drop 0) = r) := ⟨hq⟩
 clear hq
 go_enter Try.func61, Try.ntmps61
 go_wp2
 go_loopw [6, 7, 8] (fun b f i wr => ∃ k : Nat, k ≤ l.length ∧ i = .int .i64 k ∧ Aside0 ((f = .bool false ∧ b = .int .i64 0 ∧ startS t (l.drop k) = r) ∨ (f = .bool true ∧ b = .int .i64 r.1 ∧ r.2 = true ∧ ∀ j (h : j < l.length), k ≤ j → r.1 < l[j].From)) ∧ Aside0 (Below w.heap.size w wr)) (fun _ _ i _ => l.length - (intOf i).toNat)
 case atStart => exact ⟨0, Nat.zero_le _, rfl, ⟨.inl ⟨rfl, rfl, HQ.out⟩⟩, ⟨Below.refl _ _⟩⟩
 case round =>
  clear HQ
  obtain ⟨k, hk, rfl, HS, HB1⟩ := hrel
  by_cases hlt : k < l.length
  ·obtain ⟨ad, ea, x0, x1⟩ := atNWindow (Kd.C_below HR.out HB1.out) k hlt
   subst ea
   have r0 : (0 : Int) ≤ (k : Int) := by omega
   have r1 : (k : Int) < (l.length : Int) := by omega
   rcases HS.out with ⟨rfl, rfl, hs⟩ | ⟨rfl, rfl, h2, hj⟩
   ·rw [startS_at t l k hlt] at hs
    by_cases h1 : t ≤ l[k].To
    ·have d1 : decide (l[k].To < t) = false := decide_eq_false (by omega)
     rw [if_pos h1] at hs
     clear HS
     have hpos := HW.out.pos k hlt
     by_cases h2 : t < l[k].From
     ·rw [if_pos h2] at hs
      subst hs
      have HN : Aside0 (∀ j (h : j < l.length), k + 1 ≤ j → l[k].From < l[j].From) := ⟨fun j h hj => by have := HW.out.asc k j (by omega) h; omega⟩
      have d2 : decide (l[k].From < t) = false := decide_eq_false (by omega)
      clear h1 h2 hpos
      go_wp2
      go_roundw
      case rel => exact ⟨k + 1, by omega, by go_num, ⟨.inr ⟨by trivial, by first | rfl | trivial, by first | rfl | trivial, HN.out⟩⟩, ⟨clb⟩⟩
      case measure => simp [intOf]; omega
     ·rw [if_neg h2] at hs
      subst hs
      have HN : Aside0 (∀ j (h : j < l.length), k + 1 ≤ j → t < l[j].From) := ⟨fun j h hj => by have := HW.out.asc k j (by omega) h; omega⟩
      rcases Int.lt_or_eq_of_le (Int.not_lt.1 h2) with h3 | h3
      ·have d2 : decide (l[k].From < t) = true := decide_eq_true h3
       clear h1 h2 hpos h3
       go_wp2
       go_roundw
       case rel => exact ⟨k + 1, by omega, by go_num, ⟨.inr ⟨by trivial, by first | rfl | trivial, by first | rfl | trivial, HN.out⟩⟩, ⟨clb⟩⟩
       case measure => simp [intOf]; omega
      ·have d2 : decide (l[k].From < t) = false := decide_eq_false (by omega)
       have HE := Aside0.mk h3
       clear h1 h2 hpos h3
       go_wp2
       go_roundw
       case rel => exact ⟨k + 1, by omega, by go_num, ⟨.inr ⟨by trivial, by first | rw [HE.out] | (simp; exact HE.out), by first | rfl | trivial, HN.out⟩⟩, ⟨clb⟩⟩
       case measure => simp [intOf]; omega
    ·have d1 : decide (l[k].To < t) = true := decide_eq_true (by omega)
     rw [if_neg h1] at hs
     have HN := Aside0.mk hs
     clear hs HS h1
     go_wp2
     go_roundw
     case rel => exact ⟨k + 1, by omega, by go_num, ⟨.inl ⟨rfl, rfl, HN.out⟩⟩, ⟨clb⟩⟩
     case measure => simp [intOf]; omega
   ·have hf := hj k hlt (Nat.le_refl _)
    have HJ := Aside0.mk hj
    have H2 := Aside0.mk h2
    clear HS hj h2
    by_cases h1 : t ≤ l[k].To
    ·have d1 : decide (l[k].To < t) = false := decide_eq_false (by omega)
     by_cases h3 : l[k].From < t
     ·have d2 : decide (l[k].From < t) = true := decide_eq_true h3
      have d3 : decide (t < r.1) = false := decide_eq_false (by omega)
      clear h1 h3 hf
      go_wp2
      go_roundw
      case rel => exact ⟨k + 1, by omega, by go_num, ⟨.inr ⟨rfl, rfl, H2.out, fun j h hj => HJ.out j h (by omega)⟩⟩, ⟨clb⟩⟩
      case measure => simp [intOf]; omega
     ·have d2 : decide (l[k].From < t) = false := decide_eq_false h3
      have d3 : decide (l[k].From < r.1) = false := decide_eq_false (by omega)
      clear h1 h3 hf
      go_wp2
      go_roundw
      case rel => exact ⟨k + 1, by omega, by go_num, ⟨.inr ⟨rfl, rfl, H2.out, fun j h hj => HJ.out j h (by omega)⟩⟩, ⟨clb⟩⟩
      case measure => simp [intOf]; omega
    ·have d1 : decide (l[k].To < t) = true := decide_eq_true (by omega)
     clear h1 hf
     go_wp2
     go_roundw
     case rel => exact ⟨k + 1, by omega, by go_num, ⟨.inr ⟨rfl, rfl, H2.out, fun j h hj => HJ.out j h (by omega)⟩⟩, ⟨clb⟩⟩
     case measure => simp [intOf]; omega
  ·obtain rfl : k = l.length := by omega
   rcases HS.out with ⟨rfl, rfl, hs⟩ | ⟨rfl, rfl, h2, hj⟩
   ·rw [List.drop_of_length_le (Nat.le_refl _), startS] at hs
    subst hs
    go_wp2
    go_ret2
    exact ⟨rfl, clb⟩
   ·obtain ⟨r1, r2⟩ := r
    obtain rfl : r2 = true := h2
    clear hj HS
    go_wp2
    go_ret2
    exact ⟨rfl, clb⟩
def lastTo (t : Int) (l : List TWindow) : Nat → Int × Bool
 | 0 => (0, false)
 | k + 1 => if (rdWindow l k).From ≤ t then ((if (rdWindow l k).To < t then (rdWindow l k).To else t), true) else lastTo t l k
def lastS (t : Int) (l : List TWindow) : Int × Bool := lastTo t l l.length
end Go.Proofs.Ytemjpgmfignhnaa
/- Contract: the first error of a list of visits but that of time. The document's look.
Conditions: a lawful problem, at most 200 visits. -/
namespace Go.Proofs.Ytemjpgmfignhnaa
open Go.RowKit Go.Proofs.YtemjpgmfignhnaaW.PrintWords Go.Proofs.YtemjpgmfignhnaaW.PrintLast Go.Proofs.YtemjpgmfignhnaaW.PrintMore
set_option linter.unusedVariables false
set_option linter.unusedSimpArgs false
attribute [local go_sem] cell_growBy Option.some_or
/-- Breaks in their order; how many breaks and tasks, and the skills wanted. -/
def scanS (p : TProblem) : List TVisit → Int → Int → Int → Option (Int × Int × Int)
 | [], n, t, s => some (n, t, s)
 | x :: l, n, t, s => if x.Kind = 4 then (if x.Item = n then scanS p l (n + 1) t s else none) else if x.Kind = 1 ∨ x.Kind = 2 then scanS p l n (t + 1) (bits .or .u64 s (factsS p (taskOf x).1).2) else scanS p l n t s
def toS (p : TProblem) (at_ : Int) (x : TVisit) : Int := if (stopS p x).2 = true then (stopS p x).1.Place else at_
/-- Can each place be reached from the one ahead? -/
def travelS (p : TProblem) (e : Int) : Int → List TVisit → Int
 | at_, [] => if cellS p.Time at_ e < 0 ∨ cellS p.Dist at_ e < 0 then 166 else 0
 | at_, x :: l => if cellS p.Time at_ (toS p at_ x) < 0 ∨ cellS p.Dist at_ (toS p at_ x) < 0 then 166 else travelS p e (toS p at_ x) l
/-- What is told behind the scan. -/
def afterS (p : TProblem) (v : TVehicle) (l : List TVisit) : Option (Int × Int × Int) → Int
 | none => 162
 | some (n, t, s) =>
  if n ≠ v.Breaks.length then 162 else if bits .andNot .u64 s v.Skills ≠ 0 then 163 else if v.MaxTasks < t then 164 else
  if (loadsS p l).all (fun x => underB x v.Cap) = false then 165 else travelS p v.End v.Start l
def firstS (p : TProblem) (v : TVehicle) (l : List TVisit) : Int :=
 if pairsB p l = false then 161 else
 afterS p v l (scanS p l 0 0 0)
theorem scanS_at (p : TProblem) (l : List TVisit) (k : Nat) (h : k < l.length) (n t s : Int) : scanS p (l.drop k) n t s = if l[k].Kind = 4 then (if l[k].Item = n then scanS p (l.drop (k + 1)) (n + 1) t s else none) else if l[k].Kind = 1 ∨ l[k].Kind = 2 then scanS p (l.drop (k + 1)) n (t + 1) (bits .or .u64 s (factsS p (taskOf l[k]).1).2) else scanS p (l.drop (k + 1)) n t s := by
 rw [List.drop_eq_getElem_cons h, scanS]
theorem travelS_at (p : TProblem) (e at_ : Int) (l : List TVisit) (k : Nat) (h : k < l.length) : travelS p e at_ (l.drop k) = if cellS p.Time at_ (toS p at_ l[k]) < 0 ∨ cellS p.Dist at_ (toS p at_ l[k]) < 0 then 166 else travelS p e (toS p at_ l[k]) (l.drop (k + 1)) := by
 rw [List.drop_eq_getElem_cons h, travelS]
theorem atNInts {w : World} {A : Option Addr} {xs : List (List Int)} (h : Kd.C kInts w A xs.length xs) (k : Nat) (hk : k < xs.length) : ∃ ad A' c', A = some ad ∧ w.cell? (ad.add k) = some (.slice A' xs[k].length c') ∧ xs[k].length ≤ c' ∧ Kd.C (Kd.int .i64) w A' xs[k].length xs[k] := by
 obtain ⟨ad, c, e, _, hK, hc0⟩ := Kd.C_get h [] (k : Int) (by omega) (by omega)
 obtain ⟨A', c', rfl, hl, hC⟩ := hK
 have e2 : xs.getD k [] = xs[k] := by simp [List.getElem?_eq_getElem hk]
 simp only [Int.toNat_natCast] at hl hC hc0
 have h0 := hc0 0 _ rfl
 rw [e2] at hl hC h0
 exact ⟨ad, A', c', e, by rw [show k * kInts.sz + 0 = k from by rw [show kInts.sz = 1 from rfl]; omega] at h0; exact h0, hl, hC⟩
set_option maxHeartbeats 16000000 in
set_option maxRecDepth 100000 in
theorem refFirst_any (q : PV) (p : TProblem) (v : TVehicle) (AC AB : Option Addr) (cC cB : Nat) (l : List TVisit) (A : Option Addr) (c : Nat) (w : World) (hlp : Good p) (law : Law p) (hq : q.Ok p w) (hr : Kd.C kVisit w A l.length l) (hl : l.length ≤ 200)
  (hcap : Kd.C (Kd.int .i64) w AC v.Cap.length v.Cap) (hbl : v.Breaks.length ≤ 4) :
  Calls Try.prog 102 #[q.val p, vehVal v AC AB cC cB, .slice A l.length c] w fun e w' => e = .returned (.int .i64 (firstS p v l)) ∧ Below w.heap.size w w' := by
 have HR := Aside0.mk hr
 have HQ := Aside0.mk hq
 have HCAP := Aside0.mk hcap
 have HLP := Aside0.mk hlp
 have LAW := Aside0.mk law
 have HPA := Aside0.mk (fun W (hb : Below w.heap.size w W) => refPairs_any q p l A c W hlp.toLens (hq.below hb) (Kd.C_below hr hb) (by omega))
 have HLO := Aside0.mk (fun W (hb : Below w.heap.size w W) => refLoads_any q p l A c W hlp.toLens law (hq.below hb) (Kd.C_below hr hb) hl)
 have HST := Aside0.mk (fun (x : TVisit) W (hb : Below w.heap.size w W) => refStop_any q p x W hlp.toLens (hq.below hb))
 have HFA := Aside0.mk (fun (t : TTask) W (hb : Below w.heap.size w W) => refFacts_any q p t W hlp.toLens (hq.below hb))
 clear hr hq hcap hlp law
 generalize hfs : firstS p v l = r
 unfold firstS at hfs
 obtain ⟨a1, c1, a2, c2, a3, c3, a4, c4, a5, c5⟩ := q
 unfold PV.val at HPA HLO HST HFA ⊢
 cases hp : pairsB p l
 ·have HP := Aside0.mk hp
  rw [hp, if_pos rfl] at hfs
  subst hfs
  clear hp
  go_enter Try.func102, Try.ntmps102
  go_wp2_with (go_at_call 123; refine (HPA.out _ clb).mono ?_; rw [HP.out]; rintro e w1 ⟨rfl, hb⟩; have HB1 := Aside0.mk hb; obtain ⟨qc1, qf1⟩ := bcell hb; have hs1 := hb.size; (try simp at hs1); (try have z01 : w.heap.size < w1.heap.size := (by omega)); (try have z11 : w.heap.size + 1 < w1.heap.size := (by omega)); (try have z21 : w.heap.size + 1 + 1 < w1.heap.size := (by omega)); (try have z31 : w.heap.size + 1 + 1 + 1 < w1.heap.size := (by omega)); (try have z41 : w.heap.size + 1 + 1 + 1 + 1 < w1.heap.size := (by omega)); clear hs1 hb; skip)
  go_ret
  exact ⟨rfl, clb⟩
 have HP := Aside0.mk hp
 rw [hp, if_neg (by decide)] at hfs
 have HFS : Aside0 (afterS p v l (scanS p (l.drop 0) 0 0 0) = r) := ⟨hfs⟩
 clear hp hfs
 go_enter Try.func102, Try.ntmps102
 go_wp2_with (go_at_call 123; refine (HPA.out _ clb).mono ?_; rw [HP.out]; rintro e w1 ⟨rfl, hb⟩; have HB1 := Aside0.mk hb; obtain ⟨qc1, qf1⟩ := bcell hb; have hs1 := hb.size; (try simp at hs1); (try have z01 : w.heap.size < w1.heap.size := (by omega)); (try have z11 : w.heap.size + 1 < w1.heap.size := (by omega)); (try have z21 : w.heap.size + 1 + 1 < w1.heap.size := (by omega)); (try have z31 : w.heap.size + 1 + 1 + 1 < w1.heap.size := (by omega)); (try have z41 : w.heap.size + 1 + 1 + 1 + 1 < w1.heap.size := (by omega)); clear hs1 hb; skip)
 have HB1' : Aside0 (Below (w.heap.size + 1 + 1) ((w.alloc (.cells #[.int .i64 p.Dims, .int .i64 p.Time.N, .slice a1 p.Time.Cells.length c1, .int .i64 p.Dist.N, .slice a2 p.Dist.Cells.length c2, .slice a3 p.Vehicles.length c3, .slice a4 p.Jobs.length c4, .slice a5 p.Shipments.length c5] 29)).alloc (.cells #[.int .i64 v.Start, .int .i64 v.End, .slice AC v.Cap.length cC, .int .u64 v.Skills, .int .i64 v.Shift.From, .int .i64 v.Shift.To, .int .i64 v.Fixed, .int .i64 v.PerTime, .int .i64 v.PerDist, .int .i64 v.MaxTasks, .slice AB v.Breaks.length cB] 89)) w1) := ⟨by simpa using HB1.out⟩
 clear qc1 qf1
 go_loopw [7, 8, 9, 10] (fun vn vt vs i wr => ∃ (k : Nat) (n t s : Int), k ≤ l.length ∧ i = .int .i64 k ∧ vn = .int .i64 n ∧ vt = .int .i64 t ∧ vs = .int .u64 s ∧ 0 ≤ n ∧ n ≤ k ∧ 0 ≤ t ∧ t ≤ k ∧ Aside0 (afterS p v l (scanS p (l.drop k) n t s) = r) ∧ Aside0 (Below (w.heap.size + 1 + 1) ((w.alloc (.cells #[.int .i64 p.Dims, .int .i64 p.Time.N, .slice a1 p.Time.Cells.length c1, .int .i64 p.Dist.N, .slice a2 p.Dist.Cells.length c2, .slice a3 p.Vehicles.length c3, .slice a4 p.Jobs.length c4, .slice a5 p.Shipments.length c5] 29)).alloc (.cells #[.int .i64 v.Start, .int .i64 v.End, .slice AC v.Cap.length cC, .int .u64 v.Skills, .int .i64 v.Shift.From, .int .i64 v.Shift.To, .int .i64 v.Fixed, .int .i64 v.PerTime, .int .i64 v.PerDist, .int .i64 v.MaxTasks, .slice AB v.Breaks.length cB] 89)) wr)) (fun _ _ _ i _ => l.length - (intOf i).toNat)
 case atStart => exact ⟨0, 0, 0, 0, Nat.zero_le _, rfl, rfl, rfl, rfl, by omega, by omega, by omega, by omega, HFS, HB1'⟩
 case round =>
  clear HFS HB1' HB1
  obtain ⟨k, n, t, s, hk, rfl, rfl, rfl, rfl, hn0, hn1, ht0, ht1, HFS, HW⟩ := hrel
  have HW' : Aside0 (Below ((w.alloc (.cells #[.int .i64 p.Dims, .int .i64 p.Time.N, .slice a1 p.Time.Cells.length c1, .int .i64 p.Dist.N, .slice a2 p.Dist.Cells.length c2, .slice a3 p.Vehicles.length c3, .slice a4 p.Jobs.length c4, .slice a5 p.Shipments.length c5] 29)).alloc (.cells #[.int .i64 v.Start, .int .i64 v.End, .slice AC v.Cap.length cC, .int .u64 v.Skills, .int .i64 v.Shift.From, .int .i64 v.Shift.To, .int .i64 v.Fixed, .int .i64 v.PerTime, .int .i64 v.PerDist, .int .i64 v.MaxTasks, .slice AB v.Breaks.length cB] 89)).heap.size ((w.alloc (.cells #[.int .i64 p.Dims, .int .i64 p.Time.N, .slice a1 p.Time.Cells.length c1, .int .i64 p.Dist.N, .slice a2 p.Dist.Cells.length c2, .slice a3 p.Vehicles.length c3, .slice a4 p.Jobs.length c4, .slice a5 p.Shipments.length c5] 29)).alloc (.cells #[.int .i64 v.Start, .int .i64 v.End, .slice AC v.Cap.length cC, .int .u64 v.Skills, .int .i64 v.Shift.From, .int .i64 v.Shift.To, .int .i64 v.Fixed, .int .i64 v.PerTime, .int .i64 v.PerDist, .int .i64 v.MaxTasks, .slice AB v.Breaks.length cB] 89)) wr) := ⟨by simpa using HW.out⟩
  have HB0 : Aside0 (Below w.heap.size w wr) := ⟨below_to (below_alloc (below_alloc (Below.refl _ _) _) _) HW'.out⟩
  have hszr : w.heap.size + 1 < wr.heap.size := by
   have := HW'.out.size
   simp at this
   omega
  have hszr' : w.heap.size < wr.heap.size := by omega
  obtain ⟨qc, qf⟩ := bcell HW'.out
  by_cases hlt : k < l.length
  ·obtain ⟨ad, ea, x0, x1⟩ := atNVisit (Kd.C_below HR.out HB0.out) k hlt
   subst ea
   have r0 : (0 : Int) ≤ (k : Int) := by omega
   have r1 : (k : Int) < (l.length : Int) := by omega
   have hs := HFS.out
   rw [scanS_at p l k hlt] at hs
   generalize hx : l[k] = x at *
   clear HFS
   by_cases k4 : x.Kind = 4
   ·have d4 : (x.Kind == 4) = true := by simp [k4]
    rw [if_pos k4] at hs
    by_cases e1 : x.Item = n
    ·have d1 : (x.Item != n) = false := by simp [e1]
     rw [if_pos e1] at hs
     have HN := Aside0.mk hs
     clear hs k4 e1
     go_wp2
     go_roundw
     case rel => exact ⟨k + 1, n + 1, t, s, by omega, by go_num, by go_num, rfl, rfl, by omega, by omega, by omega, by omega, HN, HW⟩
     case measure => simp [intOf]; omega
    ·have d1 : (x.Item != n) = true := by simp [e1]
     rw [if_neg e1] at hs
     obtain rfl : (162 : Int) = r := hs
     clear k4 e1
     go_wp2
     go_ret
     exact ⟨rfl, HB0.out⟩
   ·have d4 : (x.Kind == 4) = false := by simp [k4]
    rw [if_neg k4] at hs
    by_cases k12 : x.Kind = 1 ∨ x.Kind = 2
    ·rw [if_pos k12] at hs
     have HN := Aside0.mk hs
     have d12 : (x.Kind == 1) = true ∨ ((x.Kind == 1) = false ∧ (x.Kind == 2) = true) := by
      rcases k12 with h | h
      ·exact .inl (by simp [h])
      ·exact .inr ⟨by simp [h], by simp [h]⟩
     have HB6 := HB0
     clear hs k4 k12
     rcases d12 with d12 | ⟨d12, d13⟩
     all_goals
      go_wp2_with (first
       | (go_at_call 43; refine (refOf_any x _).mono ?_; rintro e w1 ⟨rfl, hb⟩; have HB1 := Aside0.mk hb; obtain ⟨qc1, qf1⟩ := bcell hb; have hs1 := hb.size; (try simp at hs1); (try have z01 : w.heap.size < w1.heap.size := (by omega)); (try have z11 : w.heap.size + 1 < w1.heap.size := (by omega)); (try have z21 : w.heap.size + 1 + 1 < w1.heap.size := (by omega)); (try have z31 : w.heap.size + 1 + 1 + 1 < w1.heap.size := (by omega)); (try have z41 : w.heap.size + 1 + 1 + 1 + 1 < w1.heap.size := (by omega)); clear hs1 hb; have y1_ : wr.heap.size ≤ w1.heap.size := (by have := HB1.out.size; (try simp at this); omega))
       | (go_at_call 42; refine (HFA.out (taskOf x).1 _ clb).mono ?_; rintro e w2 ⟨rfl, hb⟩; have HB2 := Aside0.mk hb))
      go_roundw
      case rel => exact ⟨k + 1, n, t + 1, _, by omega, by go_num, rfl, by go_num, rfl, by omega, by omega, by omega, by omega, HN, ⟨by simpa using below_to HW'.out (show Below wr.heap.size wr _ from clb)⟩⟩
      case measure => simp [intOf]; omega
    ·rw [if_neg k12] at hs
     have HN := Aside0.mk hs
     have d1 : (x.Kind == 1) = false := by simp; omega
     have d2 : (x.Kind == 2) = false := by simp; omega
     clear hs k4 k12
     go_wp2
     go_roundw
     case rel => exact ⟨k + 1, n, t, s, by omega, by go_num, rfl, rfl, rfl, by omega, by omega, by omega, by omega, HN, HW⟩
     case measure => simp [intOf]; omega
  ·obtain rfl : k = l.length := by omega
   have hs := HFS.out
   rw [List.drop_of_length_le (Nat.le_refl _), scanS, afterS] at hs
   clear HFS
   by_cases e1 : n = v.Breaks.length
   rotate_left
   ·have d1 : (n != (v.Breaks.length : Int)) = true := by simp [e1]
    rw [if_pos e1] at hs
    subst hs
    clear e1
    go_wp2
    go_ret
    exact ⟨rfl, HB0.out⟩
   have d1 : (n != (v.Breaks.length : Int)) = false := by simp [e1]
   rw [if_neg (by simpa using e1)] at hs
   by_cases e2 : bits .andNot .u64 s v.Skills = 0
   rotate_left
   ·have d2 : (bits .andNot .u64 s v.Skills != 0) = true := by simp [e2]
    rw [if_pos e2] at hs
    subst hs
    clear e1 e2
    go_wp2
    go_ret
    exact ⟨rfl, HB0.out⟩
   have d2 : (bits .andNot .u64 s v.Skills != 0) = false := by simp [e2]
   rw [if_neg (by simpa using e2)] at hs
   by_cases e3 : v.MaxTasks < t
   ·have d3 : decide (v.MaxTasks < t) = true := decide_eq_true e3
    rw [if_pos e3] at hs
    subst hs
    clear e1 e2 e3
    go_wp2
    go_ret
    exact ⟨rfl, HB0.out⟩
   have d3 : decide (v.MaxTasks < t) = false := decide_eq_false e3
   rw [if_neg e3] at hs
   have HBAD : Aside0 (∀ j (h : j < (loadsS p l).length), underB (loadsS p l)[j] v.Cap = false → r = 165) := ⟨fun j h hb => by
    rw [if_pos (List.all_eq_false.2 ⟨_, List.getElem_mem h, by simp [hb]⟩)] at hs
    exact hs.symm⟩
   have HALL : Aside0 ((∀ j, j < (loadsS p l).length → ∀ h : j < (loadsS p l).length, underB (loadsS p l)[j] v.Cap = true) → travelS p v.End v.Start (l.drop 0) = r) := ⟨fun h => by
    rw [if_neg (by
     have : (loadsS p l).all (fun x => underB x v.Cap) = true := List.all_eq_true.2 (fun x hx => by
      obtain ⟨j, hj, rfl⟩ := List.mem_iff_getElem.1 hx
      exact h j hj hj)
     simp [this])] at hs
    exact hs⟩
   have HB6 := HB0
   clear hs e1 e2 e3
   go_wp2_with (go_at_call 56; refine (HLO.out _ HB0.out).mono ?_; rintro e w2 ⟨A2, k2, rfl, hle2, hC2, hb⟩; have HC2 := Aside0.mk hC2; clear hle2 hC2; have HB2 := Aside0.mk hb; obtain ⟨qc2, qf2⟩ := bcell hb; have hs2 := hb.size; (try simp at hs2); (try have z02 : w.heap.size < w2.heap.size := (by omega)); (try have z12 : w.heap.size + 1 < w2.heap.size := (by omega)); (try have z22 : w.heap.size + 1 + 1 < w2.heap.size := (by omega)); (try have z32 : w.heap.size + 1 + 1 + 1 < w2.heap.size := (by omega)); (try have z42 : w.heap.size + 1 + 1 + 1 + 1 < w2.heap.size := (by omega)); clear hs2 hb; have y2_ : w.heap.size + 1 < w2.heap.size := (by have := HB2.out.size; (try simp at this); omega))
   have hln : (loadsS p l).length ≤ 201 := by simp [loadsS]; omega
   have HLR : Aside0 (∀ x ∈ loadsS p l, x.length ≤ 3) := ⟨fun x hx => by
    simp only [loadsS, List.mem_map] at hx
    obtain ⟨j, _, rfl⟩ := hx
    unfold nowS
    rw [nowAt_length]
    have := LAW.out.d1
    omega⟩
   have HW2 : Aside0 (Below (w.heap.size + 1 + 1) ((w.alloc (.cells #[.int .i64 p.Dims, .int .i64 p.Time.N, .slice a1 p.Time.Cells.length c1, .int .i64 p.Dist.N, .slice a2 p.Dist.Cells.length c2, .slice a3 p.Vehicles.length c3, .slice a4 p.Jobs.length c4, .slice a5 p.Shipments.length c5] 29)).alloc (.cells #[.int .i64 v.Start, .int .i64 v.End, .slice AC v.Cap.length cC, .int .u64 v.Skills, .int .i64 v.Shift.From, .int .i64 v.Shift.To, .int .i64 v.Fixed, .int .i64 v.PerTime, .int .i64 v.PerDist, .int .i64 v.MaxTasks, .slice AB v.Breaks.length cB] 89)) w2) := ⟨by simpa using below_to HW'.out (show Below wr.heap.size wr _ from HB2.out)⟩
   generalize loadsS p l = ls at *
   clear qc2 qf2 HB2 HB6 qc qf hszr hszr' HB0 HW' HW
   go_loopw [16] (fun i wr => ∃ k : Nat, k ≤ ls.length ∧ i = .int .i64 k ∧ Aside0 (∀ j, j < k → ∀ h : j < ls.length, underB ls[j] v.Cap = true) ∧ Aside0 (Below (w.heap.size + 1 + 1) ((w.alloc (.cells #[.int .i64 p.Dims, .int .i64 p.Time.N, .slice a1 p.Time.Cells.length c1, .int .i64 p.Dist.N, .slice a2 p.Dist.Cells.length c2, .slice a3 p.Vehicles.length c3, .slice a4 p.Jobs.length c4, .slice a5 p.Shipments.length c5] 29)).alloc (.cells #[.int .i64 v.Start, .int .i64 v.End, .slice AC v.Cap.length cC, .int .u64 v.Skills, .int .i64 v.Shift.From, .int .i64 v.Shift.To, .int .i64 v.Fixed, .int .i64 v.PerTime, .int .i64 v.PerDist, .int .i64 v.MaxTasks, .slice AB v.Breaks.length cB] 89)) wr) ∧ Aside0 (Below w2.heap.size w2 wr)) (fun i _ => ls.length - (intOf i).toNat)
   case atStart => exact ⟨0, Nat.zero_le _, rfl, ⟨fun j h => absurd h (Nat.not_lt_zero _)⟩, HW2, ⟨Below.refl _ _⟩⟩
   case round =>
    clear HW2
    obtain ⟨k, hk, rfl, HJ, HW, HW3⟩ := hrel
    have HW' : Aside0 (Below ((w.alloc (.cells #[.int .i64 p.Dims, .int .i64 p.Time.N, .slice a1 p.Time.Cells.length c1, .int .i64 p.Dist.N, .slice a2 p.Dist.Cells.length c2, .slice a3 p.Vehicles.length c3, .slice a4 p.Jobs.length c4, .slice a5 p.Shipments.length c5] 29)).alloc (.cells #[.int .i64 v.Start, .int .i64 v.End, .slice AC v.Cap.length cC, .int .u64 v.Skills, .int .i64 v.Shift.From, .int .i64 v.Shift.To, .int .i64 v.Fixed, .int .i64 v.PerTime, .int .i64 v.PerDist, .int .i64 v.MaxTasks, .slice AB v.Breaks.length cB] 89)).heap.size ((w.alloc (.cells #[.int .i64 p.Dims, .int .i64 p.Time.N, .slice a1 p.Time.Cells.length c1, .int .i64 p.Dist.N, .slice a2 p.Dist.Cells.length c2, .slice a3 p.Vehicles.length c3, .slice a4 p.Jobs.length c4, .slice a5 p.Shipments.length c5] 29)).alloc (.cells #[.int .i64 v.Start, .int .i64 v.End, .slice AC v.Cap.length cC, .int .u64 v.Skills, .int .i64 v.Shift.From, .int .i64 v.Shift.To, .int .i64 v.Fixed, .int .i64 v.PerTime, .int .i64 v.PerDist, .int .i64 v.MaxTasks, .slice AB v.Breaks.length cB] 89)) wr) := ⟨by simpa using HW.out⟩
    have HB0 : Aside0 (Below w.heap.size w wr) := ⟨below_to (below_alloc (below_alloc (Below.refl _ _) _) _) HW'.out⟩
    have hszr : w.heap.size + 1 < wr.heap.size := by
     have := HW'.out.size
     simp at this
     omega
    have hszr' : w.heap.size < wr.heap.size := by omega
    obtain ⟨qc, qf⟩ := bcell HW'.out
    by_cases hkl : k < ls.length
    ·obtain ⟨ad', A3, k3, ea', y0, -, g3⟩ := atNInts (Kd.C_below HC2.out HW3.out) k hkl
     subst ea'
     have r0 : (0 : Int) ≤ (k : Int) := by omega
     have r1 : (k : Int) < (ls.length : Int) := by omega
     have HUN := Aside0.mk (fun W (hb : Below wr.heap.size wr W) => refUnder_any ls[k] v.Cap A3 AC k3 cC W (Kd.C_below g3 hb) (Kd.C_below HCAP.out (below_to HB0.out hb)) (by have := HLR.out _ (List.getElem_mem hkl); omega))
     cases hu : underB ls[k] v.Cap
     ·have er := HBAD.out k hkl hu
      subst er
      clear g3 HBAD
      go_wp2
      refine wp_region_grow (by kernel_rfl) (by kernel_rfl) ?_
      repeat (go_big_quiet_step ((go_at_call 60; exact grow_of (HUN.out _ (growBy_below _ _)))))
      refine wpQuiet_nil ?_
      intro w3 hw'
      have hb := grow_end hw'
      clear hw'
      have HB3 := Aside0.mk hb; obtain ⟨qc3, qf3⟩ := bcell hb; have hs3 := hb.size; (try simp at hs3); (try have z03 : w.heap.size < w3.heap.size := (by omega)); (try have z13 : w.heap.size + 1 < w3.heap.size := (by omega)); (try have z23 : w.heap.size + 1 + 1 < w3.heap.size := (by omega)); (try have z33 : w.heap.size + 1 + 1 + 1 < w3.heap.size := (by omega)); (try have z43 : w.heap.size + 1 + 1 + 1 + 1 < w3.heap.size := (by omega)); clear hs3 hb
      go_wp2
      go_ret
      exact ⟨rfl, below_to HB0.out HB3.out⟩
     ·have HN := Aside0.mk hu
      clear g3 HBAD
      go_wp2
      refine wp_region_grow (by kernel_rfl) (by kernel_rfl) ?_
      repeat (go_big_quiet_step ((go_at_call 60; exact grow_of (HUN.out _ (growBy_below _ _)))))
      refine wpQuiet_nil ?_
      intro w3 hw'
      have hb := grow_end hw'
      clear hw'
      have HB3 := Aside0.mk hb; obtain ⟨qc3, qf3⟩ := bcell hb; have hs3 := hb.size; (try simp at hs3); (try have z03 : w.heap.size < w3.heap.size := (by omega)); (try have z13 : w.heap.size + 1 < w3.heap.size := (by omega)); (try have z23 : w.heap.size + 1 + 1 < w3.heap.size := (by omega)); (try have z33 : w.heap.size + 1 + 1 + 1 < w3.heap.size := (by omega)); (try have z43 : w.heap.size + 1 + 1 + 1 + 1 < w3.heap.size := (by omega)); clear hs3 hb
      go_wp2
      go_roundw
      case rel => exact ⟨k + 1, by omega, by go_num, ⟨all_succ HJ.out (fun _ => HN.out)⟩, ⟨by simpa using below_to HW'.out (show Below wr.heap.size wr _ from HB3.out)⟩, ⟨below_to HW3.out HB3.out⟩⟩
      case measure => simp [intOf]; omega
    ·obtain rfl : k = ls.length := by omega
     have HTR := Aside0.mk (HALL.out HJ.out)
     have hbx := HB0
     clear HALL HBAD HJ hkl HW3 HLR
     have hM1 := Aside0.mk (fun (i j : Int) W (hb : Below w.heap.size w W) => refCell_any p.Time a1 c1 i j W (matOk_of LAW.out.mt LAW.out.n0 LAW.out.n1) (HQ.out.below hb).h1)
     have hM2 := Aside0.mk (fun (i j : Int) W (hb : Below w.heap.size w W) => refCell_any p.Dist a2 c2 i j W (matOk_of LAW.out.md LAW.out.n0 LAW.out.n1) (HQ.out.below hb).h2)
     go_wp2
     have HWa := HW
     clear HW HW' HB0 hszr hszr' qc qf hbx
     go_loopw [17, 18] (fun va vi wr => ∃ (k : Nat) (a : Int), k ≤ l.length + 1 ∧ vi = .int .i64 k ∧ va = .int .i64 a ∧ Aside0 ((k ≤ l.length ∧ travelS p v.End a (l.drop k) = r) ∨ (k = l.length + 1 ∧ r = 0)) ∧ Aside0 (Below (w.heap.size + 1 + 1) ((w.alloc (.cells #[.int .i64 p.Dims, .int .i64 p.Time.N, .slice a1 p.Time.Cells.length c1, .int .i64 p.Dist.N, .slice a2 p.Dist.Cells.length c2, .slice a3 p.Vehicles.length c3, .slice a4 p.Jobs.length c4, .slice a5 p.Shipments.length c5] 29)).alloc (.cells #[.int .i64 v.Start, .int .i64 v.End, .slice AC v.Cap.length cC, .int .u64 v.Skills, .int .i64 v.Shift.From, .int .i64 v.Shift.To, .int .i64 v.Fixed, .int .i64 v.PerTime, .int .i64 v.PerDist, .int .i64 v.MaxTasks, .slice AB v.Breaks.length cB] 89)) wr)) (fun _ vi _ => l.length + 1 - (intOf vi).toNat)
     case atStart => exact ⟨0, v.Start, by omega, rfl, rfl, ⟨.inl ⟨by omega, HTR.out⟩⟩, HWa⟩
     case round =>
      clear HTR HWa
      obtain ⟨k, a, hk, rfl, rfl, HT, HW⟩ := hrel
      have HW' : Aside0 (Below ((w.alloc (.cells #[.int .i64 p.Dims, .int .i64 p.Time.N, .slice a1 p.Time.Cells.length c1, .int .i64 p.Dist.N, .slice a2 p.Dist.Cells.length c2, .slice a3 p.Vehicles.length c3, .slice a4 p.Jobs.length c4, .slice a5 p.Shipments.length c5] 29)).alloc (.cells #[.int .i64 v.Start, .int .i64 v.End, .slice AC v.Cap.length cC, .int .u64 v.Skills, .int .i64 v.Shift.From, .int .i64 v.Shift.To, .int .i64 v.Fixed, .int .i64 v.PerTime, .int .i64 v.PerDist, .int .i64 v.MaxTasks, .slice AB v.Breaks.length cB] 89)).heap.size ((w.alloc (.cells #[.int .i64 p.Dims, .int .i64 p.Time.N, .slice a1 p.Time.Cells.length c1, .int .i64 p.Dist.N, .slice a2 p.Dist.Cells.length c2, .slice a3 p.Vehicles.length c3, .slice a4 p.Jobs.length c4, .slice a5 p.Shipments.length c5] 29)).alloc (.cells #[.int .i64 v.Start, .int .i64 v.End, .slice AC v.Cap.length cC, .int .u64 v.Skills, .int .i64 v.Shift.From, .int .i64 v.Shift.To, .int .i64 v.Fixed, .int .i64 v.PerTime, .int .i64 v.PerDist, .int .i64 v.MaxTasks, .slice AB v.Breaks.length cB] 89)) wr) := ⟨by simpa using HW.out⟩
      have HB0 : Aside0 (Below w.heap.size w wr) := ⟨below_to (below_alloc (below_alloc (Below.refl _ _) _) _) HW'.out⟩
      have hszr : w.heap.size + 1 < wr.heap.size := by
       have := HW'.out.size
       simp at this
       omega
      have hszr' : w.heap.size < wr.heap.size := by omega
      obtain ⟨qc, qf⟩ := bcell HW'.out
      by_cases hk1 : k < l.length
      ·have hs : travelS p v.End a (l.drop k) = r := by
        rcases HT.out with ⟨_, h⟩ | ⟨h, _⟩
        ·exact h
        ·omega
       rw [travelS_at p v.End a l k hk1] at hs
       obtain ⟨ad2, ea2, x0, x1⟩ := atNVisit (Kd.C_below HR.out HB0.out) k hk1
       subst ea2
       have r0 : (0 : Int) ≤ (k : Int) := by omega
       have r1 : (k : Int) < (l.length : Int) := by omega
       generalize hx : l[k] = x at *
       have hba := World.block_lt_of_cell? _ _ x0
       have hbb : (⟨(ad2.add (k * 2)).block, (ad2.add (k * 2)).off + 1, none⟩ : Addr).block < wr.heap.size := hba
       have HSX := Aside0.mk hs
       clear HT hs
       go_upto_if 114 with fail
       go_cut [19] (fun s19 wx => ∃ t' : Int, s19 = .int .i64 t' ∧ Aside0 (t' = toS p a x) ∧ Aside0 (Below wr.heap.size wr wx))
       case first =>
        clear HSX
        go_wp2_with fail
        go_region_held3 (fun W' => Below wr.heap.size wr W' ∧ ∀ a : Addr, a.block < wr.heap.size → W'.cell? a = wr.cell? a) (first | exact hl_start _ | exact hl_of (by repeat (first | exact Below.refl _ _ | apply below_alloc | apply below_drew | (refine Below.setCell ?_ (by first | (simp; done) | (simp; omega) | (dsimp only; omega)) _) | (refine below_to ?_ (by assumption)))))
          (first
           | (go_at_call 37; refine (HST.out x _ (below_to HB0.out (And.left (show Below wr.heap.size wr _ ∧ _ from by assumption)))).mono ?_; rintro e w2 ⟨A1, k1, rfl, hle1, hC1, hb⟩; obtain ⟨qcs, qfs⟩ := bcell hb; clear hle1 hC1))
        all_goals
         cases hs2 : (stopS p x).2
         ·have et := Aside0.mk (show a = toS p a x by simp [toS, hs2])
          go_wp2_with fail
          go_meet
          exact ⟨_, rfl, et, ⟨chm⟩⟩
         ·have et := Aside0.mk (show (stopS p x).1.Place = toS p a x by simp [toS, hs2])
          go_wp2_with fail
          go_meet
          exact ⟨_, rfl, et, ⟨chm⟩⟩
       case rest =>
        obtain ⟨t', rfl, HET, HBc⟩ := hcut
        have HBc0 : Aside0 (Below w.heap.size w wc) := ⟨below_to HB0.out HBc.out⟩
        obtain ⟨qcc, qfc⟩ := bcell HBc.out
        have zca : w.heap.size < wc.heap.size := Nat.lt_of_lt_of_le hszr' HBc.out.size
        have zcb : w.heap.size + 1 < wc.heap.size := Nat.lt_of_lt_of_le hszr HBc.out.size
        have hs := HSX.out
        rw [← HET.out] at hs
        clear HSX HET x0 x1 hba hbb
        by_cases c1' : cellS p.Time a t' < 0
        ·have dc1 : decide (cellS p.Time a t' < 0) = true := decide_eq_true c1'
         rw [if_pos (.inl c1')] at hs
         subst hs
         clear c1'
         go_wp2_with (first
          | (go_at_call 31; with_reducible refine (hM1.out a t' _ (below_to HBc0.out chm)).mono ?_; rintro e w4 ⟨rfl, hb⟩; obtain ⟨qc4, qf4⟩ := bcell hb; have z4a : w.heap.size < w4.heap.size := (by have := hb.size; omega); have z4b : w.heap.size + 1 < w4.heap.size := (by have := hb.size; omega); have HB4 := Aside0.mk hb; clear hb)
          | (go_at_call 31; with_reducible refine (hM2.out a t' _ (below_to HBc0.out HB4.out)).mono ?_; rintro e w5 ⟨rfl, hb⟩; obtain ⟨qc5, qf5⟩ := bcell hb; have z5a : w.heap.size < w5.heap.size := (by have := hb.size; omega); have z5b : w.heap.size + 1 < w5.heap.size := (by have := hb.size; omega); have HB5 := Aside0.mk hb; clear hb))
         go_ret
         exact ⟨rfl, below_to HBc0.out HB4.out⟩
        have dc1 : decide (cellS p.Time a t' < 0) = false := decide_eq_false c1'
        by_cases c2' : cellS p.Dist a t' < 0
        ·have dc2 : decide (cellS p.Dist a t' < 0) = true := decide_eq_true c2'
         rw [if_pos (.inr c2')] at hs
         subst hs
         clear c1' c2'
         go_wp2_with (first
          | (go_at_call 31; with_reducible refine (hM1.out a t' _ (below_to HBc0.out chm)).mono ?_; rintro e w4 ⟨rfl, hb⟩; obtain ⟨qc4, qf4⟩ := bcell hb; have z4a : w.heap.size < w4.heap.size := (by have := hb.size; omega); have z4b : w.heap.size + 1 < w4.heap.size := (by have := hb.size; omega); have HB4 := Aside0.mk hb; clear hb)
          | (go_at_call 31; with_reducible refine (hM2.out a t' _ (below_to HBc0.out HB4.out)).mono ?_; rintro e w5 ⟨rfl, hb⟩; obtain ⟨qc5, qf5⟩ := bcell hb; have z5a : w.heap.size < w5.heap.size := (by have := hb.size; omega); have z5b : w.heap.size + 1 < w5.heap.size := (by have := hb.size; omega); have HB5 := Aside0.mk hb; clear hb))
         go_ret
         exact ⟨rfl, below_to (below_to HBc0.out HB4.out) HB5.out⟩
        have dc2 : decide (cellS p.Dist a t' < 0) = false := decide_eq_false c2'
        rw [if_neg (fun h => h.elim c1' c2')] at hs
        have HN := Aside0.mk hs
        clear hs c1' c2'
        go_wp2_with (first
         | (go_at_call 31; with_reducible refine (hM1.out a t' _ (below_to HBc0.out chm)).mono ?_; rintro e w4 ⟨rfl, hb⟩; obtain ⟨qc4, qf4⟩ := bcell hb; have z4a : w.heap.size < w4.heap.size := (by have := hb.size; omega); have z4b : w.heap.size + 1 < w4.heap.size := (by have := hb.size; omega); have HB4 := Aside0.mk hb; clear hb)
         | (go_at_call 31; with_reducible refine (hM2.out a t' _ (below_to HBc0.out HB4.out)).mono ?_; rintro e w5 ⟨rfl, hb⟩; obtain ⟨qc5, qf5⟩ := bcell hb; have z5a : w.heap.size < w5.heap.size := (by have := hb.size; omega); have z5b : w.heap.size + 1 < w5.heap.size := (by have := hb.size; omega); have HB5 := Aside0.mk hb; clear hb))
        go_roundw
        case rel => exact ⟨k + 1, t', by omega, by go_num, rfl, ⟨.inl ⟨by omega, HN.out⟩⟩, ⟨by simpa using below_to HW'.out (show Below wr.heap.size wr _ from below_to (below_to HBc.out HB4.out) HB5.out)⟩⟩
        case measure => simp [intOf]; omega
      by_cases hk2 : k = l.length
      ·have hs : travelS p v.End a (l.drop k) = r := by
        rcases HT.out with ⟨_, h⟩ | ⟨h, _⟩
        ·exact h
        ·omega
       rw [hk2, List.drop_of_length_le (Nat.le_refl _), travelS] at hs
       subst hk2
       have HBc0 := HB0
       clear HT hk1
       by_cases c1' : cellS p.Time a v.End < 0
       ·have dc1 : decide (cellS p.Time a v.End < 0) = true := decide_eq_true c1'
        rw [if_pos (.inl c1')] at hs
        subst hs
        clear c1'
        go_wp2_with (first
         | (go_at_call 31; with_reducible refine (hM1.out a v.End _ (below_to HBc0.out chm)).mono ?_; rintro e w4 ⟨rfl, hb⟩; obtain ⟨qc4, qf4⟩ := bcell hb; have z4a : w.heap.size < w4.heap.size := (by have := hb.size; omega); have z4b : w.heap.size + 1 < w4.heap.size := (by have := hb.size; omega); have HB4 := Aside0.mk hb; clear hb)
         | (go_at_call 31; with_reducible refine (hM2.out a v.End _ (below_to HBc0.out HB4.out)).mono ?_; rintro e w5 ⟨rfl, hb⟩; obtain ⟨qc5, qf5⟩ := bcell hb; have z5a : w.heap.size < w5.heap.size := (by have := hb.size; omega); have z5b : w.heap.size + 1 < w5.heap.size := (by have := hb.size; omega); have HB5 := Aside0.mk hb; clear hb))
        go_ret
        exact ⟨rfl, below_to HBc0.out HB4.out⟩
       have dc1 : decide (cellS p.Time a v.End < 0) = false := decide_eq_false c1'
       by_cases c2' : cellS p.Dist a v.End < 0
       ·have dc2 : decide (cellS p.Dist a v.End < 0) = true := decide_eq_true c2'
        rw [if_pos (.inr c2')] at hs
        subst hs
        clear c1' c2'
        go_wp2_with (first
         | (go_at_call 31; with_reducible refine (hM1.out a v.End _ (below_to HBc0.out chm)).mono ?_; rintro e w4 ⟨rfl, hb⟩; obtain ⟨qc4, qf4⟩ := bcell hb; have z4a : w.heap.size < w4.heap.size := (by have := hb.size; omega); have z4b : w.heap.size + 1 < w4.heap.size := (by have := hb.size; omega); have HB4 := Aside0.mk hb; clear hb)
         | (go_at_call 31; with_reducible refine (hM2.out a v.End _ (below_to HBc0.out HB4.out)).mono ?_; rintro e w5 ⟨rfl, hb⟩; obtain ⟨qc5, qf5⟩ := bcell hb; have z5a : w.heap.size < w5.heap.size := (by have := hb.size; omega); have z5b : w.heap.size + 1 < w5.heap.size := (by have := hb.size; omega); have HB5 := Aside0.mk hb; clear hb))
        go_ret
        exact ⟨rfl, below_to (below_to HBc0.out HB4.out) HB5.out⟩
       have dc2 : decide (cellS p.Dist a v.End < 0) = false := decide_eq_false c2'
       rw [if_neg (fun h => h.elim c1' c2')] at hs
       have HN := Aside0.mk hs
       clear hs c1' c2'
       go_wp2_with (first
        | (go_at_call 31; with_reducible refine (hM1.out a v.End _ (below_to HBc0.out chm)).mono ?_; rintro e w4 ⟨rfl, hb⟩; obtain ⟨qc4, qf4⟩ := bcell hb; have z4a : w.heap.size < w4.heap.size := (by have := hb.size; omega); have z4b : w.heap.size + 1 < w4.heap.size := (by have := hb.size; omega); have HB4 := Aside0.mk hb; clear hb)
        | (go_at_call 31; with_reducible refine (hM2.out a v.End _ (below_to HBc0.out HB4.out)).mono ?_; rintro e w5 ⟨rfl, hb⟩; obtain ⟨qc5, qf5⟩ := bcell hb; have z5a : w.heap.size < w5.heap.size := (by have := hb.size; omega); have z5b : w.heap.size + 1 < w5.heap.size := (by have := hb.size; omega); have HB5 := Aside0.mk hb; clear hb))
       go_roundw
       case rel => exact ⟨l.length + 1, v.End, by omega, by go_num, rfl, ⟨.inr ⟨by omega, HN.out.symm⟩⟩, ⟨by simpa using below_to HW'.out (show Below wr.heap.size wr _ from below_to HB4.out HB5.out)⟩⟩
       case measure => first | (simp [intOf]; done) | (simp [intOf]; omega)
      ·obtain rfl : k = l.length + 1 := by omega
       have er : r = 0 := by
        rcases HT.out with ⟨h, _⟩ | ⟨_, h⟩
        ·omega
        ·exact h
       subst er
       go_wp2
       go_ret
       exact ⟨rfl, HB0.out⟩
end Go.Proofs.Ytemjpgmfignhnaa

/- The plan of a list of visits, in plain words, and how great its numbers are.
Conditions: none. -/
namespace Go.Proofs.Ytemjpgmfignhnaa
open Go.RowKit Go.Proofs.YtemjpgmfignhnaaW.PrintWords Go.Proofs.YtemjpgmfignhnaaW.PrintLast Go.Proofs.YtemjpgmfignhnaaW.PrintMore
set_option linter.unusedVariables false
set_option linter.unusedSimpArgs false
def stopAt (p : TProblem) (v : TVehicle) (at_ : Int) (x : TVisit) : TStop := if (stopS p x).2 = true then (stopS p x).1 else ⟨at_, (rdBreak v.Breaks x.Item).Service, (rdBreak v.Breaks x.Item).Windows⟩
structure TS where
 leave : Int
 at_ : Int
 tm : Int
 di : Int
 wt : Int
 se : Int
 steps : List TStep
def comeS (p : TProblem) (v : TVehicle) (x : TVisit) (s : TS) : Int := s.leave + cellS p.Time s.at_ (stopAt p v s.at_ x).Place
def beginS (p : TProblem) (v : TVehicle) (x : TVisit) (s : TS) : Int := (startS (comeS p v x s) (stopAt p v s.at_ x).Windows).1
def nextS (p : TProblem) (v : TVehicle) (ls : List (List Int)) (i : Nat) (x : TVisit) (s : TS) : TS :=
 ⟨beginS p v x s + (stopAt p v s.at_ x).Service, (stopAt p v s.at_ x).Place, s.tm + cellS p.Time s.at_ (stopAt p v s.at_ x).Place, s.di + cellS p.Dist s.at_ (stopAt p v s.at_ x).Place, s.wt + beginS p v x s - comeS p v x s, s.se + (stopAt p v s.at_ x).Service,
  s.steps ++ [⟨x, (stopAt p v s.at_ x).Place, comeS p v x s, beginS p v x s - comeS p v x s, (stopAt p v s.at_ x).Service, ls.getD (i + 1) [], s.tm + cellS p.Time s.at_ (stopAt p v s.at_ x).Place, s.di + cellS p.Dist s.at_ (stopAt p v s.at_ x).Place⟩]⟩
def goS (p : TProblem) (v : TVehicle) (ls : List (List Int)) : List TVisit → Nat → TS → Option TS
 | [], _, s => some s
 | x :: l, i, s => if (startS (comeS p v x s) (stopAt p v s.at_ x).Windows).2 = true then goS p v ls l (i + 1) (nextS p v ls i x s) else none
def beginTS (v : TVehicle) (ls : List (List Int)) : TS := ⟨v.Shift.From, v.Start, 0, 0, 0, 0, [⟨⟨5, 0⟩, v.Start, v.Shift.From, 0, 0, ls.getD 0 [], 0, 0⟩]⟩
def endS (p : TProblem) (v : TVehicle) (vehicle : Int) (ls : List (List Int)) (n : Nat) (s : TS) : TPlan × Int :=
 if v.Shift.To < s.leave + cellS p.Time s.at_ v.End then (zPlan, 167) else
 (⟨vehicle, s.steps ++ [⟨⟨6, 0⟩, v.End, s.leave + cellS p.Time s.at_ v.End, 0, 0, ls.getD n [], s.tm + cellS p.Time s.at_ v.End, s.di + cellS p.Dist s.at_ v.End⟩], s.tm + cellS p.Time s.at_ v.End, s.di + cellS p.Dist s.at_ v.End, s.wt, s.se,
  v.Fixed + (s.tm + cellS p.Time s.at_ v.End) * v.PerTime + (s.di + cellS p.Dist s.at_ v.End) * v.PerDist⟩, 0)
def runS (p : TProblem) (v : TVehicle) (vehicle : Int) (l : List TVisit) : Option TS → TPlan × Int
 | none => (zPlan, 167)
 | some s => endS p v vehicle (loadsS p l) l.length s
def ofS (p : TProblem) (vehicle : Int) (l : List TVisit) : TPlan × Int :=
 if vehicle < 0 ∨ (p.Vehicles.length : Int) ≤ vehicle then (zPlan, 160) else
 if firstS p (rdVehicle p.Vehicles vehicle) l ≠ 0 then (zPlan, firstS p (rdVehicle p.Vehicles vehicle) l) else
 runS p (rdVehicle p.Vehicles vehicle) vehicle l (goS p (rdVehicle p.Vehicles vehicle) (loadsS p l) l 0 (beginTS (rdVehicle p.Vehicles vehicle) (loadsS p l)))
theorem goS_at (p : TProblem) (v : TVehicle) (ls : List (List Int)) (l : List TVisit) (k : Nat) (h : k < l.length) (i : Nat) (s : TS) : goS p v ls (l.drop k) i s = if (startS (comeS p v l[k] s) (stopAt p v s.at_ l[k]).Windows).2 = true then goS p v ls (l.drop (k + 1)) (i + 1) (nextS p v ls i l[k] s) else none := by
 rw [List.drop_eq_getElem_cons h, goS]
theorem cellsOk_all (n : Int) : ∀ (l : List Int) (t : Nat), cellsOk n t l = true → ∀ c ∈ l, -1 ≤ c ∧ c ≤ 32000000
 | [], _, _, _, hc => by cases hc
 | x :: l, t, h, c, hc => by
  simp only [cellsOk, Bool.and_eq_true] at h
  rcases List.mem_cons.1 hc with rfl | hc
  ·have := h.1
   simp only [okCell, Bool.not_eq_true', Bool.or_eq_false_iff, decide_eq_false_iff_not] at this
   omega
  ·exact cellsOk_all n l (t + 1) h.2 c hc
theorem cellS_le {m : TMatrix} {n : Int} (h : matrixB m n = true) (h0 : 1 ≤ n) (h1 : n ≤ 32) (i j : Int) : -1 ≤ cellS m i j ∧ cellS m i j ≤ 32000000 := by
 have hm := matOk_of h h0 h1
 simp only [matrixB, Bool.and_eq_true, decide_eq_true_eq] at h
 unfold cellS
 split
 ·rename_i hu
  simp only [Bool.and_eq_true] at hu
  have hi := upB_true hu.1
  have hj := upB_true hu.2
  obtain ⟨m0, m1, m2⟩ := cell_in hm.lo hi.1 hi.2 hj.1 hj.2 hm.hi
  have hlt : (i * m.N + j).toNat < m.Cells.length := by have := hm.len; omega
  have e : rd m.Cells (i * m.N + j) = m.Cells[(i * m.N + j).toNat] := by simp [rd, List.getElem?_eq_getElem hlt]
  rw [e]
  exact cellsOk_all n _ _ h.2 _ (List.getElem_mem _)
 ·omega
theorem Law.time {p : TProblem} (h : Law p) (i j : Int) : -1 ≤ cellS p.Time i j ∧ cellS p.Time i j ≤ 32000000 := cellS_le h.mt h.n0 h.n1 i j
theorem Law.dist {p : TProblem} (h : Law p) (i j : Int) : -1 ≤ cellS p.Dist i j ∧ cellS p.Dist i j ≤ 32000000 := cellS_le h.md h.n0 h.n1 i j
/-- A lawful vehicle, in plain words. -/
structure VehOk (p : TProblem) (v : TVehicle) : Prop where
 brl : v.Breaks.length ≤ 2
 brk : ∀ b ∈ v.Breaks, windowsB b.Windows = true ∧ 0 ≤ b.Service ∧ b.Service ≤ 1000000
 cap : amountsS v.Cap p.Dims = 0
 shift : 0 ≤ v.Shift.From ∧ v.Shift.From ≤ v.Shift.To ∧ v.Shift.To ≤ 1000000
 st : 0 ≤ v.Start ∧ v.Start ≤ p.Time.N - 1
 en : 0 ≤ v.End ∧ v.End ≤ p.Time.N - 1
 fx : 0 ≤ v.Fixed ∧ v.Fixed ≤ 1000000
 pt : 0 ≤ v.PerTime ∧ v.PerTime ≤ 1000000
 pd : 0 ≤ v.PerDist ∧ v.PerDist ≤ 1000000
 mx : 0 ≤ v.MaxTasks ∧ v.MaxTasks ≤ 12
theorem rdVeh_mem (l : List TVehicle) (i : Int) (h0 : 0 ≤ i) (h1 : i < l.length) : rdVehicle l i ∈ l := by
 have : rdVehicle l i = l[i.toNat]'(by omega) := by simp [rdVehicle, List.getElem?_eq_getElem (show i.toNat < l.length by omega)]
 rw [this]
 exact List.getElem_mem _
theorem Law.veh {p : TProblem} (h : Law p) (v : TVehicle) (hv : v ∈ p.Vehicles) : VehOk p v := by
 have hb := h.gv _ hv
 simp only [vehicleB, breaksB, breakB, Bool.and_eq_true, decide_eq_true_eq, List.all_eq_true] at hb
 obtain ⟨⟨⟨⟨⟨⟨⟨⟨⟨⟨h1, h2⟩, h3⟩, h4⟩, h5⟩, h6⟩, h7⟩, h8⟩, h9⟩, h10⟩, h11⟩ := hb
 have hw := winOk_of h7
 have h0 := hw.pos 0 (by simp)
 simp only [List.getElem_cons_zero] at h0
 exact ⟨h1, fun b hb' => ⟨(h2 b hb').1, upB_true (h2 b hb').2⟩, h5, h0, upB_true h3, upB_true h4, upB_true h8, upB_true h9, upB_true h10, upB_true h11⟩
/-! ### who has passed the look for the first error -/
theorem scanS_brk (p : TProblem) : ∀ (l : List TVisit) (n t s : Int) (r : Int × Int × Int), scanS p l n t s = some r → n ≤ r.1 ∧ ∀ x ∈ l, x.Kind = 4 → n ≤ x.Item ∧ x.Item < r.1
 | [], n, t, s, r, h => by
  simp only [scanS, Option.some.injEq] at h
  subst h
  exact ⟨Int.le_refl _, fun x hx => by cases hx⟩
 | y :: l, n, t, s, r, h => by
  unfold scanS at h
  split at h
  ·split at h
   ·rename_i h4 he
    obtain ⟨a, b⟩ := scanS_brk p l _ _ _ r h
    refine ⟨by omega, fun x hx k4 => ?_⟩
    rcases List.mem_cons.1 hx with rfl | hx
    ·omega
    ·have := b x hx k4
     omega
   ·cases h
  ·rename_i h4
   have key : ∀ t' s', scanS p l n t' s' = some r → n ≤ r.1 ∧ ∀ x ∈ y :: l, x.Kind = 4 → n ≤ x.Item ∧ x.Item < r.1 := fun t' s' h => by
    obtain ⟨a, b⟩ := scanS_brk p l _ _ _ r h
    refine ⟨a, fun x hx k4 => ?_⟩
    rcases List.mem_cons.1 hx with rfl | hx
    ·exact absurd k4 h4
    ·exact b x hx k4
   split at h
   ·exact key _ _ h
   ·exact key _ _ h
structure FirstOk (p : TProblem) (v : TVehicle) (l : List TVisit) : Prop where
 pairs : pairsB p l = true
 scan : ∃ t s, scanS p l 0 0 0 = some ((v.Breaks.length : Int), t, s) ∧ bits .andNot .u64 s v.Skills = 0 ∧ t ≤ v.MaxTasks
 loads : ∀ x ∈ loadsS p l, underB x v.Cap = true
 travel : travelS p v.End v.Start l = 0
theorem firstOk_of {p : TProblem} {v : TVehicle} {l : List TVisit} (h : firstS p v l = 0) : FirstOk p v l := by
 unfold firstS at h
 split at h
 ·cases h
 ·rename_i hp
  cases hs : scanS p l 0 0 0 with
  | none =>
   rw [hs] at h
   cases h
  | some r =>
   obtain ⟨n, t, s⟩ := r
   rw [hs, afterS] at h
   split at h
   ·cases h
   ·split at h
    ·cases h
    ·split at h
     ·cases h
     ·split at h
      ·cases h
      ·rename_i a b c d
       obtain rfl : n = v.Breaks.length := by simpa using a
       refine ⟨by simpa using hp, ⟨t, s, hs, by simpa using b, by omega⟩, fun x hx => ?_, h⟩
       simp only [Bool.not_eq_false, List.all_eq_true] at d
       exact d x hx
theorem FirstOk.brk {p : TProblem} {v : TVehicle} {l : List TVisit} (h : FirstOk p v l) (x : TVisit) (hx : x ∈ l) (hs : (stopS p x).2 = false) : x.Kind = 4 ∧ 0 ≤ x.Item ∧ x.Item < v.Breaks.length := by
 obtain ⟨t, s, h1, _⟩ := h.scan
 obtain ⟨_, h2⟩ := scanS_brk p l 0 0 0 _ h1
 obtain ⟨k, hk, rfl⟩ := List.mem_iff_getElem.1 hx
 have hp := h.pairs
 unfold pairsB at hp
 have := List.all_eq_true.1 hp k (List.mem_range.2 hk)
 unfold pairAt at this
 rw [rdVisit_nat l k hk, hs] at this
 have k4 : l[k].Kind = 4 := by simpa using this
 exact ⟨k4, h2 _ hx k4⟩
/-- Where a visit is and when: lawful in any case. -/
theorem stopAt_ok {p : TProblem} (law : Law p) {v : TVehicle} (hv : VehOk p v) {l : List TVisit} (h : FirstOk p v l) (at_ : Int) (x : TVisit) (hx : x ∈ l) :
  windowsB (stopAt p v at_ x).Windows = true ∧ 0 ≤ (stopAt p v at_ x).Service ∧ (stopAt p v at_ x).Service ≤ 1000000 := by
 unfold stopAt
 cases hs : (stopS p x).2 with
 | true =>
  have := law.stopB hs
  simp only [stopB, Bool.and_eq_true] at this
  exact ⟨this.2, upB_true this.1.2⟩
 | false =>
  obtain ⟨_, h0, h1⟩ := h.brk x hx hs
  have e : rdBreak v.Breaks x.Item = v.Breaks[x.Item.toNat]'(by omega) := by simp [rdBreak, List.getElem?_eq_getElem (show x.Item.toNat < v.Breaks.length by omega)]
  simp only [Bool.false_eq_true, if_false]
  rw [e]
  exact hv.brk _ (List.getElem_mem _)
theorem startS_ok {l : List TWindow} (hw : WinOk l) {t : Int} (h : (startS t l).2 = true) : t ≤ (startS t l).1 ∧ 0 ≤ (startS t l).1 ∧ (startS t l).1 ≤ 1000000 := by
 have key : ∀ (k : Nat), (startS t (l.drop k)).2 = true → t ≤ (startS t (l.drop k)).1 ∧ 0 ≤ (startS t (l.drop k)).1 ∧ (startS t (l.drop k)).1 ≤ 1000000 := by
  intro k
  generalize hm : l.length - k = m
  induction m generalizing k with
  | zero =>
   intro h
   rw [List.drop_of_length_le (by omega), startS] at h
   cases h
  | succ m ih =>
   intro h
   have hk : k < l.length := by omega
   rw [startS_at t l k hk] at h ⊢
   have hp := hw.pos k hk
   split
   ·split <;> simp only <;> omega
   ·rename_i hn
    rw [if_neg hn] at h
    exact ih (k + 1) (by omega) h
 exact key 0 h
/-- How great the numbers are behind i visits. -/
structure TSOk (i : Nat) (s : TS) : Prop where
 le : 0 ≤ s.leave ∧ s.leave ≤ 2000000
 tm : -(i : Int) ≤ s.tm ∧ s.tm ≤ 32000000 * i
 di : -(i : Int) ≤ s.di ∧ s.di ≤ 32000000 * i
 wt : -(2 * (i : Int)) ≤ s.wt ∧ s.wt ≤ 2000000 * i
 se : 0 ≤ s.se ∧ s.se ≤ 1000000 * i
 len : s.steps.length = i + 1
theorem beginTS_ok {p : TProblem} {v : TVehicle} (hv : VehOk p v) (ls : List (List Int)) : TSOk 0 (beginTS v ls) := by
 have := hv.shift
 refine ⟨?_, ?_, ?_, ?_, ?_, rfl⟩ <;> simp [beginTS] <;> omega
theorem nextS_ok {p : TProblem} (law : Law p) {v : TVehicle} (hv : VehOk p v) {l : List TVisit} (hf : FirstOk p v l) (ls : List (List Int)) {i : Nat} {s : TS} (h : TSOk i s) (x : TVisit) (hx : x ∈ l)
  (hok : (startS (comeS p v x s) (stopAt p v s.at_ x).Windows).2 = true) : TSOk (i + 1) (nextS p v ls i x s) := by
 obtain ⟨w1, w2, w3⟩ := stopAt_ok law hv hf s.at_ x hx
 have hb := startS_ok (winOk_of w1) hok
 have ht := law.time s.at_ (stopAt p v s.at_ x).Place
 have hd := law.dist s.at_ (stopAt p v s.at_ x).Place
 have h1 := h.le; have h2 := h.tm; have h3 := h.di; have h4 := h.wt; have h5 := h.se
 have hc : comeS p v x s = s.leave + cellS p.Time s.at_ (stopAt p v s.at_ x).Place := rfl
 have hbe : beginS p v x s = (startS (comeS p v x s) (stopAt p v s.at_ x).Windows).1 := rfl
 rw [← hbe] at hb
 refine ⟨?_, ?_, ?_, ?_, ?_, by simp [nextS, h.len]⟩ <;> simp only [nextS] <;> omega
end Go.Proofs.Ytemjpgmfignhnaa
