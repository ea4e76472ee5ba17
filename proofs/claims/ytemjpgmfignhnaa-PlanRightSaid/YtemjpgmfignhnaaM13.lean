/- Contracts: layer 12's fixed fact, and Lawful.
Conditions: lists no longer than memory allows. -/
import Derived.Test.YtemjpgmfignhnaaM0
import Derived.Test.YtemjpgmfignhnaaM3
import Derived.Test.YtemjpgmfignhnaaC12k
import Derived.Test.YtemjpgmfignhnaaM7
import Derived.Test.YtemjpgmfignhnaaM8
import Derived.Test.YtemjpgmfignhnaaM12
namespace Go.Proofs.Ytemjpgmfignhnaa
open Go.RowKit Go.Proofs.YtemjpgmfignhnaaW.PrintWords Go.Proofs.YtemjpgmfignhnaaW.PrintLast Go.Proofs.YtemjpgmfignhnaaW.PrintMore
set_option linter.unusedVariables false
set_option linter.unusedSimpArgs false
attribute [local go_sem] cell_growBy Option.some_or
set_option maxHeartbeats 8000000 in
set_option maxRecDepth 100000 in
theorem lawful_any (q : PV) (p : TProblem) (w : World) (hl : Good p) (hq : q.Ok p w) :
  Calls Try.prog 29 #[q.val p] w fun e w' => e = .returned (.bool (decide (checkS p = 0))) ∧ Below w.heap.size w w' := by
 have HC := Aside0.mk (fun W (hb : Below w.heap.size w W) => refCheck_any q p W hl (hq.below hb))
 have d : (checkS p == 0) = decide (checkS p = 0) := rfl
 clear hl hq
 unfold PV.val at HC ⊢
 go_enter Try.func29, Try.ntmps29
 go_wp2_with (go_at_call 28; refine (HC.out _ clb).mono ?_; skip; rintro e w1 ⟨rfl, hb⟩; have HB1 := Aside0.mk hb; obtain ⟨qc1, qf1⟩ := bcell hb; have hs1 := hb.size; (try simp at hs1); (try have z01 : w.heap.size < w1.heap.size := (by omega)); (try have z11 : w.heap.size + 1 < w1.heap.size := (by omega)); (try have z21 : w.heap.size + 1 + 1 < w1.heap.size := (by omega)); (try have z31 : w.heap.size + 1 + 1 + 1 < w1.heap.size := (by omega)); (try have z41 : w.heap.size + 1 + 1 + 1 + 1 < w1.heap.size := (by omega)); clear hs1 hb; skip)
 go_ret
 exact ⟨by first | rfl | simp [d], clb⟩
end Go.Proofs.Ytemjpgmfignhnaa
/- The plan that layer 14's statements begin with, in plain words.
Conditions: none. -/
namespace Go.Proofs.Ytemjpgmfignhnaa
open Go.RowKit Go.Proofs.YtemjpgmfignhnaaW.PrintWords Go.Proofs.YtemjpgmfignhnaaW.PrintLast Go.Proofs.YtemjpgmfignhnaaW.PrintMore
set_option linter.unusedVariables false
set_option linter.unusedSimpArgs false
/-- A plan's value. -/
def planV (x : TPlan) (A : Option Addr) (c : Nat) : Value := .agg #[.int .i64 x.Vehicle, .slice A x.Steps.length c, .int .i64 x.Time, .int .i64 x.Dist, .int .i64 x.Wait, .int .i64 x.Service, .int .i64 x.Cost]
structure MadeX (p : TProblem) (v : TVehicle) (x : TPlan) : Prop where
 made : Made p v x
 brk : ∀ s ∈ x.Steps, s.Visit.Kind = 4 → 0 ≤ s.Visit.Item ∧ s.Visit.Item < v.Breaks.length
 arr : ∀ s ∈ x.Steps, -1 ≤ s.Arrival ∧ s.Arrival ≤ 34000000
 len : x.Steps.length ≤ 100
theorem Chain.arr {p : TProblem} {v : TVehicle} (law : Law p) : ∀ (l : List TStep) (t at_ : Int), Chain p v t at_ l → 0 ≤ t → t ≤ 2000000 → ∀ s ∈ l, -1 ≤ s.Arrival ∧ s.Arrival ≤ 34000000
 | [], _, _, h, _, _ => h.elim
 | [a], t, at_, h, h0, h1 => by
  intro s hs
  obtain rfl := List.mem_singleton.1 hs
  have := law.time at_ s.Place
  have := h.1
  omega
 | a :: b :: r, t, at_, h, h0, h1 => by
  obtain ⟨h2, h3, h4, h5, h6, h7⟩ := h
  intro s hs
  rcases List.mem_cons.1 hs with rfl | hs
  ·have := law.time at_ s.Place
   omega
  ·have k1 := startS_ok h5.win h6
   have k2 := h5.ser
   exact Chain.arr law (b :: r) _ _ h7 (by omega) (by omega) s hs
end Go.Proofs.Ytemjpgmfignhnaa

/- Contract: two plans that are the same. The document's Same.
Conditions: lists no longer than memory allows. -/
namespace Go.Proofs.Ytemjpgmfignhnaa
open Go.RowKit Go.Proofs.YtemjpgmfignhnaaW.PrintWords Go.Proofs.YtemjpgmfignhnaaW.PrintLast Go.Proofs.YtemjpgmfignhnaaW.PrintMore
set_option linter.unusedVariables false
set_option linter.unusedSimpArgs false
attribute [local go_sem] cell_growBy Option.some_or
set_option maxHeartbeats 4000000 in
set_option maxRecDepth 100000 in
theorem sameInts_any (l : List Int) (A A' : Option Addr) (c c' : Nat) (w : World) (hr : Kd.C (Kd.int .i64) w A l.length l) (hr' : Kd.C (Kd.int .i64) w A' l.length l) (hn : l.length ≤ 4611686018427387904) :
  Calls Try.prog 57 #[.slice A l.length c, .slice A' l.length c'] w fun e w' => e = .returned (.bool true) ∧ Below w.heap.size w w' := by
 have HR := Aside0.mk hr
 have HR' := Aside0.mk hr'
 clear hr hr'
 go_enter Try.func57, Try.ntmps57
 go_wp2
 go_loopw [5] (fun i wr => ∃ k : Nat, k ≤ l.length ∧ i = .int .i64 k ∧ Aside0 (Below w.heap.size w wr)) (fun i _ => l.length - (intOf i).toNat)
 case atStart => exact ⟨0, Nat.zero_le _, rfl, ⟨Below.refl _ _⟩⟩
 case round =>
  obtain ⟨k, hk, rfl, HB1⟩ := hrel
  by_cases hlt : k < l.length
  ·have r0 : (0 : Int) ≤ (k : Int) := by omega
   have r1 : (k : Int) < (l.length : Int) := by omega
   obtain ⟨ad, ea, x0⟩ := Kd.at_int (Kd.C_below HR.out HB1.out) (k : Int) r0 r1
   obtain ⟨ad', ea', y0⟩ := Kd.at_int (Kd.C_below HR'.out HB1.out) (k : Int) r0 r1
   subst ea
   subst ea'
   simp only [Int.toNat_natCast] at x0 y0
   go_wp2
   go_quiet (fail)
   go_wp2
   go_roundw
   case rel => exact ⟨k + 1, by omega, by go_num, ⟨clb⟩⟩
   case measure => simp [intOf]; omega
  ·obtain rfl : k = l.length := by omega
   go_wp2
   go_ret
   exact ⟨rfl, clb⟩
set_option maxHeartbeats 40000000 in
set_option maxRecDepth 100000 in
theorem refSame_any (x : TPlan) (A A' : Option Addr) (c c' : Nat) (w : World) (hr : Kd.C kStep w A x.Steps.length x.Steps) (hr' : Kd.C kStep w A' x.Steps.length x.Steps) (hn : x.Steps.length ≤ 4611686018427387904) (hs : ∀ s ∈ x.Steps, s.Load.length ≤ 4611686018427387904) :
  Calls Try.prog 52 #[planV x A c, planV x A' c'] w fun e w' => e = .returned (.bool true) ∧ Below w.heap.size w w' := by
 have HR := Aside0.mk hr
 have HR' := Aside0.mk hr'
 have HS := Aside0.mk hs
 clear hr hr' hs
 unfold planV
 go_enter Try.func52, Try.ntmps52
 go_wp2
 go_loopw [5] (fun i wr => ∃ k : Nat, k ≤ x.Steps.length ∧ i = .int .i64 k ∧ Aside0 (Below ((w.alloc (.cells #[.int .i64 x.Vehicle, .slice A x.Steps.length c, .int .i64 x.Time, .int .i64 x.Dist, .int .i64 x.Wait, .int .i64 x.Service, .int .i64 x.Cost] 74 (0, 0))).alloc (.cells #[.int .i64 x.Vehicle, .slice A' x.Steps.length c', .int .i64 x.Time, .int .i64 x.Dist, .int .i64 x.Wait, .int .i64 x.Service, .int .i64 x.Cost] 74 (0, 0))).heap.size ((w.alloc (.cells #[.int .i64 x.Vehicle, .slice A x.Steps.length c, .int .i64 x.Time, .int .i64 x.Dist, .int .i64 x.Wait, .int .i64 x.Service, .int .i64 x.Cost] 74 (0, 0))).alloc (.cells #[.int .i64 x.Vehicle, .slice A' x.Steps.length c', .int .i64 x.Time, .int .i64 x.Dist, .int .i64 x.Wait, .int .i64 x.Service, .int .i64 x.Cost] 74 (0, 0))) wr)) (fun i _ => x.Steps.length - (intOf i).toNat)
 case atStart => exact ⟨0, Nat.zero_le _, rfl, ⟨Below.refl _ _⟩⟩
 case round =>
  obtain ⟨k, hk, rfl, HW⟩ := hrel
  have HB0 : Aside0 (Below w.heap.size w wr) := ⟨below_to (below_alloc (below_alloc (Below.refl _ _) _) _) HW.out⟩
  have ha := blk_below (blk_alloc (blk_new w (.cells #[.int .i64 x.Vehicle, .slice A x.Steps.length c, .int .i64 x.Time, .int .i64 x.Dist, .int .i64 x.Wait, .int .i64 x.Service, .int .i64 x.Cost] 74 (0, 0))) (.cells #[.int .i64 x.Vehicle, .slice A' x.Steps.length c', .int .i64 x.Time, .int .i64 x.Dist, .int .i64 x.Wait, .int .i64 x.Service, .int .i64 x.Cost] 74 (0, 0))) HW.out
  have hb := blk_below (blk_is (W := w.alloc (.cells #[.int .i64 x.Vehicle, .slice A x.Steps.length c, .int .i64 x.Time, .int .i64 x.Dist, .int .i64 x.Wait, .int .i64 x.Service, .int .i64 x.Cost] 74 (0, 0))) (o := (.cells #[.int .i64 x.Vehicle, .slice A' x.Steps.length c', .int .i64 x.Time, .int .i64 x.Dist, .int .i64 x.Wait, .int .i64 x.Service, .int .i64 x.Cost] 74 (0, 0))) (n := w.heap.size + 1) (by simp)) HW.out
  obtain ⟨p_0, p_1, p_2, p_3, p_4, p_5, p_6⟩ := cells7 ha; have p_w := blk_lt ha
  obtain ⟨q_0, q_1, q_2, q_3, q_4, q_5, q_6⟩ := cells7 hb; have q_w := blk_lt hb
  clear ha hb
  by_cases hlt : k < x.Steps.length
  ·have r0 : (0 : Int) ≤ (k : Int) := by omega
   have r1 : (k : Int) < (x.Steps.length : Int) := by omega
   obtain ⟨ad, A6, c6, ea, x0, x1, x2, x3, x4, x5, x6, x7, x8, l6, hC6⟩ := atNStep (Kd.C_below HR.out HB0.out) k hlt
   obtain ⟨ad', A7, c7, ea', y0, y1, y2, y3, y4, y5, y6, y7, y8, l7, hC7⟩ := atNStep (Kd.C_below HR'.out HB0.out) k hlt
   subst ea
   subst ea'
   have hll := HS.out _ (List.getElem_mem hlt)
   generalize x.Steps[k] = s at *
   have HC6 := Aside0.mk hC6
   have HC7 := Aside0.mk hC7
   have hxlb := World.block_lt_of_cell? _ _ x0
   have hylb := World.block_lt_of_cell? _ _ y0
   clear hC6 hC7 l6 l7
   go_upto_region 6 with fail
   go_cut [6, 7] (fun s6 s7 wx => ∃ b b' : Nat, s6 = .pointer (some ⟨b, 0, none⟩) ∧ s7 = .pointer (some ⟨b', 0, none⟩) ∧ Aside0 (wx.heap[b]? = some (.cells #[.int .i64 s.Visit.Kind, .int .i64 s.Visit.Item, .int .i64 s.Place, .int .i64 s.Arrival, .int .i64 s.Wait, .int .i64 s.Service, .slice A6 s.Load.length c6, .int .i64 s.Time, .int .i64 s.Dist] 91 (0, 0)) ∧ wx.heap[b']? = some (.cells #[.int .i64 s.Visit.Kind, .int .i64 s.Visit.Item, .int .i64 s.Place, .int .i64 s.Arrival, .int .i64 s.Wait, .int .i64 s.Service, .slice A7 s.Load.length c7, .int .i64 s.Time, .int .i64 s.Dist] 91 (0, 0))) ∧ Aside0 (Below wr.heap.size wr wx))
   case first =>
    go_region_held3 (fun W' => Below wr.heap.size wr W' ∧ ∀ a : Addr, a.block < wr.heap.size → W'.cell? a = wr.cell? a) (first | exact hl_start _ | exact hl_of chn)
      (first
       | fail)
    all_goals
     go_wp2_with fail
     go_meet
     first
      | exact ⟨_, _, rfl, rfl, ⟨blk_alloc (blk_new _ _) _, blk_is (by simp)⟩, ⟨(And.left (show Below wr.heap.size wr _ ∧ _ from by assumption))⟩⟩
      | exact ⟨_, _, rfl, rfl, ⟨blk_is (by simp), blk_alloc (blk_new _ _) _⟩, ⟨(And.left (show Below wr.heap.size wr _ ∧ _ from by assumption))⟩⟩
   case rest =>
    as_aux_lemma =>
    obtain ⟨b, b', rfl, rfl, HX, HBx⟩ := hcut
    have hxa := HX.out.1
    have hxb := HX.out.2
    have f_0 := blk_cell hxa 0; have f_1 := blk_cell hxa 1; have f_2 := blk_cell hxa 2; have f_3 := blk_cell hxa 3; have f_4 := blk_cell hxa 4; have f_5 := blk_cell hxa 5; have f_6 := blk_cell hxa 6; have f_7 := blk_cell hxa 7; have f_8 := blk_cell hxa 8; simp only [List.getElem?_toArray, List.getElem?_cons_succ, List.getElem?_cons_zero] at f_0 f_1 f_2 f_3 f_4 f_5 f_6 f_7 f_8; have f_w := blk_lt hxa
    have g_0 := blk_cell hxb 0; have g_1 := blk_cell hxb 1; have g_2 := blk_cell hxb 2; have g_3 := blk_cell hxb 3; have g_4 := blk_cell hxb 4; have g_5 := blk_cell hxb 5; have g_6 := blk_cell hxb 6; have g_7 := blk_cell hxb 7; have g_8 := blk_cell hxb 8; simp only [List.getElem?_toArray, List.getElem?_cons_succ, List.getElem?_cons_zero] at g_0 g_1 g_2 g_3 g_4 g_5 g_6 g_7 g_8; have g_w := blk_lt hxb
    have HSI := Aside0.mk (sameInts_any s.Load A6 A7 c6 c7 wc (Kd.C_below HC6.out HBx.out) (Kd.C_below HC7.out HBx.out) hll)
    have HWc := Aside0.mk (below_to HW.out HBx.out)
    clear hxa hxb x0 x1 x2 x3 x4 x5 x6 x7 x8 y0 y1 y2 y3 y4 y5 y6 y7 y8 p_0 p_1 p_2 p_3 p_4 p_5 p_6 p_w q_0 q_1 q_2 q_3 q_4 q_5 q_6 q_w hxlb hylb HC6 HC7 HR HR' HS HW HB0 HX
    go_wp2_with (go_at_call 57; refine HSI.out.mono ?_; rintro e w9 ⟨rfl, hb⟩; have HB9 := Aside0.mk hb; clear hb)
    go_roundw
    case rel => exact ⟨k + 1, by omega, by go_num, ⟨below_to HWc.out HB9.out⟩⟩
    case measure => simp [intOf]; omega
  ·obtain rfl : k = x.Steps.length := by omega
   go_wp2
   go_ret
   exact ⟨rfl, HB0.out⟩
end Go.Proofs.Ytemjpgmfignhnaa

/- Where the breaks stand changes no sum and no first error, in plain words.
Conditions: a lawful problem. -/
namespace Go.Proofs.Ytemjpgmfignhnaa
open Go.RowKit Go.Proofs.YtemjpgmfignhnaaW.PrintWords Go.Proofs.YtemjpgmfignhnaaW.PrintLast Go.Proofs.YtemjpgmfignhnaaW.PrintMore
set_option linter.unusedVariables false
set_option linter.unusedSimpArgs false
def noB (l : List TVisit) : List TVisit := l.filter (fun x => decide (x.Kind ≠ 4))
def onB (l : List TVisit) : List TVisit := l.filter (fun x => decide (x.Kind = 4))
theorem noB_brk {x : TVisit} (h : x.Kind = 4) (l : List TVisit) : noB (x :: l) = noB l := by simp [noB, List.filter_cons, h]
theorem noB_task {x : TVisit} (h : x.Kind ≠ 4) (l : List TVisit) : noB (x :: l) = x :: noB l := by simp [noB, List.filter_cons, h]
theorem onB_brk {x : TVisit} (h : x.Kind = 4) (l : List TVisit) : onB (x :: l) = x :: onB l := by simp [onB, List.filter_cons, h]
theorem onB_task {x : TVisit} (h : x.Kind ≠ 4) (l : List TVisit) : onB (x :: l) = onB l := by simp [onB, List.filter_cons, h]
theorem noB_app (a b : List TVisit) : noB (a ++ b) = noB a ++ noB b := by simp [noB]
theorem onB_app (a b : List TVisit) : onB (a ++ b) = onB a ++ onB b := by simp [onB]
theorem noB_same {l : List TVisit} (h : ∀ x ∈ l, x.Kind ≠ 4) : noB l = l := by
 unfold noB
 exact List.filter_eq_self.2 (fun x hx => decide_eq_true (h x hx))
def brks : Int → Nat → List TVisit
 | _, 0 => []
 | k, n + 1 => ⟨4, k⟩ :: brks (k + 1) n
theorem brks_app : ∀ (m n : Nat) (k : Int), brks k m ++ brks (k + m) n = brks k (m + n)
 | 0, n, k => by simp [brks]
 | m + 1, n, k => by
  rw [brks, List.cons_append, show m + 1 + n = (m + n) + 1 by omega, brks, ← brks_app m n (k + 1)]
  rw [show k + ((m + 1 : Nat) : Int) = k + 1 + (m : Int) by omega]
theorem brkTake_is (i : Int) : ∀ (bs : List Int) (k : Int), brkTake i bs k = brks k (brkTake i bs k).length ∧ (brkTake i bs k).length + (brkDrop i bs).length = bs.length
 | [], k => ⟨rfl, rfl⟩
 | a :: r, k => by
  rw [brkTake, brkDrop]
  by_cases h : a ≤ i
  ·rw [if_pos h, if_pos h, List.length_cons, List.length_cons]
   obtain ⟨h1, h2⟩ := brkTake_is i r (k + 1)
   exact ⟨by rw [brks, ← h1], by omega⟩
  ·rw [if_neg h, if_neg h]
   exact ⟨rfl, by simp⟩
theorem brkTake_all (i : Int) : ∀ (bs : List Int) (k : Int), (∀ a ∈ bs, a ≤ i) → brkTake i bs k = brks k bs.length
 | [], k, _ => rfl
 | a :: r, k, h => by
  rw [brkTake, if_pos (h a List.mem_cons_self), brkTake_all i r (k + 1) (fun x hx => h x (List.mem_cons_of_mem _ hx))]
  rfl
theorem brkDrop_mem (i : Int) : ∀ (bs : List Int), ∀ a ∈ brkDrop i bs, a ∈ bs
 | [], a, h => h
 | b :: r, a, h => by
  rw [brkDrop] at h
  split at h
  ·exact List.mem_cons_of_mem _ (brkDrop_mem i r a h)
  ·exact h
theorem brks_kind : ∀ (n : Nat) (k : Int), ∀ x ∈ brks k n, x.Kind = 4
 | 0, k, x, h => by cases h
 | n + 1, k, x, h => by
  rcases List.mem_cons.1 h with rfl | h
  ·rfl
  ·exact brks_kind n (k + 1) x h
theorem noB_brks (n : Nat) (k : Int) : noB (brks k n) = [] := by
 unfold noB
 rw [List.filter_eq_nil_iff]
 intro x hx
 simp [brks_kind n k x hx]
theorem onB_brks (n : Nat) (k : Int) : onB (brks k n) = brks k n := List.filter_eq_self.2 (fun x hx => decide_eq_true (brks_kind n k x hx))
theorem setP_noB : ∀ (l : List TVisit) (bs : List Int) (i k : Int), (∀ x ∈ l, x.Kind ≠ 4) → noB (setP l bs i k) = l
 | [], bs, i, k, _ => by rw [setP, (brkTake_is i bs k).1, noB_brks]
 | x :: l, bs, i, k, h => by
  rw [setP, noB_app, (brkTake_is i bs k).1, noB_brks, List.nil_append, noB_task (h x List.mem_cons_self), setP_noB l _ _ _ (fun y hy => h y (List.mem_cons_of_mem _ hy))]
theorem setP_onB : ∀ (l : List TVisit) (bs : List Int) (i k : Int), (∀ x ∈ l, x.Kind ≠ 4) → (∀ a ∈ bs, a ≤ i + l.length) → onB (setP l bs i k) = brks k bs.length
 | [], bs, i, k, _, hb => by rw [setP, brkTake_all i bs k (fun a ha => by simpa using hb a ha), onB_brks]
 | x :: l, bs, i, k, h, hb => by
  rw [setP, onB_app, onB_task (h x List.mem_cons_self), setP_onB l _ _ _ (fun y hy => h y (List.mem_cons_of_mem _ hy)) (fun a ha => by
   have := hb a (brkDrop_mem i bs a ha)
   rw [List.length_cons] at this
   omega)]
  obtain ⟨h1, h2⟩ := brkTake_is i bs k
  rw [← h2, ← brks_app, ← h1]
  rw [h1, onB_brks]
/-! ### the first error -/
theorem stop_brk (p : TProblem) {x : TVisit} (h : x.Kind = 4) : stopS p x = (zStop, false) := by
 unfold stopS
 rw [taskOf_none (by omega) (by omega) (by omega)]
 rfl
theorem pairsP_noB (p : TProblem) : ∀ (l seen : List TVisit) (o : Int), pairsP p l seen o = pairsP p (noB l) seen o
 | [], seen, o => rfl
 | x :: l, seen, o => by
  by_cases h : x.Kind = 4
  ·rw [noB_brk h, pairsP, if_pos h, pairsP_noB p l]
  ·rw [noB_task h, pairsP, pairsP, if_neg h, if_neg h, ← pairsP_noB p l]
theorem breaksP_onB : ∀ (l : List TVisit) (n : Int), breaksP l n = breaksP (onB l) n
 | [], n => rfl
 | x :: l, n => by
  by_cases h : x.Kind = 4
  ·rw [onB_brk h, breaksP, breaksP, if_pos h, if_pos h, ← breaksP_onB l]
  ·rw [onB_task h, breaksP, if_neg h, breaksP_onB l]
theorem tasksP_noB : ∀ (l : List TVisit) (n : Int), tasksP l n = tasksP (noB l) n
 | [], n => rfl
 | x :: l, n => by
  by_cases h : x.Kind = 4
  ·rw [noB_brk h, tasksP, if_neg (by omega), tasksP_noB l]
  ·rw [noB_task h, tasksP, tasksP, ← tasksP_noB l, ← tasksP_noB l]
theorem skillsB_noB (p : TProblem) (sk : Int) : ∀ (l : List TVisit), skillsB p sk l = skillsB p sk (noB l)
 | [] => rfl
 | x :: l => by
  by_cases h : x.Kind = 4
  ·rw [noB_brk h, ← skillsB_noB p sk l]
   unfold skillsB
   rw [List.all_cons, taskOf_none (by omega) (by omega) (by omega)]
   rfl
  ·have ih := skillsB_noB p sk l
   rw [noB_task h]
   unfold skillsB at ih ⊢
   rw [List.all_cons, List.all_cons, ih]
theorem loadStep_brk (p : TProblem) {x : TVisit} (h : x.Kind = 4) (now : List Int) : loadStep p now x = now := by
 unfold loadStep
 rw [stop_brk p h, if_neg (by decide)]
theorem loadsGo_ne (p : TProblem) (f : List Int → Bool) (now : List Int) (l : List TVisit) : (f now && (loadsGo p now l).all f) = (loadsGo p now l).all f := by
 cases l with
 | nil => simp [loadsGo]
 | cons x l =>
  rw [loadsGo, List.all_cons, ← Bool.and_assoc, Bool.and_self]
theorem loadsGo_noB (p : TProblem) (f : List Int → Bool) : ∀ (l : List TVisit) (now : List Int), (loadsGo p now l).all f = (loadsGo p now (noB l)).all f
 | [], now => rfl
 | x :: l, now => by
  by_cases h : x.Kind = 4
  ·rw [noB_brk h, loadsGo, List.all_cons, loadStep_brk p h, loadsGo_ne, loadsGo_noB p f l]
  ·rw [noB_task h, loadsGo, loadsGo, List.all_cons, List.all_cons, loadsGo_noB p f l]
theorem loads0_noB (p : TProblem) (l : List TVisit) : loads0 p l = loads0 p (noB l) := by
 unfold loads0
 generalize List.replicate p.Dims.toNat (0 : Int) = z
 induction l generalizing z with
 | nil => rfl
 | cons x l ih =>
  by_cases h : x.Kind = 4
  ·rw [noB_brk h, List.foldl_cons, show dropStep p z x = z from by unfold dropStep; rw [stop_brk p h, if_neg (by simp)], ih]
  ·rw [noB_task h, List.foldl_cons, List.foldl_cons, ih]
theorem capE_noB (p : TProblem) (v : TVehicle) (l : List TVisit) : capE v (loadsP p l) = capE v (loadsP p (noB l)) := by
 unfold capE loadsP
 rw [loadsGo_noB p _ l, loads0_noB p l]
/-- A place of the matrix. -/
def InP (p : TProblem) (a : Int) : Prop := 0 ≤ a ∧ a ≤ p.Time.N - 1
theorem cellsOk_nth (n : Int) : ∀ (l : List Int) (t j : Nat) (h : j < l.length), cellsOk n t l = true → okCell n (t + j) l[j] = true
 | c :: l, t, 0, h, hk => by
  rw [cellsOk, Bool.and_eq_true] at hk
  exact hk.1
 | c :: l, t, j + 1, h, hk => by
  rw [cellsOk, Bool.and_eq_true] at hk
  have := cellsOk_nth n l (t + 1) j (by simpa using h) hk.2
  rw [show t + (j + 1) = t + 1 + j by omega]
  exact this
theorem cell_diag {m : TMatrix} {n : Int} (hm : matrixB m n = true) {a : Int} (h0 : 0 ≤ a) (h1 : a ≤ n - 1) : cellS m a a = 0 := by
 unfold matrixB at hm
 simp only [Bool.and_eq_true, decide_eq_true_eq] at hm
 obtain ⟨⟨e, hl⟩, hk⟩ := hm
 unfold cellS
 rw [e, upB_mk h0 h1, Bool.and_self, if_pos rfl]
 have hn : 0 < n := by omega
 have h2 : a * n + a < n * n := by
  have := Int.mul_le_mul_of_nonneg_right h1 (show 0 ≤ n by omega)
  rw [Int.sub_mul, Int.one_mul] at this
  omega
 have h3 : 0 ≤ a * n := Int.mul_nonneg h0 (by omega)
 have hj : (a * n + a).toNat < m.Cells.length := by omega
 have := cellsOk_nth n m.Cells 0 (a * n + a).toNat hj hk
 rw [show rd m.Cells (a * n + a) = m.Cells[(a * n + a).toNat] by simp [rd, List.getElem?_eq_getElem hj]]
 generalize m.Cells[(a * n + a).toNat] = c at *
 rw [Nat.zero_add] at this
 unfold okCell at this
 have d1 : (((a * n + a).toNat : Nat) : Int) = a * n + a := by omega
 rw [d1, decide_eq_true ((diag h0 (by omega) h0 (by omega)).2 rfl)] at this
 simp at this
 exact this.2
theorem toS_in {p : TProblem} (law : Law p) {a : Int} (ha : InP p a) (x : TVisit) : InP p (toS p a x) := by
 unfold toS
 split
 ·rename_i hs
  have := law.stopB hs
  simp only [stopB, Bool.and_eq_true] at this
  exact upB_true this.1.1
 ·exact ha
theorem travelS_noB {p : TProblem} (law : Law p) (e : Int) : ∀ (l : List TVisit) (a : Int), InP p a → travelS p e a l = travelS p e a (noB l)
 | [], a, ha => rfl
 | x :: l, a, ha => by
  by_cases h : x.Kind = 4
  ·have ht : toS p a x = a := by unfold toS; rw [stop_brk p h, if_neg (by simp)]
   rw [noB_brk h, travelS, ht, cell_diag law.mt ha.1 ha.2, cell_diag law.md ha.1 ha.2, if_neg (by omega), travelS_noB law e l a ha]
  ·rw [noB_task h, travelS, travelS, travelS_noB law e l (toS p a x) (toS_in law ha x)]
theorem checksP_noB {p : TProblem} (law : Law p) {v : TVehicle} (hv : VehOk p v) {l l' : List TVisit} (h1 : noB l = noB l') (h2 : onB l = onB l') : checksP p v l = checksP p v l' := by
 unfold checksP
 rw [pairsP_noB p l, pairsP_noB p l', breaksP_onB l, breaksP_onB l', skillsB_noB p _ l, skillsB_noB p _ l', tasksP_noB l, tasksP_noB l', capE_noB p v l, capE_noB p v l', travelS_noB law _ l _ hv.st, travelS_noB law _ l' _ hv.st, h1, h2]
theorem firstS_noB {p : TProblem} (law : Law p) {v : TVehicle} (hv : VehOk p v) {l l' : List TVisit} (h1 : noB l = noB l') (h2 : onB l = onB l') : firstS p v l = firstS p v l' := by
 rw [← first_same law.amts.toAmtLens, ← first_same law.amts.toAmtLens, checksP_noB law hv h1 h2]
/-! ### the sums -/
def sumT (p : TProblem) (m : TMatrix) : Int → List TVisit → Int
 | _, [] => 0
 | a, x :: l => cellS m a (toS p a x) + sumT p m (toS p a x) l
def lastP (p : TProblem) : Int → List TVisit → Int
 | a, [] => a
 | a, x :: l => lastP p (toS p a x) l
def serS (p : TProblem) (v : TVehicle) : List TVisit → Int
 | [] => 0
 | x :: l => (stopAt p v 0 x).Service + serS p v l
theorem stopAt_place (p : TProblem) (v : TVehicle) (a : Int) (x : TVisit) : (stopAt p v a x).Place = toS p a x := by
 unfold stopAt toS
 split <;> rfl
theorem stopAt_ser (p : TProblem) (v : TVehicle) (a b : Int) (x : TVisit) : (stopAt p v a x).Service = (stopAt p v b x).Service := by
 unfold stopAt
 split <;> rfl
theorem goS_sums (p : TProblem) (v : TVehicle) (ls : List (List Int)) : ∀ (l : List TVisit) (i : Nat) (s t : TS), goS p v ls l i s = some t →
  t.tm = s.tm + sumT p p.Time s.at_ l ∧ t.di = s.di + sumT p p.Dist s.at_ l ∧ t.at_ = lastP p s.at_ l ∧ t.se = s.se + serS p v l
 | [], i, s, t, h => by
  rw [goS, Option.some.injEq] at h
  subst h
  simp [sumT, lastP, serS]
 | x :: l, i, s, t, h => by
  rw [goS] at h
  split at h
  ·obtain ⟨h1, h2, h3, h4⟩ := goS_sums p v ls l (i + 1) _ t h
   rw [h1, h2, h3, h4]
   simp only [nextS, sumT, lastP, serS, stopAt_place, stopAt_ser p v s.at_ 0]
   exact ⟨by omega, by omega, trivial, by omega⟩
  ·cases h
theorem sums_noB {p : TProblem} {m : TMatrix} (law : Law p) (hm : ∀ a, InP p a → cellS m a a = 0) : ∀ (l : List TVisit) (a : Int), InP p a → sumT p m a l = sumT p m a (noB l)
 | [], a, ha => rfl
 | x :: l, a, ha => by
  by_cases h : x.Kind = 4
  ·have ht : toS p a x = a := by unfold toS; rw [stop_brk p h, if_neg (by simp)]
   rw [noB_brk h, sumT, ht, hm a ha, sums_noB law hm l a ha, Int.zero_add]
  ·rw [noB_task h, sumT, sumT, sums_noB law hm l _ (toS_in law ha x)]
theorem lastP_noB (p : TProblem) : ∀ (l : List TVisit) (a : Int), lastP p a l = lastP p a (noB l)
 | [], a => rfl
 | x :: l, a => by
  by_cases h : x.Kind = 4
  ·have ht : toS p a x = a := by unfold toS; rw [stop_brk p h, if_neg (by simp)]
   rw [noB_brk h, lastP, ht, lastP_noB p l]
  ·rw [noB_task h, lastP, lastP, lastP_noB p l]
theorem serS_noB (p : TProblem) (v : TVehicle) : ∀ (l : List TVisit), serS p v l = serS p v (noB l) + serS p v (onB l)
 | [] => rfl
 | x :: l => by
  by_cases h : x.Kind = 4
  ·rw [noB_brk h, onB_brk h, serS, serS, serS_noB p v l]
   omega
  ·rw [noB_task h, onB_task h, serS, serS, serS_noB p v l]
   omega
theorem ofS_two {p : TProblem} {vehicle : Int} {l : List TVisit} (hv : ¬ (vehicle < 0 ∨ (p.Vehicles.length : Int) ≤ vehicle)) (hf : firstS p (rdVehicle p.Vehicles vehicle) l = 0) :
  ofS p vehicle l = (zPlan, 167) ∨ ((ofS p vehicle l).2 = 0 ∧ ∃ s, goS p (rdVehicle p.Vehicles vehicle) (loadsS p l) l 0 (beginTS (rdVehicle p.Vehicles vehicle) (loadsS p l)) = some s ∧ (ofS p vehicle l).1 = (endS p (rdVehicle p.Vehicles vehicle) vehicle (loadsS p l) l.length s).1 ∧
   ¬ (rdVehicle p.Vehicles vehicle).Shift.To < s.leave + cellS p.Time s.at_ (rdVehicle p.Vehicles vehicle).End) := by
 unfold ofS
 rw [if_neg hv, if_neg (show ¬ firstS p (rdVehicle p.Vehicles vehicle) l ≠ 0 by simpa using hf)]
 cases goS p (rdVehicle p.Vehicles vehicle) (loadsS p l) l 0 (beginTS (rdVehicle p.Vehicles vehicle) (loadsS p l)) with
 | none => exact .inl rfl
 | some s =>
  show endS p (rdVehicle p.Vehicles vehicle) vehicle (loadsS p l) l.length s = _ ∨ (endS p (rdVehicle p.Vehicles vehicle) vehicle (loadsS p l) l.length s).2 = 0 ∧ _
  by_cases h : (rdVehicle p.Vehicles vehicle).Shift.To < s.leave + cellS p.Time s.at_ (rdVehicle p.Vehicles vehicle).End
  ·left
   unfold endS
   rw [if_pos h]
  ·right
   refine ⟨?_, s, rfl, rfl, h⟩
   unfold endS
   rw [if_neg h]
theorem sums_two {p : TProblem} (law : Law p) {vehicle : Int} (hv : ¬ (vehicle < 0 ∨ (p.Vehicles.length : Int) ≤ vehicle)) {l l' : List TVisit} (hf : firstS p (rdVehicle p.Vehicles vehicle) l = 0) (h1 : noB l = noB l') (h2 : onB l = onB l')
  (e1 : (ofS p vehicle l).2 = 0) (e2 : (ofS p vehicle l').2 = 0) :
  (ofS p vehicle l).1.Time = (ofS p vehicle l').1.Time ∧ (ofS p vehicle l).1.Dist = (ofS p vehicle l').1.Dist ∧ (ofS p vehicle l).1.Cost = (ofS p vehicle l').1.Cost ∧ (ofS p vehicle l).1.Service = (ofS p vehicle l').1.Service := by
 have hV := law.veh _ (rdVeh_mem p.Vehicles vehicle (by omega) (by omega))
 have hf' := (firstS_noB law hV h1 h2) ▸ hf
 rcases ofS_two hv hf with h | ⟨-, s, hs, es, ls⟩
 ·rw [h] at e1; cases e1
 rcases ofS_two hv hf' with h | ⟨-, t, ht, et, lt⟩
 ·rw [h] at e2; cases e2
 rw [es, et]
 obtain ⟨a1, a2, a3, a4⟩ := goS_sums _ _ _ _ _ _ _ hs
 obtain ⟨b1, b2, b3, b4⟩ := goS_sums _ _ _ _ _ _ _ ht
 have hst : InP p (rdVehicle p.Vehicles vehicle).Start := hV.st
 have d1 : ∀ a, InP p a → cellS p.Time a a = 0 := fun a ha => cell_diag law.mt ha.1 ha.2
 have d2 : ∀ a, InP p a → cellS p.Dist a a = 0 := fun a ha => cell_diag law.md ha.1 ha.2
 have c1 : s.tm = t.tm := by rw [a1, b1]; simp only [beginTS]; rw [sums_noB law d1 l _ hst, sums_noB law d1 l' _ hst, h1]
 have c2 : s.di = t.di := by rw [a2, b2]; simp only [beginTS]; rw [sums_noB law d2 l _ hst, sums_noB law d2 l' _ hst, h1]
 have c3 : s.at_ = t.at_ := by rw [a3, b3]; simp only [beginTS]; rw [lastP_noB p l, lastP_noB p l', h1]
 have c4 : s.se = t.se := by rw [a4, b4]; simp only [beginTS]; rw [serS_noB p _ l, serS_noB p _ l', h1, h2]
 unfold endS
 rw [if_neg ls, if_neg lt]
 simp only [c1, c2, c3, c4, and_self]
/-! ### Fit finds a place where there is one -/
theorem tryS_mem {p : TProblem} {vehicle : Int} {l : List TVisit} {n : Nat} : ∀ (r : List (Nat × Nat)), (∃ e ∈ r, (ofS p vehicle (setS l (([(e.1 : Int), (e.2 : Int)] : List Int).take n))).2 ≠ 167) →
  ∃ e ∈ r, tryS p vehicle l n r = ofS p vehicle (setS l (([(e.1 : Int), (e.2 : Int)] : List Int).take n)) ∧ (tryS p vehicle l n r).2 ≠ 167
 | [], ⟨e, he, _⟩ => by cases he
 | (i, k) :: r, ⟨e, he, hne⟩ => by
  rw [tryS]
  by_cases h : (ofS p vehicle (setS l (([(i : Int), (k : Int)] : List Int).take n))).2 = 167
  ·rw [if_pos h]
   have he' : e ∈ r := by
    rcases List.mem_cons.1 he with rfl | he
    ·exact absurd h hne
    ·exact he
   obtain ⟨e2, h1, h2, h3⟩ := tryS_mem r ⟨e, he', hne⟩
   exact ⟨e2, List.mem_cons_of_mem _ h1, h2, h3⟩
  ·rw [if_neg h]
   exact ⟨(i, k), List.mem_cons_self, rfl, h⟩
theorem mem_pairs {n m : Nat} {e : Nat × Nat} : e ∈ pairsFrom n m 0 ↔ e.1 ≤ e.2 ∧ e.2 ≤ m ∧ (n = 1 → e.1 = e.2) := by
 obtain ⟨a, b⟩ := e
 unfold pairsFrom
 rw [List.mem_flatMap]
 constructor
 ·rintro ⟨i, hi, h⟩
  rw [List.mem_range'_1] at hi
  split at h
  ·rename_i hn
   simp only [List.mem_singleton, Prod.mk.injEq] at h
   simp only
   omega
  ·rename_i hn
   unfold rowPairs at h
   rw [List.mem_map] at h
   obtain ⟨j, hj, h⟩ := h
   rw [List.mem_range'_1] at hj
   simp only [Prod.mk.injEq] at h
   simp only
   exact ⟨by omega, by omega, fun h => absurd h hn⟩
 ·rintro ⟨h1, h2, h3⟩
  simp only at h1 h2 h3
  refine ⟨a, List.mem_range'_1.2 (by omega), ?_⟩
  split
  ·rename_i hn
   rw [h3 hn]
   exact List.mem_singleton.2 rfl
  ·unfold rowPairs
   exact List.mem_map.2 ⟨b, List.mem_range'_1.2 (by omega), rfl⟩
theorem setS_take (l : List TVisit) {n i k : Nat} (hn : n ≤ 2) (hik : i ≤ k) : setS l (([(i : Int), (k : Int)] : List Int).take n) = setP l (([(i : Int), (k : Int)] : List Int).take n) 0 0 := by
 match n, hn with
 | 0, _ => exact (set_same0 l).symm
 | 1, _ => exact (set_same1 l (by omega)).symm
 | 2, _ => exact (set_same2 l (by omega) (by omega)).symm
theorem take_len {n i k : Nat} (hn : n ≤ 2) : (([(i : Int), (k : Int)] : List Int).take n).length = n := by
 simp; omega
theorem take_mem {n i k m : Nat} (hik : i ≤ k) (hk : k ≤ m) : ∀ a ∈ (([(i : Int), (k : Int)] : List Int).take n), a ≤ 0 + (m : Int) := by
 intro a ha
 have := List.mem_of_mem_take ha
 simp only [List.mem_cons, List.not_mem_nil, or_false] at this
 omega
theorem fit_brk {p : TProblem} (law : Law p) {vehicle : Int} {l : List TVisit} (hv : ¬ (vehicle < 0 ∨ (p.Vehicles.length : Int) ≤ vehicle)) (hk : ∀ x ∈ l, x.Kind ≠ 4) {i k : Nat} (hik : i ≤ k) (hkl : k ≤ l.length) :
  ((ofS p vehicle (setP l (([(i : Int), (k : Int)] : List Int).take (rdVehicle p.Vehicles vehicle).Breaks.length) 0 0)).2 = 0 → (fitS p vehicle l).2 = 0 ∧
   (ofS p vehicle (setP l (([(i : Int), (k : Int)] : List Int).take (rdVehicle p.Vehicles vehicle).Breaks.length) 0 0)).1.Time = (fitS p vehicle l).1.Time ∧
   (ofS p vehicle (setP l (([(i : Int), (k : Int)] : List Int).take (rdVehicle p.Vehicles vehicle).Breaks.length) 0 0)).1.Dist = (fitS p vehicle l).1.Dist ∧
   (ofS p vehicle (setP l (([(i : Int), (k : Int)] : List Int).take (rdVehicle p.Vehicles vehicle).Breaks.length) 0 0)).1.Cost = (fitS p vehicle l).1.Cost ∧
   (ofS p vehicle (setP l (([(i : Int), (k : Int)] : List Int).take (rdVehicle p.Vehicles vehicle).Breaks.length) 0 0)).1.Service = (fitS p vehicle l).1.Service) ∧
  ((ofS p vehicle (setP l (([(i : Int), (k : Int)] : List Int).take (rdVehicle p.Vehicles vehicle).Breaks.length) 0 0)).2 ≠ 0 → (ofS p vehicle (setP l (([(i : Int), (k : Int)] : List Int).take (rdVehicle p.Vehicles vehicle).Breaks.length) 0 0)).2 = 167 ∨
   (ofS p vehicle (setP l (([(i : Int), (k : Int)] : List Int).take (rdVehicle p.Vehicles vehicle).Breaks.length) 0 0)).2 = (fitS p vehicle l).2) := by
 have hV := law.veh _ (rdVeh_mem p.Vehicles vehicle (by omega) (by omega))
 have hn := hV.brl
 have hany : ¬ l.any (fun x => decide (x.Kind = 4)) = true := by
  rw [List.any_eq_true]
  rintro ⟨x, hx, h⟩
  exact hk x hx (of_decide_eq_true h)
 have key : ∀ i k : Nat, i ≤ k → k ≤ l.length → noB (setP l (([(i : Int), (k : Int)] : List Int).take (rdVehicle p.Vehicles vehicle).Breaks.length) 0 0) = l ∧ onB (setP l (([(i : Int), (k : Int)] : List Int).take (rdVehicle p.Vehicles vehicle).Breaks.length) 0 0) = brks 0 (rdVehicle p.Vehicles vehicle).Breaks.length := by
  intro i k hik hkl
  refine ⟨setP_noB l _ 0 0 hk, ?_⟩
  rw [setP_onB l _ 0 0 hk (take_mem hik hkl), take_len hn]
 have hfit : (fitS p vehicle l = ofS p vehicle (setP l (([(0 : Nat), (0 : Nat)] : List Nat).map (fun x : Nat => (x : Int)) |>.take (rdVehicle p.Vehicles vehicle).Breaks.length) 0 0) ∧ (rdVehicle p.Vehicles vehicle).Breaks.length = 0) ∨
   ((rdVehicle p.Vehicles vehicle).Breaks.length ≠ 0 ∧ fitS p vehicle l = tryS p vehicle l (rdVehicle p.Vehicles vehicle).Breaks.length (pairsFrom (rdVehicle p.Vehicles vehicle).Breaks.length l.length 0)) := by
  unfold fitS
  rw [if_neg hv, if_neg hany]
  by_cases h0 : (rdVehicle p.Vehicles vehicle).Breaks.length = 0
  ·left
   refine ⟨?_, h0⟩
   rw [if_pos h0, h0, List.take_zero, setP_0]
  ·right
   exact ⟨h0, by rw [if_neg h0]⟩
 generalize hN : (rdVehicle p.Vehicles vehicle).Breaks.length = n at *
 obtain ⟨k1, k2⟩ := key i k hik hkl
 generalize hA : setP l (([(i : Int), (k : Int)] : List Int).take n) 0 0 = A at *
 -- what Fit answers
 have hB : (∃ i' k' : Nat, i' ≤ k' ∧ k' ≤ l.length ∧ fitS p vehicle l = ofS p vehicle (setP l (([(i' : Int), (k' : Int)] : List Int).take n) 0 0) ∧ (n = 0 ∨ (fitS p vehicle l).2 ≠ 167)) ∨ (n ≠ 0 ∧ ∀ i' k' : Nat, i' ≤ k' → k' ≤ l.length → (ofS p vehicle (setP l (([(i' : Int), (k' : Int)] : List Int).take n) 0 0)).2 = 167) := by
  rcases hfit with ⟨h1, h2⟩ | ⟨h1, h2⟩
  ·subst h2
   exact .inl ⟨0, 0, Nat.le_refl _, Nat.zero_le _, h1, .inl rfl⟩
  ·by_cases hex : ∃ e ∈ pairsFrom n l.length 0, (ofS p vehicle (setS l (([(e.1 : Int), (e.2 : Int)] : List Int).take n))).2 ≠ 167
   ·obtain ⟨e, he, h3, h4⟩ := tryS_mem _ hex
    obtain ⟨m1, m2, m3⟩ := mem_pairs.1 he
    exact .inl ⟨e.1, e.2, m1, m2, by rw [h2, h3, setS_take l hn m1], .inr (by rw [h2]; exact h4)⟩
   ·refine .inr ⟨h1, fun i' k' h3 h4 => ?_⟩
    apply Classical.byContradiction
    intro hne
    refine hex ?_
    match n, h1, hn, hne with
    | 1, _, _, hne => exact ⟨(i', i'), mem_pairs.2 ⟨Nat.le_refl _, by omega, fun _ => rfl⟩, by rw [setS_take l (by omega) (Nat.le_refl _)]; exact hne⟩
    | 2, _, _, hne => exact ⟨(i', k'), mem_pairs.2 ⟨h3, h4, fun h => absurd h (by decide)⟩, by rw [setS_take l (by omega) h3]; exact hne⟩
 by_cases hf : firstS p (rdVehicle p.Vehicles vehicle) A = 0
 ·rcases hB with ⟨i', k', h1, h2, h3, h4⟩ | ⟨h1, h2⟩
  ·obtain ⟨c1, c2⟩ := key i' k' h1 h2
   generalize hA' : setP l (([(i' : Int), (k' : Int)] : List Int).take n) 0 0 = A' at *
   have hf' : firstS p (rdVehicle p.Vehicles vehicle) A' = 0 := by rw [firstS_noB law hV (c1.trans k1.symm) (c2.trans k2.symm)]; exact hf
   refine ⟨fun h0 => ?_, fun h0 => ?_⟩
   ·have e0 : (ofS p vehicle A').2 = 0 := by
     rcases h4 with h4 | h4
     ·subst h4
      rw [← hA', List.take_zero, ← List.take_zero (l := ([(i : Int), (k : Int)] : List Int)), hA]
      exact h0
     ·rw [h3] at h4
      rcases ofS_two hv hf' with h | ⟨h, -⟩
      ·rw [h] at h4; exact absurd rfl h4
      ·exact h
    rw [h3]
    exact ⟨e0, sums_two law hv hf (k1.trans c1.symm) (k2.trans c2.symm) h0 e0⟩
   ·rcases ofS_two hv hf with h | ⟨h, -⟩
    ·rw [h]; exact .inl rfl
    ·exact absurd h h0
  ·have := h2 i k hik hkl
   rw [hA] at this
   exact ⟨fun h => absurd (h.symm.trans this) (by decide), fun _ => .inl this⟩
 ·have hA2 : ∀ A' : List TVisit, noB A' = l → onB A' = brks 0 n → (ofS p vehicle A').2 = firstS p (rdVehicle p.Vehicles vehicle) A := by
   intro A' c1 c2
   have e := firstS_noB law hV (c1.trans k1.symm) (c2.trans k2.symm)
   unfold ofS
   rw [if_neg hv, e, if_pos hf]
  have hx := hA2 A k1 k2
  refine ⟨fun h => absurd (hx.symm.trans h) hf, fun _ => ?_⟩
  rcases hB with ⟨i', k', h1, h2, h3, h4⟩ | ⟨h1, h2⟩
  ·obtain ⟨c1, c2⟩ := key i' k' h1 h2
   right
   rw [h3, hx, hA2 _ c1 c2]
  ·have := h2 i k hik hkl
   rw [hA] at this
   exact .inl this
end Go.Proofs.Ytemjpgmfignhnaa

/- A shift that begins later comes nowhere earlier; a second vehicle that is the same drives the same plan: in plain words.
Conditions: a lawful problem. -/
namespace Go.Proofs.Ytemjpgmfignhnaa
open Go.RowKit Go.Proofs.YtemjpgmfignhnaaW.PrintWords Go.Proofs.YtemjpgmfignhnaaW.PrintLast Go.Proofs.YtemjpgmfignhnaaW.PrintMore
set_option linter.unusedVariables false
set_option linter.unusedSimpArgs false
/-! ### a shift that begins later -/
structure TSle (s t : TS) : Prop where
 leave : s.leave ≤ t.leave
 at_ : s.at_ = t.at_
 tm : s.tm = t.tm
 di : s.di = t.di
 len : s.steps.length = t.steps.length
 st : ∀ (k : Nat) (a b : TStep), s.steps[k]? = some a → t.steps[k]? = some b → a.Arrival ≤ b.Arrival ∧ a.Time = b.Time
theorem steps_le {s t : List TStep} {x y : TStep} (hl : s.length = t.length) (h : ∀ (k : Nat) (a b : TStep), s[k]? = some a → t[k]? = some b → a.Arrival ≤ b.Arrival ∧ a.Time = b.Time) (hx : x.Arrival ≤ y.Arrival) (hx2 : x.Time = y.Time) :
  ∀ (k : Nat) (a b : TStep), (s ++ [x])[k]? = some a → (t ++ [y])[k]? = some b → a.Arrival ≤ b.Arrival ∧ a.Time = b.Time := by
 intro k a b ha hb
 rcases Nat.lt_or_ge k s.length with hk | hk
 ·rw [List.getElem?_append_left hk] at ha
  rw [List.getElem?_append_left (by omega)] at hb
  exact h k a b ha hb
 ·rw [List.getElem?_append_right hk] at ha
  rw [List.getElem?_append_right (by omega)] at hb
  cases hm : k - s.length with
  | zero =>
   rw [hm] at ha
   rw [show k - t.length = 0 by omega] at hb
   simp only [List.getElem?_cons_zero, Option.some.injEq] at ha hb
   subst ha hb
   exact ⟨hx, hx2⟩
  | succ m =>
   rw [hm] at ha
   simp at ha
theorem goS_early {p p2 : TProblem} {v v2 : TVehicle} (ls : List (List Int)) (hst : ∀ a x, stopAt p2 v2 a x = stopAt p v a x) (ht : p2.Time = p.Time) (hd : p2.Dist = p.Dist) : ∀ (l : List TVisit) (i : Nat) (s t t' : TS), TSle s t → (∀ x ∈ l, ∀ a, WinOk (stopAt p v a x).Windows) →
  goS p2 v2 ls l i t = some t' → ∃ s', goS p v ls l i s = some s' ∧ TSle s' t'
 | [], i, s, t, t', hle, _, h => by
  rw [goS, Option.some.injEq] at h
  subst h
  exact ⟨s, rfl, hle⟩
 | x :: l, i, s, t, t', hle, hw, h => by
  rw [goS] at h ⊢
  have hc : comeS p2 v2 x t = t.leave + cellS p.Time s.at_ (stopAt p v s.at_ x).Place := by unfold comeS; rw [hst, ht, hle.at_]
  have hc2 : comeS p v x s = s.leave + cellS p.Time s.at_ (stopAt p v s.at_ x).Place := rfl
  rw [hst, ← hle.at_] at h
  split at h
  ·rename_i hok
   have hm := startS_mono (hw x List.mem_cons_self s.at_) (t := comeS p v x s) (u := comeS p2 v2 x t) (by rw [hc, hc2]; have := hle.leave; omega) hok
   rw [if_pos hm.1]
   refine goS_early ls hst ht hd l (i + 1) _ _ t' ?_ (fun y hy => hw y (List.mem_cons_of_mem _ hy)) h
   have hb : beginS p v x s ≤ beginS p2 v2 x t := by
    unfold beginS
    rw [hst, ← hle.at_]
    exact hm.2
   refine ⟨?_, ?_, ?_, ?_, ?_, ?_⟩
   ·simp only [nextS, hst, ← hle.at_]; omega
   ·simp only [nextS, hst, ← hle.at_]
   ·simp only [nextS, hst, ← hle.at_, ht, hle.tm]
   ·simp only [nextS, hst, ← hle.at_, hd, hle.di]
   ·simp only [nextS, List.length_append, hle.len, List.length_cons, List.length_nil]
   ·simp only [nextS]
    refine steps_le hle.len hle.st ?_ ?_
    ·simp only []
     rw [hc, hc2]
     have := hle.leave
     omega
    ·simp only [hst, ← hle.at_, ht, hle.tm]
  ·cases h
def fromVeh (v : TVehicle) (by_ : Int) : TVehicle := { v with Shift := ⟨v.Shift.From + by_, v.Shift.To⟩ }
/-- The problem with the k-th vehicle's shift beginning later. -/
def fromP (p : TProblem) (k : Nat) (by_ : Int) : TProblem := { p with Vehicles := p.Vehicles.set k (fromVeh (rdVehicle p.Vehicles k) by_) }
theorem fromP_rd {p : TProblem} {k : Nat} (hk : k < p.Vehicles.length) (by_ : Int) : rdVehicle (fromP p k by_).Vehicles k = fromVeh (rdVehicle p.Vehicles k) by_ := by
 simp [fromP, rdVehicle, hk]
theorem scanS_from (p : TProblem) (k : Nat) (by_ : Int) : ∀ (l : List TVisit) (n t s : Int), scanS (fromP p k by_) l n t s = scanS p l n t s
 | [], _, _, _ => rfl
 | x :: l, n, t, s => by
  rw [scanS, scanS, scanS_from p k by_ l, scanS_from p k by_ l, scanS_from p k by_ l]
  rfl
theorem travelS_from (p : TProblem) (k : Nat) (by_ e : Int) : ∀ (l : List TVisit) (a : Int), travelS (fromP p k by_) e a l = travelS p e a l
 | [], _ => rfl
 | x :: l, a => by
  rw [travelS, travelS, travelS_from p k by_ e l]
  rfl
theorem firstS_from (p : TProblem) (k : Nat) (by_ : Int) (v : TVehicle) (l : List TVisit) : firstS (fromP p k by_) (fromVeh v by_) l = firstS p v l := by
 unfold firstS
 rw [scanS_from, show pairsB (fromP p k by_) l = pairsB p l from rfl]
 split
 ·rfl
 ·cases scanS p l 0 0 0 with
  | none => rfl
  | some r =>
   obtain ⟨n, t, s⟩ := r
   unfold afterS
   simp only [travelS_from]
   rfl
theorem loadsS_from (p : TProblem) (k : Nat) (by_ : Int) (l : List TVisit) : loadsS (fromP p k by_) l = loadsS p l := rfl
theorem stopAt_from (p : TProblem) (k : Nat) (by_ : Int) (v : TVehicle) (a : Int) (x : TVisit) : stopAt (fromP p k by_) (fromVeh v by_) a x = stopAt p v a x := rfl
theorem ofS_early {p : TProblem} (law : Law p) {k : Nat} (hk : k < p.Vehicles.length) {by_ : Int} (h0 : 0 ≤ by_) {l : List TVisit} (h : (ofS (fromP p k by_) k l).2 = 0) :
  (ofS p k l).2 = 0 ∧ (ofS p k l).1.Cost = (ofS (fromP p k by_) k l).1.Cost ∧ (ofS p k l).1.Steps.length = (ofS (fromP p k by_) k l).1.Steps.length ∧
   ∀ (i : Nat) (a b : TStep), (ofS p k l).1.Steps[i]? = some a → (ofS (fromP p k by_) k l).1.Steps[i]? = some b → a.Arrival ≤ b.Arrival ∧ a.Time = b.Time := by
 have hv : ¬ ((k : Int) < 0 ∨ (p.Vehicles.length : Int) ≤ k) := by omega
 have hv2 : ¬ ((k : Int) < 0 ∨ ((fromP p k by_).Vehicles.length : Int) ≤ k) := by simp [fromP]; omega
 have hV := law.veh _ (rdVeh_mem p.Vehicles k (by omega) (by omega))
 have hr := fromP_rd hk by_
 have hf2 : firstS (fromP p k by_) (rdVehicle (fromP p k by_).Vehicles k) l = 0 := by
  apply Classical.byContradiction
  intro hne
  unfold ofS at h
  rw [if_neg hv2, if_pos hne] at h
  exact hne h
 have hf : firstS p (rdVehicle p.Vehicles k) l = 0 := by rw [hr, firstS_from] at hf2; exact hf2
 rcases ofS_two hv2 hf2 with e | ⟨-, t, ht, et, lt⟩
 ·rw [e] at h; cases h
 rw [hr, loadsS_from] at ht
 obtain ⟨s, hs, hle⟩ := goS_early (p := p) (v := rdVehicle p.Vehicles k) (loadsS p l) (stopAt_from p k by_ _) rfl rfl l 0 (beginTS (rdVehicle p.Vehicles k) (loadsS p l)) (beginTS (fromVeh (rdVehicle p.Vehicles k) by_) (loadsS p l)) t
  ⟨by simp only [beginTS, fromVeh]; omega, rfl, rfl, rfl, rfl, fun i a b ha hb => by
   cases i with
   | zero =>
    simp only [beginTS, fromVeh, List.getElem?_cons_zero, Option.some.injEq] at ha hb
    subst ha hb
    exact ⟨by simp only []; omega, rfl⟩
   | succ i => simp [beginTS] at ha⟩
  (fun x hx a => winOk_of (stopAt_ok law hV (firstOk_of hf) a x hx).1) ht
 rw [hr] at et lt
 simp only [fromVeh, ← hle.at_] at lt
 have hT : (fromP p k by_).Time = p.Time := rfl
 have hD : (fromP p k by_).Dist = p.Dist := rfl
 rw [hT] at lt
 have ls : ¬ (rdVehicle p.Vehicles k).Shift.To < s.leave + cellS p.Time s.at_ (rdVehicle p.Vehicles k).End := by have := hle.leave; omega
 have es : ofS p k l = endS p (rdVehicle p.Vehicles k) k (loadsS p l) l.length s := by
  unfold ofS
  rw [if_neg hv, if_neg (show ¬ firstS p (rdVehicle p.Vehicles k) l ≠ 0 by simpa using hf), hs]
  rfl
 rw [et, es, loadsS_from]
 unfold endS
 rw [if_neg ls, if_neg (show ¬ (fromVeh (rdVehicle p.Vehicles k) by_).Shift.To < t.leave + cellS (fromP p k by_).Time t.at_ (fromVeh (rdVehicle p.Vehicles k) by_).End by rw [hT, ← hle.at_]; exact lt)]
 simp only [fromVeh, hT, hD, ← hle.at_, ← hle.tm, ← hle.di]
 refine ⟨trivial, trivial, by simp [hle.len], steps_le hle.len hle.st ?_ ?_⟩
 ·simp only []
  have := hle.leave
  omega
 ·rfl
/-! ### a second vehicle that is the same -/
end Go.Proofs.Ytemjpgmfignhnaa

/- A plan that Fit makes is right step by step, in plain words.
Conditions: a lawful problem. -/
namespace Go.Proofs.Ytemjpgmfignhnaa
open Go.RowKit Go.Proofs.YtemjpgmfignhnaaW.PrintWords Go.Proofs.YtemjpgmfignhnaaW.PrintLast Go.Proofs.YtemjpgmfignhnaaW.PrintMore
set_option linter.unusedVariables false
set_option linter.unusedSimpArgs false
/-- What holds of a step, bk breaks and tk tasks being behind it. -/
structure StepRight (p : TProblem) (v : TVehicle) (l : List TVisit) (bk tk : Nat) (s : TStep) : Prop where
 load : underB s.Load v.Cap = true
 arr : 0 ≤ s.Arrival ∧ s.Arrival ≤ 34000000
 wait : 0 ≤ s.Wait ∧ s.Wait ≤ 1000000
 ser : 0 ≤ s.Service ∧ s.Service ≤ 1000000
 tm : -100000000000 ≤ s.Time ∧ s.Time ≤ 100000000000
 di : -100000000000 ≤ s.Dist ∧ s.Dist ≤ 100000000000
 brk : s.Visit.Kind = 4 → bk < v.Breaks.length ∧ s.Service = (rdBreak v.Breaks bk).Service ∧ startS (s.Arrival + s.Wait) (rdBreak v.Breaks bk).Windows = (s.Arrival + s.Wait, true)
 task : s.Visit.Kind = 1 ∨ s.Visit.Kind = 2 ∨ s.Visit.Kind = 3 → (stopS p s.Visit).2 = true ∧ l[tk]? = some s.Visit ∧ s.Place = (stopS p s.Visit).1.Place ∧ s.Service = (stopS p s.Visit).1.Service ∧ startS (s.Arrival + s.Wait) (stopS p s.Visit).1.Windows = (s.Arrival + s.Wait, true)
 other : s.Visit.Kind ≠ 4 → ¬ (s.Visit.Kind = 1 ∨ s.Visit.Kind = 2 ∨ s.Visit.Kind = 3) → s.Service = 0 ∧ startS (s.Arrival + s.Wait) [v.Shift] = (s.Arrival + s.Wait, true)
structure LinkRight (p : TProblem) (b s : TStep) : Prop where
 tm : 0 ≤ cellS p.Time b.Place s.Place
 di : 0 ≤ cellS p.Dist b.Place s.Place
 arr : s.Arrival = b.Arrival + b.Wait + b.Service + cellS p.Time b.Place s.Place
 time : s.Time = b.Time + cellS p.Time b.Place s.Place
 dist : s.Dist = b.Dist + cellS p.Dist b.Place s.Place
def RightGo (p : TProblem) (v : TVehicle) (l : List TVisit) (F : Int → Int → Nat → Prop) : Option TStep → Int → Int → Nat → Nat → List TStep → Prop
 | _, w, z, bk, _, [] => F w z bk
 | b, w, z, bk, tk, s :: r => StepRight p v l bk tk s ∧ (∀ b', b = some b' → LinkRight p b' s) ∧
   RightGo p v l F (some s) (w + s.Wait) (z + s.Service) (if s.Visit.Kind = 4 then bk + 1 else bk) (if s.Visit.Kind = 1 ∨ s.Visit.Kind = 2 ∨ s.Visit.Kind = 3 then tk + 1 else tk) r
theorem startS_again {t : Int} : ∀ (l : List TWindow), (∀ w ∈ l, w.From ≤ w.To) → (startS t l).2 = true → startS (startS t l).1 l = ((startS t l).1, true) ∧ t ≤ (startS t l).1
 | [], _, h => by cases h
 | w :: l, hw, h => by
  have h0 := hw w List.mem_cons_self
  rw [startS] at h
  by_cases h1 : t ≤ w.To
  ·by_cases h2 : t < w.From
   ·rw [show startS t (w :: l) = (w.From, true) by rw [startS, if_pos h1, if_pos h2], startS, if_pos h0, if_neg (by omega)]
    exact ⟨rfl, by simp only []; omega⟩
   ·rw [show startS t (w :: l) = (t, true) by rw [startS, if_pos h1, if_neg h2], startS, if_pos h1, if_neg h2]
    exact ⟨rfl, by simp only []; omega⟩
  ·rw [if_neg h1] at h
   obtain ⟨h3, h4⟩ := startS_again l (fun x hx => hw x (List.mem_cons_of_mem _ hx)) h
   rw [show startS t (w :: l) = startS t l by rw [startS, if_neg h1], startS, if_neg (by omega)]
   exact ⟨h3, h4⟩
theorem WinOk.le {l : List TWindow} (h : WinOk l) : ∀ w ∈ l, w.From ≤ w.To := fun w hw => by
 obtain ⟨i, hi, rfl⟩ := List.mem_iff_getElem.1 hw
 exact (h.pos i hi).2.1
theorem breaksP_le : ∀ (l : List TVisit) (n m : Int), breaksP l n = some m → n ≤ m
 | [], n, m, h => by
  rw [breaksP, Option.some.injEq] at h
  omega
 | x :: l, n, m, h => by
  rw [breaksP] at h
  split at h
  ·split at h
   ·have := breaksP_le l _ _ h
    omega
   ·cases h
  ·exact breaksP_le l _ _ h
/-- The last step. -/
def lastStep (p : TProblem) (v : TVehicle) (ls : List (List Int)) (n : Nat) (t : TS) : TStep :=
 ⟨⟨6, 0⟩, v.End, t.leave + cellS p.Time t.at_ v.End, 0, 0, ls.getD n [], t.tm + cellS p.Time t.at_ v.End, t.di + cellS p.Dist t.at_ v.End⟩
theorem getD_under {ls : List (List Int)} {v : TVehicle} (h : ∀ x ∈ ls, underB x v.Cap = true) (i : Nat) (hi : i < ls.length) : underB (ls.getD i []) v.Cap = true := by
 rw [List.getD_eq_getElem?_getD, List.getElem?_eq_getElem hi]
 exact h _ (List.getElem_mem _)
theorem goS_right {p : TProblem} (law : Law p) {v : TVehicle} (hV : VehOk p v) {L : List TVisit} (hF : FirstOk p v L) (hL : L.length ≤ 200) (l : List TVisit) (ls : List (List Int)) (hls : ∀ x ∈ ls, underB x v.Cap = true) (n : Nat) (hn : n < ls.length) (hn2 : n ≤ 200) (t : TS)
  (hend : ¬ v.Shift.To < t.leave + cellS p.Time t.at_ v.End) : ∀ (l' : List TVisit) (i : Nat) (s : TS) (b : TStep) (bk tk : Nat), (∀ x ∈ l', x ∈ L) → i + l'.length = n → TSOk i s →
  b.Arrival + b.Wait + b.Service = s.leave → b.Place = s.at_ → b.Time = s.tm → b.Dist = s.di → v.Shift.From ≤ s.leave → breaksP l' bk = some (v.Breaks.length : Int) → noB l' = l.drop tk → travelS p v.End s.at_ l' = 0 → goS p v ls l' i s = some t →
  ∃ new, t.steps = s.steps ++ new ∧ RightGo p v l (fun w z k => w = t.wt ∧ z = t.se ∧ k = v.Breaks.length) (some b) s.wt s.se bk tk (new ++ [lastStep p v ls n t])
 | [], i, s, b, bk, tk, _, hi, hT, e1, e2, e3, e4, hle, hb, hnb, htr, hg => by
  rw [goS, Option.some.injEq] at hg
  subst hg
  refine ⟨[], by simp, ?_⟩
  rw [travelS] at htr
  have h0 := hT.le; have h1 := hT.tm; have h2 := hT.di
  have h3 := law.time s.at_ v.End
  have h4 := law.dist s.at_ v.End
  have hcell : 0 ≤ cellS p.Time s.at_ v.End ∧ 0 ≤ cellS p.Dist s.at_ v.End := by
   split at htr
   ·cases htr
   ·omega
  have hsh := hV.shift
  rw [breaksP, Option.some.injEq] at hb
  show StepRight p v l bk tk (lastStep p v ls n s) ∧ _
  refine ⟨⟨getD_under hls n hn, ?_, by simp [lastStep], by simp [lastStep], ?_, ?_, fun h => ?_, fun h => ?_, fun _ _ => ⟨rfl, ?_⟩⟩, fun b' hb' => ?_, ?_⟩
  ·simp only [lastStep]; omega
  ·simp only [lastStep]; omega
  ·simp only [lastStep]; omega
  ·simp [lastStep] at h
  ·simp [lastStep] at h
  ·simp only [lastStep, Int.add_zero]
   rw [startS, if_pos (by omega), if_neg (by omega)]
  ·obtain rfl := Option.some.inj hb'
   refine ⟨?_, ?_, ?_, ?_, ?_⟩ <;> simp only [lastStep, e2] <;> omega
  ·have e6 : ¬ (lastStep p v ls n s).Visit.Kind = 4 := by simp [lastStep]
   rw [if_neg e6]
   show s.wt + (lastStep p v ls n s).Wait = s.wt ∧ s.se + (lastStep p v ls n s).Service = s.se ∧ bk = v.Breaks.length
   simp only [lastStep]
   omega
 | x :: l', i, s, b, bk, tk, hm, hi, hT, e1, e2, e3, e4, hle, hb, hnb, htr, hg => by
  rw [goS] at hg
  split at hg
  case isFalse => cases hg
  rename_i hok
  have hx := hm x List.mem_cons_self
  obtain ⟨w1, w2, w3⟩ := stopAt_ok law hV hF s.at_ x hx
  have hW := winOk_of w1
  have hN := nextS_ok law hV hF ls hT x hx hok
  obtain ⟨hag, hge⟩ := startS_again _ hW.le hok
  have hbe := startS_ok hW hok
  have h0 := hT.le; have h1 := hN.tm; have h2 := hN.di
  have h3 := law.time s.at_ (stopAt p v s.at_ x).Place
  have h4 := law.dist s.at_ (stopAt p v s.at_ x).Place
  rw [travelS, ← stopAt_place p v s.at_ x] at htr
  have hcell : 0 ≤ cellS p.Time s.at_ (stopAt p v s.at_ x).Place ∧ 0 ≤ cellS p.Dist s.at_ (stopAt p v s.at_ x).Place ∧ travelS p v.End (stopAt p v s.at_ x).Place l' = 0 := by
   split at htr
   ·cases htr
   ·exact ⟨by omega, by omega, htr⟩
  rw [List.length_cons] at hi
  have hc : comeS p v x s = s.leave + cellS p.Time s.at_ (stopAt p v s.at_ x).Place := rfl
  have hbg : beginS p v x s = (startS (comeS p v x s) (stopAt p v s.at_ x).Windows).1 := rfl
  rw [← hbg] at hag hge hbe
  -- breaks and tasks
  have hkind : (x.Kind = 4 ∧ x.Item = bk ∧ breaksP l' ((bk + 1 : Nat) : Int) = some (v.Breaks.length : Int) ∧ noB l' = l.drop tk ∧ (stopS p x).2 = false) ∨
    (x.Kind ≠ 4 ∧ (x.Kind = 1 ∨ x.Kind = 2 ∨ x.Kind = 3) ∧ breaksP l' (bk : Int) = some (v.Breaks.length : Int) ∧ l[tk]? = some x ∧ noB l' = l.drop (tk + 1) ∧ (stopS p x).2 = true) := by
   by_cases h4 : x.Kind = 4
   ·left
    rw [breaksP, if_pos h4] at hb
    split at hb
    ·rename_i hit
     refine ⟨h4, hit, ?_, ?_, by rw [stop_brk p h4]⟩
     ·rw [show ((bk + 1 : Nat) : Int) = (bk : Int) + 1 by omega]; exact hb
     ·rw [← hnb, noB_brk h4]
    ·cases hb
   ·right
    rw [breaksP, if_neg h4] at hb
    have hs : (stopS p x).2 = true := by
     cases hs : (stopS p x).2 with
     | true => rfl
     | false => exact absurd (hF.brk x hx hs).1 h4
    rw [noB_task h4] at hnb
    have ht : tk < l.length := by
     apply Classical.byContradiction
     intro hn
     rw [List.drop_of_length_le (by omega)] at hnb
     cases hnb
    rw [List.drop_eq_getElem_cons ht] at hnb
    injection hnb with hn1 hn2
    refine ⟨h4, ?_, hb, ?_, hn2, hs⟩
    ·have := kind_of hs
     omega
    ·rw [List.getElem?_eq_getElem ht, hn1]
  have ih := fun bk' tk' h5 h6 => goS_right law hV hF hL l ls hls n hn hn2 t hend l' (i + 1) (nextS p v ls i x s)
   ⟨x, (stopAt p v s.at_ x).Place, comeS p v x s, beginS p v x s - comeS p v x s, (stopAt p v s.at_ x).Service, ls.getD (i + 1) [], s.tm + cellS p.Time s.at_ (stopAt p v s.at_ x).Place, s.di + cellS p.Dist s.at_ (stopAt p v s.at_ x).Place⟩
   bk' tk' (fun y hy => hm y (List.mem_cons_of_mem _ hy)) (by omega) hN (by simp only [nextS]; omega) rfl rfl rfl (by simp only [nextS]; omega) h5 h6 hcell.2.2 hg
  have hstep : ∀ bk' tk' : Nat, (if x.Kind = 4 then bk + 1 else bk) = bk' → (if x.Kind = 1 ∨ x.Kind = 2 ∨ x.Kind = 3 then tk + 1 else tk) = tk' →
    (x.Kind = 4 → bk < v.Breaks.length ∧ stopAt p v s.at_ x = ⟨s.at_, (rdBreak v.Breaks bk).Service, (rdBreak v.Breaks bk).Windows⟩) →
    (x.Kind ≠ 4 → (stopS p x).2 = true ∧ l[tk]? = some x ∧ stopAt p v s.at_ x = (stopS p x).1 ∧ (x.Kind = 1 ∨ x.Kind = 2 ∨ x.Kind = 3)) →
    (∃ new, t.steps = (nextS p v ls i x s).steps ++ new ∧ RightGo p v l (fun w z k => w = t.wt ∧ z = t.se ∧ k = v.Breaks.length)
     (some ⟨x, (stopAt p v s.at_ x).Place, comeS p v x s, beginS p v x s - comeS p v x s, (stopAt p v s.at_ x).Service, ls.getD (i + 1) [], s.tm + cellS p.Time s.at_ (stopAt p v s.at_ x).Place, s.di + cellS p.Dist s.at_ (stopAt p v s.at_ x).Place⟩)
     (nextS p v ls i x s).wt (nextS p v ls i x s).se bk' tk' (new ++ [lastStep p v ls n t])) →
    ∃ new, t.steps = s.steps ++ new ∧ RightGo p v l (fun w z k => w = t.wt ∧ z = t.se ∧ k = v.Breaks.length) (some b) s.wt s.se bk tk (new ++ [lastStep p v ls n t]) := by
   rintro bk' tk' e5 e6 hbrk htask ⟨new, hn1, hn2⟩
   refine ⟨_ :: new, by rw [hn1]; simp only [nextS, List.append_assoc, List.singleton_append]; rfl, ?_⟩
   rw [List.cons_append]
   refine ⟨⟨getD_under hls (i + 1) (by omega), ?_, ?_, ?_, ?_, ?_, fun h => ?_, fun h => ?_, fun h h' => ?_⟩, fun b' hb' => ?_, ?_⟩
   ·simp only []; omega
   ·simp only []; omega
   ·simp only []; omega
   ·simp only [nextS] at h1; simp only []; omega
   ·simp only [nextS] at h2; simp only []; omega
   ·obtain ⟨k1, k2⟩ := hbrk h
    simp only [k2] at hag ⊢
    refine ⟨k1, trivial, ?_⟩
    rw [show comeS p v x s + (beginS p v x s - comeS p v x s) = beginS p v x s by omega]
    exact hag
   ·obtain ⟨k1, k2, k3, _⟩ := htask (by simp only [] at h; omega)
    simp only [k3] at hag ⊢
    refine ⟨k1, k2, trivial, trivial, ?_⟩
    rw [show comeS p v x s + (beginS p v x s - comeS p v x s) = beginS p v x s by omega]
    exact hag
   ·exact absurd (htask h).2.2.2 h'
   ·obtain rfl := Option.some.inj hb'
    refine ⟨?_, ?_, ?_, ?_, ?_⟩ <;> simp only [e2] <;> omega
   ·simp only [e5, e6]
    rw [show s.wt + (beginS p v x s - comeS p v x s) = (nextS p v ls i x s).wt by simp only [nextS]; omega]
    exact hn2
  rcases hkind with ⟨k1, k2, k3, k4, k5⟩ | ⟨k1, k2, k3, k4, k5, k6⟩
  ·have hbl := breaksP_le l' _ _ k3
   refine hstep (bk + 1) tk (if_pos k1) (if_neg (by omega)) (fun _ => ⟨by omega, ?_⟩) (fun h => absurd k1 h) (ih (bk + 1) tk k3 k4)
   unfold stopAt
   rw [k5, if_neg (by decide), k2]
  ·refine hstep bk (tk + 1) (if_neg k1) (if_pos k2) (fun h => absurd h k1) (fun _ => ⟨k6, k4, ?_, k2⟩) (ih bk (tk + 1) k3 k5)
   unfold stopAt
   rw [if_pos k6]
/-! ### Fit's plan -/
theorem tryS_is {p : TProblem} {vehicle : Int} {l : List TVisit} {n : Nat} : ∀ (r : List (Nat × Nat)), (tryS p vehicle l n r).2 ≠ 167 → ∃ e ∈ r, tryS p vehicle l n r = ofS p vehicle (setS l (([(e.1 : Int), (e.2 : Int)] : List Int).take n))
 | [], h => absurd rfl h
 | (i, k) :: r, h => by
  rw [tryS] at h ⊢
  by_cases h1 : (ofS p vehicle (setS l (([(i : Int), (k : Int)] : List Int).take n))).2 = 167
  ·rw [if_pos h1] at h ⊢
   obtain ⟨e, he, e2⟩ := tryS_is r h
   exact ⟨e, List.mem_cons_of_mem _ he, e2⟩
  ·rw [if_neg h1]
   exact ⟨(i, k), List.mem_cons_self, rfl⟩
theorem fitS_at {p : TProblem} (law : Law p) {vehicle : Int} {l : List TVisit} (h : (fitS p vehicle l).2 = 0) :
  0 ≤ vehicle ∧ vehicle < (p.Vehicles.length : Int) ∧ ∃ L, fitS p vehicle l = ofS p vehicle L ∧ noB L = l ∧ onB L = brks 0 (rdVehicle p.Vehicles vehicle).Breaks.length := by
 by_cases hv : vehicle < 0 ∨ (p.Vehicles.length : Int) ≤ vehicle
 ·unfold fitS at h
  rw [if_pos hv] at h
  cases h
 have hV := law.veh _ (rdVeh_mem p.Vehicles vehicle (by omega) (by omega))
 have hn := hV.brl
 refine ⟨by omega, by omega, ?_⟩
 by_cases hk : l.any (fun x => decide (x.Kind = 4)) = true
 ·unfold fitS at h
  rw [if_neg hv, if_pos hk] at h
  cases h
 have hkk : ∀ x ∈ l, x.Kind ≠ 4 := fun x hx h4 => hk (List.any_eq_true.2 ⟨x, hx, decide_eq_true h4⟩)
 unfold fitS at h ⊢
 rw [if_neg hv, if_neg hk] at h ⊢
 generalize hN : (rdVehicle p.Vehicles vehicle).Breaks.length = n at *
 by_cases h0 : n = 0
 ·subst h0
  rw [if_pos rfl]
  refine ⟨l, rfl, noB_same hkk, ?_⟩
  unfold onB
  rw [brks, List.filter_eq_nil_iff]
  intro x hx
  simp [hkk x hx]
 ·rw [if_neg h0] at h ⊢
  obtain ⟨e, he, e2⟩ := tryS_is _ (show (tryS p vehicle l n (pairsFrom n l.length 0)).2 ≠ 167 by rw [h]; decide)
  obtain ⟨m1, m2, m3⟩ := mem_pairs.1 he
  rw [setS_take l hn m1] at e2
  exact ⟨_, e2, setP_noB l _ 0 0 hkk, by rw [setP_onB l _ 0 0 hkk (take_mem m1 m2), take_len hn]⟩
theorem ofS_zero {p : TProblem} {vehicle : Int} {l : List TVisit} (h : (ofS p vehicle l).2 ≠ 0) : (ofS p vehicle l).1 = zPlan := by
 by_cases hv : vehicle < 0 ∨ (p.Vehicles.length : Int) ≤ vehicle
 ·unfold ofS
  rw [if_pos hv]
 by_cases hf : firstS p (rdVehicle p.Vehicles vehicle) l = 0
 ·rcases ofS_two hv hf with e | ⟨e, -⟩
  ·rw [e]
  ·exact absurd e h
 ·unfold ofS
  rw [if_neg hv, if_pos hf]
theorem fitS_zero {p : TProblem} {vehicle : Int} {l : List TVisit} (h : (fitS p vehicle l).2 ≠ 0) : (fitS p vehicle l).1 = zPlan := by
 unfold fitS at h ⊢
 split
 ·rfl
 rename_i hv
 rw [if_neg hv] at h
 split
 ·rfl
 rename_i hk
 rw [if_neg hk] at h
 split
 ·rename_i h0
  rw [if_pos h0] at h
  exact ofS_zero h
 ·rename_i h0
  rw [if_neg h0] at h
  by_cases h1 : (tryS p vehicle l (rdVehicle p.Vehicles vehicle).Breaks.length (pairsFrom (rdVehicle p.Vehicles vehicle).Breaks.length l.length 0)).2 = 167
  ·have key : ∀ r : List (Nat × Nat), (tryS p vehicle l (rdVehicle p.Vehicles vehicle).Breaks.length r).2 = 167 → (tryS p vehicle l (rdVehicle p.Vehicles vehicle).Breaks.length r).1 = zPlan := by
    intro r
    induction r with
    | nil => intro _; rfl
    | cons e r ih =>
     obtain ⟨i, k⟩ := e
     intro h
     rw [tryS] at h ⊢
     split
     ·rename_i h2
      rw [if_pos h2] at h
      exact ih h
     ·rename_i h2
      rw [if_neg h2] at h
      exact absurd h h2
   exact key _ h1
  ·obtain ⟨e, he, e2⟩ := tryS_is _ h1
   rw [e2] at h ⊢
   exact ofS_zero h
theorem noB_onB_len (l : List TVisit) : l.length = (noB l).length + (onB l).length := by
 induction l with
 | nil => rfl
 | cons x l ih =>
  by_cases h : x.Kind = 4
  ·rw [noB_brk h, onB_brk h, List.length_cons, List.length_cons]; omega
  ·rw [noB_task h, onB_task h, List.length_cons, List.length_cons]; omega
theorem brks_len : ∀ (n : Nat) (k : Int), (brks k n).length = n
 | 0, _ => rfl
 | n + 1, k => by rw [brks, List.length_cons, brks_len n]
/-- A plan that is right. -/
structure PlanRight (p : TProblem) (v : TVehicle) (vehicle : Int) (l : List TVisit) (x : TPlan) : Prop where
 veh : x.Vehicle = vehicle
 len : x.Steps.length = l.length + 2 + v.Breaks.length
 go : RightGo p v l (fun w z k => w = x.Wait ∧ z = x.Service ∧ k = v.Breaks.length) none 0 0 0 0 x.Steps
 s0 : (rdStep x.Steps 0).Arrival = v.Shift.From ∧ (rdStep x.Steps 0).Place = v.Start
 en : (rdStep x.Steps (l.length + 1 + v.Breaks.length : Nat)).Place = v.End ∧ x.Time = (rdStep x.Steps (l.length + 1 + v.Breaks.length : Nat)).Time ∧ x.Dist = (rdStep x.Steps (l.length + 1 + v.Breaks.length : Nat)).Dist
 cost : x.Cost = v.Fixed + x.Time * v.PerTime + x.Dist * v.PerDist
 bt : -1000 ≤ x.Time ∧ x.Time ≤ 10000000000
 bd : -1000 ≤ x.Dist ∧ x.Dist ≤ 10000000000
theorem fit_right {p : TProblem} (law : Law p) {vehicle : Int} {l : List TVisit} (hl : l.length ≤ 60) (h : (fitS p vehicle l).2 = 0) : PlanRight p (rdVehicle p.Vehicles vehicle) vehicle l (fitS p vehicle l).1 := by
 obtain ⟨v0, v1, L, e, hnb, hob⟩ := fitS_at law h
 rw [e] at h ⊢
 have hv : ¬ (vehicle < 0 ∨ (p.Vehicles.length : Int) ≤ vehicle) := by omega
 have hV := law.veh _ (rdVeh_mem p.Vehicles vehicle v0 v1)
 have hn := hV.brl
 have hf : firstS p (rdVehicle p.Vehicles vehicle) L = 0 := by
  apply Classical.byContradiction
  intro hne
  unfold ofS at h
  rw [if_neg hv, if_pos hne] at h
  exact hne h
 have hLl : L.length = l.length + (rdVehicle p.Vehicles vehicle).Breaks.length := by rw [noB_onB_len L, hnb, hob, brks_len]
 rcases ofS_two hv hf with e1 | ⟨-, t, ht, et, lt⟩
 ·rw [e1] at h; cases h
 rw [et]
 have hF := firstOk_of hf
 generalize rdVehicle p.Vehicles vehicle = v at *
 have hT := beginTS_ok hV (loadsS p L)
 have hbp : breaksP L 0 = some (v.Breaks.length : Int) := by
  obtain ⟨a, b, h1, -⟩ := hF.scan
  rw [scan_same] at h1
  cases h2 : breaksP L 0 with
  | none => rw [h2] at h1; cases h1
  | some m =>
   rw [h2] at h1
   simp only [Option.map_some, Option.some.injEq, Prod.mk.injEq] at h1
   rw [h1.1]
 have hll : (loadsS p L).length = L.length + 1 := by simp [loadsS]
 have hsh := hV.shift
 obtain ⟨new, hn1, hn2⟩ := goS_right law hV hF (by omega) l (loadsS p L) hF.loads L.length (by omega) (by omega) t lt L 0 (beginTS v (loadsS p L)) ⟨⟨5, 0⟩, v.Start, v.Shift.From, 0, 0, (loadsS p L).getD 0 [], 0, 0⟩ 0 0 (fun x hx => hx) (by omega) hT
  (by simp [beginTS]) rfl rfl rfl (Int.le_refl _) hbp (by rw [hnb]; rfl) hF.travel ht
 have hTl : TSOk L.length t := by
  have key : ∀ (l' : List TVisit) (i : Nat) (s : TS), (∀ x ∈ l', x ∈ L) → TSOk i s → goS p v (loadsS p L) l' i s = some t → TSOk (i + l'.length) t := by
   intro l'
   induction l' with
   | nil =>
    intro i s _ h1 h2
    rw [goS, Option.some.injEq] at h2
    subst h2
    exact h1
   | cons x l' ih =>
    intro i s hm h1 h2
    rw [goS] at h2
    split at h2
    ·rename_i hok
     have := ih (i + 1) _ (fun y hy => hm y (List.mem_cons_of_mem _ hy)) (nextS_ok law hV hF _ h1 x (hm x List.mem_cons_self) hok) h2
     rw [List.length_cons, show i + (l'.length + 1) = i + 1 + l'.length by omega]
     exact this
    ·cases h2
  have := key L 0 _ (fun x hx => hx) hT ht
  rwa [Nat.zero_add] at this
 have hlen := hTl.len
 have h3 := law.time t.at_ v.End
 have h4 := law.dist t.at_ v.End
 have h5 := hTl.tm; have h6 := hTl.di
 have hen : endS p v vehicle (loadsS p L) L.length t = (⟨vehicle, t.steps ++ [lastStep p v (loadsS p L) L.length t], t.tm + cellS p.Time t.at_ v.End, t.di + cellS p.Dist t.at_ v.End, t.wt, t.se,
  v.Fixed + (t.tm + cellS p.Time t.at_ v.End) * v.PerTime + (t.di + cellS p.Dist t.at_ v.End) * v.PerDist⟩, 0) := by
  unfold endS
  rw [if_neg lt]
  rfl
 rw [hen]
 have hst : t.steps ++ [lastStep p v (loadsS p L) L.length t] = (⟨⟨5, 0⟩, v.Start, v.Shift.From, 0, 0, (loadsS p L).getD 0 [], 0, 0⟩ : TStep) :: (new ++ [lastStep p v (loadsS p L) L.length t]) := by
  rw [hn1]
  rfl
 refine ⟨rfl, ?_, ?_, ?_, ?_, rfl, ?_, ?_⟩
 ·simp only [List.length_append, hlen, List.length_cons, List.length_nil]; omega
 ·simp only []
  rw [hst]
  refine ⟨⟨getD_under hF.loads 0 (by omega), ?_, by simp, by simp, by simp, by simp, fun h => by simp at h, fun h => by simp at h, fun _ _ => ⟨rfl, ?_⟩⟩, (fun b' hb' => by cases hb'), ?_⟩
  ·simp only []; omega
  ·simp only [Int.add_zero]
   rw [startS, if_pos hsh.2.1, if_neg (by omega)]
  ·simpa [beginTS] using hn2
 ·simp only []
  rw [hst]
  exact ⟨rfl, rfl⟩
 ·simp only []
  have : rdStep (t.steps ++ [lastStep p v (loadsS p L) L.length t]) ((l.length + 1 + v.Breaks.length : Nat) : Int) = lastStep p v (loadsS p L) L.length t := by
   unfold rdStep
   rw [Int.toNat_natCast, List.getD_eq_getElem?_getD, List.getElem?_append_right (by omega), show l.length + 1 + v.Breaks.length - t.steps.length = 0 by omega]
   rfl
  rw [this]
  exact ⟨rfl, rfl, rfl⟩
 ·simp only []; omega
 ·simp only []; omega
end Go.Proofs.Ytemjpgmfignhnaa
