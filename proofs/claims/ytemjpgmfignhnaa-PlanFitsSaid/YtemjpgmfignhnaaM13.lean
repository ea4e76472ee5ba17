/- Contracts: layer 12's fixed fact, and Lawful.
Conditions: lists no longer than memory allows. -/
import Derived.Test.YtemjpgmfignhnaaM0
import Derived.Test.YtemjpgmfignhnaaM3
import Derived.Test.YtemjpgmfignhnaaC12k
import Derived.Test.YtemjpgmfignhnaaM7
import Derived.Test.YtemjpgmfignhnaaM8
import Derived.Test.YtemjpgmfignhnaaM12
namespace Go.Proofs.Ytemjpgmfignhnaa
open Go.RowKit Go.Proofs.YtemjpgmfignhnaaW.PrintWords Go.Proofs.YtemjpgmfignhnaaW.PrintLast Go.Proofs.YtemjpgmfignhnaaW.PrintMore
set_option linter.unusedVariables false
set_option linter.unusedSimpArgs false
attribute [local go_sem] cell_growBy Option.some_or
set_option maxHeartbeats 8000000 in
set_option maxRecDepth 100000 in
theorem lawful_any (q : PV) (p : TProblem) (w : World) (hl : Good p) (hq : q.Ok p w) :
  Calls Try.prog 29 #[q.val p] w fun e w' => e = .returned (.bool (decide (checkS p = 0))) ∧ Below w.heap.size w w' := by
 have HC := Aside0.mk (fun W (hb : Below w.heap.size w W) => refCheck_any q p W hl (hq.below hb))
 have d : (checkS p == 0) = decide (checkS p = 0) := rfl
 clear hl hq
 unfold PV.val at HC ⊢
 go_enter Try.func29, Try.ntmps29
 go_wp2_with (go_at_call 28; refine (HC.out _ clb).mono ?_; skip; rintro e w1 ⟨rfl, hb⟩; have HB1 := Aside0.mk hb; obtain ⟨qc1, qf1⟩ := bcell hb; have hs1 := hb.size; (try simp at hs1); (try have z01 : w.heap.size < w1.heap.size := (by omega)); (try have z11 : w.heap.size + 1 < w1.heap.size := (by omega)); (try have z21 : w.heap.size + 1 + 1 < w1.heap.size := (by omega)); (try have z31 : w.heap.size + 1 + 1 + 1 < w1.heap.size := (by omega)); (try have z41 : w.heap.size + 1 + 1 + 1 + 1 < w1.heap.size := (by omega)); clear hs1 hb; skip)
 go_ret
 exact ⟨by first | rfl | simp [d], clb⟩
end Go.Proofs.Ytemjpgmfignhnaa
/- The plan that layer 14's statements begin with, in plain words.
Conditions: none. -/
namespace Go.Proofs.Ytemjpgmfignhnaa
open Go.RowKit Go.Proofs.YtemjpgmfignhnaaW.PrintWords Go.Proofs.YtemjpgmfignhnaaW.PrintLast Go.Proofs.YtemjpgmfignhnaaW.PrintMore
set_option linter.unusedVariables false
set_option linter.unusedSimpArgs false
/-- A plan's value. -/
def planV (x : TPlan) (A : Option Addr) (c : Nat) : Value := .agg #[.int .i64 x.Vehicle, .slice A x.Steps.length c, .int .i64 x.Time, .int .i64 x.Dist, .int .i64 x.Wait, .int .i64 x.Service, .int .i64 x.Cost]
structure MadeX (p : TProblem) (v : TVehicle) (x : TPlan) : Prop where
 made : Made p v x
 brk : ∀ s ∈ x.Steps, s.Visit.Kind = 4 → 0 ≤ s.Visit.Item ∧ s.Visit.Item < v.Breaks.length
 arr : ∀ s ∈ x.Steps, -1 ≤ s.Arrival ∧ s.Arrival ≤ 34000000
 len : x.Steps.length ≤ 100
theorem Chain.arr {p : TProblem} {v : TVehicle} (law : Law p) : ∀ (l : List TStep) (t at_ : Int), Chain p v t at_ l → 0 ≤ t → t ≤ 2000000 → ∀ s ∈ l, -1 ≤ s.Arrival ∧ s.Arrival ≤ 34000000
 | [], _, _, h, _, _ => h.elim
 | [a], t, at_, h, h0, h1 => by
  intro s hs
  obtain rfl := List.mem_singleton.1 hs
  have := law.time at_ s.Place
  have := h.1
  omega
 | a :: b :: r, t, at_, h, h0, h1 => by
  obtain ⟨h2, h3, h4, h5, h6, h7⟩ := h
  intro s hs
  rcases List.mem_cons.1 hs with rfl | hs
  ·have := law.time at_ s.Place
   omega
  ·have k1 := startS_ok h5.win h6
   have k2 := h5.ser
   exact Chain.arr law (b :: r) _ _ h7 (by omega) (by omega) s hs
end Go.Proofs.Ytemjpgmfignhnaa

/- Contract: two plans that are the same. The document's Same.
Conditions: lists no longer than memory allows. -/
namespace Go.Proofs.Ytemjpgmfignhnaa
open Go.RowKit Go.Proofs.YtemjpgmfignhnaaW.PrintWords Go.Proofs.YtemjpgmfignhnaaW.PrintLast Go.Proofs.YtemjpgmfignhnaaW.PrintMore
set_option linter.unusedVariables false
set_option linter.unusedSimpArgs false
attribute [local go_sem] cell_growBy Option.some_or
set_option maxHeartbeats 4000000 in
set_option maxRecDepth 100000 in
theorem sameInts_any (l : List Int) (A A' : Option Addr) (c c' : Nat) (w : World) (hr : Kd.C (Kd.int .i64) w A l.length l) (hr' : Kd.C (Kd.int .i64) w A' l.length l) (hn : l.length ≤ 4611686018427387904) :
  Calls Try.prog 57 #[.slice A l.length c, .slice A' l.length c'] w fun e w' => e = .returned (.bool true) ∧ Below w.heap.size w w' := by
 have HR := Aside0.mk hr
 have HR' := Aside0.mk hr'
 clear hr hr'
 go_enter Try.func57, Try.ntmps57
 go_wp2
 go_loopw [5] (fun i wr => ∃ k : Nat, k ≤ l.length ∧ i = .int .i64 k ∧ Aside0 (Below w.heap.size w wr)) (fun i _ => l.length - (intOf i).toNat)
 case atStart => exact ⟨0, Nat.zero_le _, rfl, ⟨Below.refl _ _⟩⟩
 case round =>
  obtain ⟨k, hk, rfl, HB1⟩ := hrel
  by_cases hlt : k < l.length
  ·have r0 : (0 : Int) ≤ (k : Int) := by omega
   have r1 : (k : Int) < (l.length : Int) := by omega
   obtain ⟨ad, ea, x0⟩ := Kd.at_int (Kd.C_below HR.out HB1.out) (k : Int) r0 r1
   obtain ⟨ad', ea', y0⟩ := Kd.at_int (Kd.C_below HR'.out HB1.out) (k : Int) r0 r1
   subst ea
   subst ea'
   simp only [Int.toNat_natCast] at x0 y0
   go_wp2
   go_quiet (fail)
   go_wp2
   go_roundw
   case rel => exact ⟨k + 1, by omega, by go_num, ⟨clb⟩⟩
   case measure => simp [intOf]; omega
  ·obtain rfl : k = l.length := by omega
   go_wp2
   go_ret
   exact ⟨rfl, clb⟩
set_option maxHeartbeats 40000000 in
set_option maxRecDepth 100000 in
theorem refSame_any (x : TPlan) (A A' : Option Addr) (c c' : Nat) (w : World) (hr : Kd.C kStep w A x.Steps.length x.Steps) (hr' : Kd.C kStep w A' x.Steps.length x.Steps) (hn : x.Steps.length ≤ 4611686018427387904) (hs : ∀ s ∈ x.Steps, s.Load.length ≤ 4611686018427387904) :
  Calls Try.prog 52 #[planV x A c, planV x A' c'] w fun e w' => e = .returned (.bool true) ∧ Below w.heap.size w w' := by
 have HR := Aside0.mk hr
 have HR' := Aside0.mk hr'
 have HS := Aside0.mk hs
 clear hr hr' hs
 unfold planV
 go_enter Try.func52, Try.ntmps52
 go_wp2
 go_loopw [5] (fun i wr => ∃ k : Nat, k ≤ x.Steps.length ∧ i = .int .i64 k ∧ Aside0 (Below ((w.alloc (.cells #[.int .i64 x.Vehicle, .slice A x.Steps.length c, .int .i64 x.Time, .int .i64 x.Dist, .int .i64 x.Wait, .int .i64 x.Service, .int .i64 x.Cost] 74 (0, 0))).alloc (.cells #[.int .i64 x.Vehicle, .slice A' x.Steps.length c', .int .i64 x.Time, .int .i64 x.Dist, .int .i64 x.Wait, .int .i64 x.Service, .int .i64 x.Cost] 74 (0, 0))).heap.size ((w.alloc (.cells #[.int .i64 x.Vehicle, .slice A x.Steps.length c, .int .i64 x.Time, .int .i64 x.Dist, .int .i64 x.Wait, .int .i64 x.Service, .int .i64 x.Cost] 74 (0, 0))).alloc (.cells #[.int .i64 x.Vehicle, .slice A' x.Steps.length c', .int .i64 x.Time, .int .i64 x.Dist, .int .i64 x.Wait, .int .i64 x.Service, .int .i64 x.Cost] 74 (0, 0))) wr)) (fun i _ => x.Steps.length - (intOf i).toNat)
 case atStart => exact ⟨0, Nat.zero_le _, rfl, ⟨Below.refl _ _⟩⟩
 case round =>
  obtain ⟨k, hk, rfl, HW⟩ := hrel
  have HB0 : Aside0 (Below w.heap.size w wr) := ⟨below_to (below_alloc (below_alloc (Below.refl _ _) _) _) HW.out⟩
  have ha := blk_below (blk_alloc (blk_new w (.cells #[.int .i64 x.Vehicle, .slice A x.Steps.length c, .int .i64 x.Time, .int .i64 x.Dist, .int .i64 x.Wait, .int .i64 x.Service, .int .i64 x.Cost] 74 (0, 0))) (.cells #[.int .i64 x.Vehicle, .slice A' x.Steps.length c', .int .i64 x.Time, .int .i64 x.Dist, .int .i64 x.Wait, .int .i64 x.Service, .int .i64 x.Cost] 74 (0, 0))) HW.out
  have hb := blk_below (blk_is (W := w.alloc (.cells #[.int .i64 x.Vehicle, .slice A x.Steps.length c, .int .i64 x.Time, .int .i64 x.Dist, .int .i64 x.Wait, .int .i64 x.Service, .int .i64 x.Cost] 74 (0, 0))) (o := (.cells #[.int .i64 x.Vehicle, .slice A' x.Steps.length c', .int .i64 x.Time, .int .i64 x.Dist, .int .i64 x.Wait, .int .i64 x.Service, .int .i64 x.Cost] 74 (0, 0))) (n := w.heap.size + 1) (by simp)) HW.out
  obtain ⟨p_0, p_1, p_2, p_3, p_4, p_5, p_6⟩ := cells7 ha; have p_w := blk_lt ha
  obtain ⟨q_0, q_1, q_2, q_3, q_4, q_5, q_6⟩ := cells7 hb; have q_w := blk_lt hb
  clear ha hb
  by_cases hlt : k < x.Steps.length
  ·have r0 : (0 : Int) ≤ (k : Int) := by omega
   have r1 : (k : Int) < (x.Steps.length : Int) := by omega
   obtain ⟨ad, A6, c6, ea, x0, x1, x2, x3, x4, x5, x6, x7, x8, l6, hC6⟩ := atNStep (Kd.C_below HR.out HB0.out) k hlt
   obtain ⟨ad', A7, c7, ea', y0, y1, y2, y3, y4, y5, y6, y7, y8, l7, hC7⟩ := atNStep (Kd.C_below HR'.out HB0.out) k hlt
   subst ea
   subst ea'
   have hll := HS.out _ (List.getElem_mem hlt)
   generalize x.Steps[k] = s at *
   have HC6 := Aside0.mk hC6
   have HC7 := Aside0.mk hC7
   have hxlb := World.block_lt_of_cell? _ _ x0
   have hylb := World.block_lt_of_cell? _ _ y0
   clear hC6 hC7 l6 l7
   go_upto_region 6 with fail
   go_cut [6, 7] (fun s6 s7 wx => ∃ b b' : Nat, s6 = .pointer (some ⟨b, 0, none⟩) ∧ s7 = .pointer (some ⟨b', 0, none⟩) ∧ Aside0 (wx.heap[b]? = some (.cells #[.int .i64 s.Visit.Kind, .int .i64 s.Visit.Item, .int .i64 s.Place, .int .i64 s.Arrival, .int .i64 s.Wait, .int .i64 s.Service, .slice A6 s.Load.length c6, .int .i64 s.Time, .int .i64 s.Dist] 91 (0, 0)) ∧ wx.heap[b']? = some (.cells #[.int .i64 s.Visit.Kind, .int .i64 s.Visit.Item, .int .i64 s.Place, .int .i64 s.Arrival, .int .i64 s.Wait, .int .i64 s.Service, .slice A7 s.Load.length c7, .int .i64 s.Time, .int .i64 s.Dist] 91 (0, 0))) ∧ Aside0 (Below wr.heap.size wr wx))
   case first =>
    go_region_held3 (fun W' => Below wr.heap.size wr W' ∧ ∀ a : Addr, a.block < wr.heap.size → W'.cell? a = wr.cell? a) (first | exact hl_start _ | exact hl_of chn)
      (first
       | fail)
    all_goals
     go_wp2_with fail
     go_meet
     first
      | exact ⟨_, _, rfl, rfl, ⟨blk_alloc (blk_new _ _) _, blk_is (by simp)⟩, ⟨(And.left (show Below wr.heap.size wr _ ∧ _ from by assumption))⟩⟩
      | exact ⟨_, _, rfl, rfl, ⟨blk_is (by simp), blk_alloc (blk_new _ _) _⟩, ⟨(And.left (show Below wr.heap.size wr _ ∧ _ from by assumption))⟩⟩
   case rest =>
    as_aux_lemma =>
    obtain ⟨b, b', rfl, rfl, HX, HBx⟩ := hcut
    have hxa := HX.out.1
    have hxb := HX.out.2
    have f_0 := blk_cell hxa 0; have f_1 := blk_cell hxa 1; have f_2 := blk_cell hxa 2; have f_3 := blk_cell hxa 3; have f_4 := blk_cell hxa 4; have f_5 := blk_cell hxa 5; have f_6 := blk_cell hxa 6; have f_7 := blk_cell hxa 7; have f_8 := blk_cell hxa 8; simp only [List.getElem?_toArray, List.getElem?_cons_succ, List.getElem?_cons_zero] at f_0 f_1 f_2 f_3 f_4 f_5 f_6 f_7 f_8; have f_w := blk_lt hxa
    have g_0 := blk_cell hxb 0; have g_1 := blk_cell hxb 1; have g_2 := blk_cell hxb 2; have g_3 := blk_cell hxb 3; have g_4 := blk_cell hxb 4; have g_5 := blk_cell hxb 5; have g_6 := blk_cell hxb 6; have g_7 := blk_cell hxb 7; have g_8 := blk_cell hxb 8; simp only [List.getElem?_toArray, List.getElem?_cons_succ, List.getElem?_cons_zero] at g_0 g_1 g_2 g_3 g_4 g_5 g_6 g_7 g_8; have g_w := blk_lt hxb
    have HSI := Aside0.mk (sameInts_any s.Load A6 A7 c6 c7 wc (Kd.C_below HC6.out HBx.out) (Kd.C_below HC7.out HBx.out) hll)
    have HWc := Aside0.mk (below_to HW.out HBx.out)
    clear hxa hxb x0 x1 x2 x3 x4 x5 x6 x7 x8 y0 y1 y2 y3 y4 y5 y6 y7 y8 p_0 p_1 p_2 p_3 p_4 p_5 p_6 p_w q_0 q_1 q_2 q_3 q_4 q_5 q_6 q_w hxlb hylb HC6 HC7 HR HR' HS HW HB0 HX
    go_wp2_with (go_at_call 57; refine HSI.out.mono ?_; rintro e w9 ⟨rfl, hb⟩; have HB9 := Aside0.mk hb; clear hb)
    go_roundw
    case rel => exact ⟨k + 1, by omega, by go_num, ⟨below_to HWc.out HB9.out⟩⟩
    case measure => simp [intOf]; omega
  ·obtain rfl : k = x.Steps.length := by omega
   go_wp2
   go_ret
   exact ⟨rfl, HB0.out⟩
end Go.Proofs.Ytemjpgmfignhnaa

/- Where the breaks stand changes no sum and no first error, in plain words.
Conditions: a lawful problem. -/
namespace Go.Proofs.Ytemjpgmfignhnaa
open Go.RowKit Go.Proofs.YtemjpgmfignhnaaW.PrintWords Go.Proofs.YtemjpgmfignhnaaW.PrintLast Go.Proofs.YtemjpgmfignhnaaW.PrintMore
set_option linter.unusedVariables false
set_option linter.unusedSimpArgs false
def noB (l : List TVisit) : List TVisit := l.filter (fun x => decide (x.Kind ≠ 4))
def onB (l : List TVisit) : List TVisit := l.filter (fun x => decide (x.Kind = 4))
theorem noB_brk {x : TVisit} (h : x.Kind = 4) (l : List TVisit) : noB (x :: l) = noB l := by simp [noB, List.filter_cons, h]
theorem noB_task {x : TVisit} (h : x.Kind ≠ 4) (l : List TVisit) : noB (x :: l) = x :: noB l := by simp [noB, List.filter_cons, h]
theorem onB_brk {x : TVisit} (h : x.Kind = 4) (l : List TVisit) : onB (x :: l) = x :: onB l := by simp [onB, List.filter_cons, h]
theorem onB_task {x : TVisit} (h : x.Kind ≠ 4) (l : List TVisit) : onB (x :: l) = onB l := by simp [onB, List.filter_cons, h]
theorem noB_app (a b : List TVisit) : noB (a ++ b) = noB a ++ noB b := by simp [noB]
theorem onB_app (a b : List TVisit) : onB (a ++ b) = onB a ++ onB b := by simp [onB]
theorem noB_same {l : List TVisit} (h : ∀ x ∈ l, x.Kind ≠ 4) : noB l = l := by
 unfold noB
 exact List.filter_eq_self.2 (fun x hx => decide_eq_true (h x hx))
def brks : Int → Nat → List TVisit
 | _, 0 => []
 | k, n + 1 => ⟨4, k⟩ :: brks (k + 1) n
theorem brks_app : ∀ (m n : Nat) (k : Int), brks k m ++ brks (k + m) n = brks k (m + n)
 | 0, n, k => by simp [brks]
 | m + 1, n, k => by
  rw [brks, List.cons_append, show m + 1 + n = (m + n) + 1 by omega, brks, ← brks_app m n (k + 1)]
  rw [show k + ((m + 1 : Nat) : Int) = k + 1 + (m : Int) by omega]
theorem brkTake_is (i : Int) : ∀ (bs : List Int) (k : Int), brkTake i bs k = brks k (brkTake i bs k).length ∧ (brkTake i bs k).length + (brkDrop i bs).length = bs.length
 | [], k => ⟨rfl, rfl⟩
 | a :: r, k => by
  rw [brkTake, brkDrop]
  by_cases h : a ≤ i
  ·rw [if_pos h, if_pos h, List.length_cons, List.length_cons]
   obtain ⟨h1, h2⟩ := brkTake_is i r (k + 1)
   exact ⟨by rw [brks, ← h1], by omega⟩
  ·rw [if_neg h, if_neg h]
   exact ⟨rfl, by simp⟩
theorem brkTake_all (i : Int) : ∀ (bs : List Int) (k : Int), (∀ a ∈ bs, a ≤ i) → brkTake i bs k = brks k bs.length
 | [], k, _ => rfl
 | a :: r, k, h => by
  rw [brkTake, if_pos (h a List.mem_cons_self), brkTake_all i r (k + 1) (fun x hx => h x (List.mem_cons_of_mem _ hx))]
  rfl
theorem brkDrop_mem (i : Int) : ∀ (bs : List Int), ∀ a ∈ brkDrop i bs, a ∈ bs
 | [], a, h => h
 | b :: r, a, h => by
  rw [brkDrop] at h
  split at h
  ·exact List.mem_cons_of_mem _ (brkDrop_mem i r a h)
  ·exact h
theorem brks_kind : ∀ (n : Nat) (k : Int), ∀ x ∈ brks k n, x.Kind = 4
 | 0, k, x, h => by cases h
 | n + 1, k, x, h => by
  rcases List.mem_cons.1 h with rfl | h
  ·rfl
  ·exact brks_kind n (k + 1) x h
theorem noB_brks (n : Nat) (k : Int) : noB (brks k n) = [] := by
 unfold noB
 rw [List.filter_eq_nil_iff]
 intro x hx
 simp [brks_kind n k x hx]
theorem onB_brks (n : Nat) (k : Int) : onB (brks k n) = brks k n := List.filter_eq_self.2 (fun x hx => decide_eq_true (brks_kind n k x hx))
theorem setP_noB : ∀ (l : List TVisit) (bs : List Int) (i k : Int), (∀ x ∈ l, x.Kind ≠ 4) → noB (setP l bs i k) = l
 | [], bs, i, k, _ => by rw [setP, (brkTake_is i bs k).1, noB_brks]
 | x :: l, bs, i, k, h => by
  rw [setP, noB_app, (brkTake_is i bs k).1, noB_brks, List.nil_append, noB_task (h x List.mem_cons_self), setP_noB l _ _ _ (fun y hy => h y (List.mem_cons_of_mem _ hy))]
theorem setP_onB : ∀ (l : List TVisit) (bs : List Int) (i k : Int), (∀ x ∈ l, x.Kind ≠ 4) → (∀ a ∈ bs, a ≤ i + l.length) → onB (setP l bs i k) = brks k bs.length
 | [], bs, i, k, _, hb => by rw [setP, brkTake_all i bs k (fun a ha => by simpa using hb a ha), onB_brks]
 | x :: l, bs, i, k, h, hb => by
  rw [setP, onB_app, onB_task (h x List.mem_cons_self), setP_onB l _ _ _ (fun y hy => h y (List.mem_cons_of_mem _ hy)) (fun a ha => by
   have := hb a (brkDrop_mem i bs a ha)
   rw [List.length_cons] at this
   omega)]
  obtain ⟨h1, h2⟩ := brkTake_is i bs k
  rw [← h2, ← brks_app, ← h1]
  rw [h1, onB_brks]
/-! ### the first error -/
/-! ### the sums -/
theorem ofS_two {p : TProblem} {vehicle : Int} {l : List TVisit} (hv : ¬ (vehicle < 0 ∨ (p.Vehicles.length : Int) ≤ vehicle)) (hf : firstS p (rdVehicle p.Vehicles vehicle) l = 0) :
  ofS p vehicle l = (zPlan, 167) ∨ ((ofS p vehicle l).2 = 0 ∧ ∃ s, goS p (rdVehicle p.Vehicles vehicle) (loadsS p l) l 0 (beginTS (rdVehicle p.Vehicles vehicle) (loadsS p l)) = some s ∧ (ofS p vehicle l).1 = (endS p (rdVehicle p.Vehicles vehicle) vehicle (loadsS p l) l.length s).1 ∧
   ¬ (rdVehicle p.Vehicles vehicle).Shift.To < s.leave + cellS p.Time s.at_ (rdVehicle p.Vehicles vehicle).End) := by
 unfold ofS
 rw [if_neg hv, if_neg (show ¬ firstS p (rdVehicle p.Vehicles vehicle) l ≠ 0 by simpa using hf)]
 cases goS p (rdVehicle p.Vehicles vehicle) (loadsS p l) l 0 (beginTS (rdVehicle p.Vehicles vehicle) (loadsS p l)) with
 | none => exact .inl rfl
 | some s =>
  show endS p (rdVehicle p.Vehicles vehicle) vehicle (loadsS p l) l.length s = _ ∨ (endS p (rdVehicle p.Vehicles vehicle) vehicle (loadsS p l) l.length s).2 = 0 ∧ _
  by_cases h : (rdVehicle p.Vehicles vehicle).Shift.To < s.leave + cellS p.Time s.at_ (rdVehicle p.Vehicles vehicle).End
  ·left
   unfold endS
   rw [if_pos h]
  ·right
   refine ⟨?_, s, rfl, rfl, h⟩
   unfold endS
   rw [if_neg h]
/-! ### Fit finds a place where there is one -/
theorem mem_pairs {n m : Nat} {e : Nat × Nat} : e ∈ pairsFrom n m 0 ↔ e.1 ≤ e.2 ∧ e.2 ≤ m ∧ (n = 1 → e.1 = e.2) := by
 obtain ⟨a, b⟩ := e
 unfold pairsFrom
 rw [List.mem_flatMap]
 constructor
 ·rintro ⟨i, hi, h⟩
  rw [List.mem_range'_1] at hi
  split at h
  ·rename_i hn
   simp only [List.mem_singleton, Prod.mk.injEq] at h
   simp only
   omega
  ·rename_i hn
   unfold rowPairs at h
   rw [List.mem_map] at h
   obtain ⟨j, hj, h⟩ := h
   rw [List.mem_range'_1] at hj
   simp only [Prod.mk.injEq] at h
   simp only
   exact ⟨by omega, by omega, fun h => absurd h hn⟩
 ·rintro ⟨h1, h2, h3⟩
  simp only at h1 h2 h3
  refine ⟨a, List.mem_range'_1.2 (by omega), ?_⟩
  split
  ·rename_i hn
   rw [h3 hn]
   exact List.mem_singleton.2 rfl
  ·unfold rowPairs
   exact List.mem_map.2 ⟨b, List.mem_range'_1.2 (by omega), rfl⟩
theorem setS_take (l : List TVisit) {n i k : Nat} (hn : n ≤ 2) (hik : i ≤ k) : setS l (([(i : Int), (k : Int)] : List Int).take n) = setP l (([(i : Int), (k : Int)] : List Int).take n) 0 0 := by
 match n, hn with
 | 0, _ => exact (set_same0 l).symm
 | 1, _ => exact (set_same1 l (by omega)).symm
 | 2, _ => exact (set_same2 l (by omega) (by omega)).symm
theorem take_len {n i k : Nat} (hn : n ≤ 2) : (([(i : Int), (k : Int)] : List Int).take n).length = n := by
 simp; omega
theorem take_mem {n i k m : Nat} (hik : i ≤ k) (hk : k ≤ m) : ∀ a ∈ (([(i : Int), (k : Int)] : List Int).take n), a ≤ 0 + (m : Int) := by
 intro a ha
 have := List.mem_of_mem_take ha
 simp only [List.mem_cons, List.not_mem_nil, or_false] at this
 omega
end Go.Proofs.Ytemjpgmfignhnaa

/- A shift that begins later comes nowhere earlier; a second vehicle that is the same drives the same plan: in plain words.
Conditions: a lawful problem. -/
namespace Go.Proofs.Ytemjpgmfignhnaa
open Go.RowKit Go.Proofs.YtemjpgmfignhnaaW.PrintWords Go.Proofs.YtemjpgmfignhnaaW.PrintLast Go.Proofs.YtemjpgmfignhnaaW.PrintMore
set_option linter.unusedVariables false
set_option linter.unusedSimpArgs false
/-! ### a shift that begins later -/
structure TSle (s t : TS) : Prop where
 leave : s.leave ≤ t.leave
 at_ : s.at_ = t.at_
 tm : s.tm = t.tm
 di : s.di = t.di
 len : s.steps.length = t.steps.length
 st : ∀ (k : Nat) (a b : TStep), s.steps[k]? = some a → t.steps[k]? = some b → a.Arrival ≤ b.Arrival ∧ a.Time = b.Time
/-! ### a second vehicle that is the same -/
end Go.Proofs.Ytemjpgmfignhnaa

/- A plan that Fit makes is right step by step, in plain words.
Conditions: a lawful problem. -/
namespace Go.Proofs.Ytemjpgmfignhnaa
open Go.RowKit Go.Proofs.YtemjpgmfignhnaaW.PrintWords Go.Proofs.YtemjpgmfignhnaaW.PrintLast Go.Proofs.YtemjpgmfignhnaaW.PrintMore
set_option linter.unusedVariables false
set_option linter.unusedSimpArgs false
/-- What holds of a step, bk breaks and tk tasks being behind it. -/
structure StepRight (p : TProblem) (v : TVehicle) (l : List TVisit) (bk tk : Nat) (s : TStep) : Prop where
 load : underB s.Load v.Cap = true
 arr : 0 ≤ s.Arrival ∧ s.Arrival ≤ 34000000
 wait : 0 ≤ s.Wait ∧ s.Wait ≤ 1000000
 ser : 0 ≤ s.Service ∧ s.Service ≤ 1000000
 tm : -100000000000 ≤ s.Time ∧ s.Time ≤ 100000000000
 di : -100000000000 ≤ s.Dist ∧ s.Dist ≤ 100000000000
 brk : s.Visit.Kind = 4 → bk < v.Breaks.length ∧ s.Service = (rdBreak v.Breaks bk).Service ∧ startS (s.Arrival + s.Wait) (rdBreak v.Breaks bk).Windows = (s.Arrival + s.Wait, true)
 task : s.Visit.Kind = 1 ∨ s.Visit.Kind = 2 ∨ s.Visit.Kind = 3 → (stopS p s.Visit).2 = true ∧ l[tk]? = some s.Visit ∧ s.Place = (stopS p s.Visit).1.Place ∧ s.Service = (stopS p s.Visit).1.Service ∧ startS (s.Arrival + s.Wait) (stopS p s.Visit).1.Windows = (s.Arrival + s.Wait, true)
 other : s.Visit.Kind ≠ 4 → ¬ (s.Visit.Kind = 1 ∨ s.Visit.Kind = 2 ∨ s.Visit.Kind = 3) → s.Service = 0 ∧ startS (s.Arrival + s.Wait) [v.Shift] = (s.Arrival + s.Wait, true)
structure LinkRight (p : TProblem) (b s : TStep) : Prop where
 tm : 0 ≤ cellS p.Time b.Place s.Place
 di : 0 ≤ cellS p.Dist b.Place s.Place
 arr : s.Arrival = b.Arrival + b.Wait + b.Service + cellS p.Time b.Place s.Place
 time : s.Time = b.Time + cellS p.Time b.Place s.Place
 dist : s.Dist = b.Dist + cellS p.Dist b.Place s.Place
def RightGo (p : TProblem) (v : TVehicle) (l : List TVisit) (F : Int → Int → Nat → Prop) : Option TStep → Int → Int → Nat → Nat → List TStep → Prop
 | _, w, z, bk, _, [] => F w z bk
 | b, w, z, bk, tk, s :: r => StepRight p v l bk tk s ∧ (∀ b', b = some b' → LinkRight p b' s) ∧
   RightGo p v l F (some s) (w + s.Wait) (z + s.Service) (if s.Visit.Kind = 4 then bk + 1 else bk) (if s.Visit.Kind = 1 ∨ s.Visit.Kind = 2 ∨ s.Visit.Kind = 3 then tk + 1 else tk) r
theorem WinOk.le {l : List TWindow} (h : WinOk l) : ∀ w ∈ l, w.From ≤ w.To := fun w hw => by
 obtain ⟨i, hi, rfl⟩ := List.mem_iff_getElem.1 hw
 exact (h.pos i hi).2.1
/-! ### Fit's plan -/
theorem tryS_is {p : TProblem} {vehicle : Int} {l : List TVisit} {n : Nat} : ∀ (r : List (Nat × Nat)), (tryS p vehicle l n r).2 ≠ 167 → ∃ e ∈ r, tryS p vehicle l n r = ofS p vehicle (setS l (([(e.1 : Int), (e.2 : Int)] : List Int).take n))
 | [], h => absurd rfl h
 | (i, k) :: r, h => by
  rw [tryS] at h ⊢
  by_cases h1 : (ofS p vehicle (setS l (([(i : Int), (k : Int)] : List Int).take n))).2 = 167
  ·rw [if_pos h1] at h ⊢
   obtain ⟨e, he, e2⟩ := tryS_is r h
   exact ⟨e, List.mem_cons_of_mem _ he, e2⟩
  ·rw [if_neg h1]
   exact ⟨(i, k), List.mem_cons_self, rfl⟩
theorem fitS_at {p : TProblem} (law : Law p) {vehicle : Int} {l : List TVisit} (h : (fitS p vehicle l).2 = 0) :
  0 ≤ vehicle ∧ vehicle < (p.Vehicles.length : Int) ∧ ∃ L, fitS p vehicle l = ofS p vehicle L ∧ noB L = l ∧ onB L = brks 0 (rdVehicle p.Vehicles vehicle).Breaks.length := by
 by_cases hv : vehicle < 0 ∨ (p.Vehicles.length : Int) ≤ vehicle
 ·unfold fitS at h
  rw [if_pos hv] at h
  cases h
 have hV := law.veh _ (rdVeh_mem p.Vehicles vehicle (by omega) (by omega))
 have hn := hV.brl
 refine ⟨by omega, by omega, ?_⟩
 by_cases hk : l.any (fun x => decide (x.Kind = 4)) = true
 ·unfold fitS at h
  rw [if_neg hv, if_pos hk] at h
  cases h
 have hkk : ∀ x ∈ l, x.Kind ≠ 4 := fun x hx h4 => hk (List.any_eq_true.2 ⟨x, hx, decide_eq_true h4⟩)
 unfold fitS at h ⊢
 rw [if_neg hv, if_neg hk] at h ⊢
 generalize hN : (rdVehicle p.Vehicles vehicle).Breaks.length = n at *
 by_cases h0 : n = 0
 ·subst h0
  rw [if_pos rfl]
  refine ⟨l, rfl, noB_same hkk, ?_⟩
  unfold onB
  rw [brks, List.filter_eq_nil_iff]
  intro x hx
  simp [hkk x hx]
 ·rw [if_neg h0] at h ⊢
  obtain ⟨e, he, e2⟩ := tryS_is _ (show (tryS p vehicle l n (pairsFrom n l.length 0)).2 ≠ 167 by rw [h]; decide)
  obtain ⟨m1, m2, m3⟩ := mem_pairs.1 he
  rw [setS_take l hn m1] at e2
  exact ⟨_, e2, setP_noB l _ 0 0 hkk, by rw [setP_onB l _ 0 0 hkk (take_mem m1 m2), take_len hn]⟩
theorem ofS_zero {p : TProblem} {vehicle : Int} {l : List TVisit} (h : (ofS p vehicle l).2 ≠ 0) : (ofS p vehicle l).1 = zPlan := by
 by_cases hv : vehicle < 0 ∨ (p.Vehicles.length : Int) ≤ vehicle
 ·unfold ofS
  rw [if_pos hv]
 by_cases hf : firstS p (rdVehicle p.Vehicles vehicle) l = 0
 ·rcases ofS_two hv hf with e | ⟨e, -⟩
  ·rw [e]
  ·exact absurd e h
 ·unfold ofS
  rw [if_neg hv, if_pos hf]
theorem fitS_zero {p : TProblem} {vehicle : Int} {l : List TVisit} (h : (fitS p vehicle l).2 ≠ 0) : (fitS p vehicle l).1 = zPlan := by
 unfold fitS at h ⊢
 split
 ·rfl
 rename_i hv
 rw [if_neg hv] at h
 split
 ·rfl
 rename_i hk
 rw [if_neg hk] at h
 split
 ·rename_i h0
  rw [if_pos h0] at h
  exact ofS_zero h
 ·rename_i h0
  rw [if_neg h0] at h
  by_cases h1 : (tryS p vehicle l (rdVehicle p.Vehicles vehicle).Breaks.length (pairsFrom (rdVehicle p.Vehicles vehicle).Breaks.length l.length 0)).2 = 167
  ·have key : ∀ r : List (Nat × Nat), (tryS p vehicle l (rdVehicle p.Vehicles vehicle).Breaks.length r).2 = 167 → (tryS p vehicle l (rdVehicle p.Vehicles vehicle).Breaks.length r).1 = zPlan := by
    intro r
    induction r with
    | nil => intro _; rfl
    | cons e r ih =>
     obtain ⟨i, k⟩ := e
     intro h
     rw [tryS] at h ⊢
     split
     ·rename_i h2
      rw [if_pos h2] at h
      exact ih h
     ·rename_i h2
      rw [if_neg h2] at h
      exact absurd h h2
   exact key _ h1
  ·obtain ⟨e, he, e2⟩ := tryS_is _ h1
   rw [e2] at h ⊢
   exact ofS_zero h
theorem noB_onB_len (l : List TVisit) : l.length = (noB l).length + (onB l).length := by
 induction l with
 | nil => rfl
 | cons x l ih =>
  by_cases h : x.Kind = 4
  ·rw [noB_brk h, onB_brk h, List.length_cons, List.length_cons]; omega
  ·rw [noB_task h, onB_task h, List.length_cons, List.length_cons]; omega
theorem brks_len : ∀ (n : Nat) (k : Int), (brks k n).length = n
 | 0, _ => rfl
 | n + 1, k => by rw [brks, List.length_cons, brks_len n]
/-- A plan that is right. -/
structure PlanRight (p : TProblem) (v : TVehicle) (vehicle : Int) (l : List TVisit) (x : TPlan) : Prop where
 veh : x.Vehicle = vehicle
 len : x.Steps.length = l.length + 2 + v.Breaks.length
 go : RightGo p v l (fun w z k => w = x.Wait ∧ z = x.Service ∧ k = v.Breaks.length) none 0 0 0 0 x.Steps
 s0 : (rdStep x.Steps 0).Arrival = v.Shift.From ∧ (rdStep x.Steps 0).Place = v.Start
 en : (rdStep x.Steps (l.length + 1 + v.Breaks.length : Nat)).Place = v.End ∧ x.Time = (rdStep x.Steps (l.length + 1 + v.Breaks.length : Nat)).Time ∧ x.Dist = (rdStep x.Steps (l.length + 1 + v.Breaks.length : Nat)).Dist
 cost : x.Cost = v.Fixed + x.Time * v.PerTime + x.Dist * v.PerDist
 bt : -1000 ≤ x.Time ∧ x.Time ≤ 10000000000
 bd : -1000 ≤ x.Dist ∧ x.Dist ≤ 10000000000
end Go.Proofs.Ytemjpgmfignhnaa
