/- Contract: all tasks of a problem, by falling priority.
Conditions: at most twelve tasks, priorities from 0 to 100. -/
import Derived.Test.YtemjpgmfignhnaaS12c
namespace Go.Proofs.Ytemjpgmfignhnaa
open Go.RowKit Go.Proofs.YtemjpgmfignhnaaW.PrintWords Go.Proofs.YtemjpgmfignhnaaW.PrintLast Go.Proofs.YtemjpgmfignhnaaW.PrintMore
set_option linter.unusedVariables false
set_option linter.unusedSimpArgs false
attribute [local go_sem] cell_growBy Option.some_or
theorem kTask_mkM (w : World) (base : Nat) (ok : Nat → Prop) (x : TTask) : kTask.M w base ok x [.bool x.Ship, .int .i64 x.Item] := ⟨[.bool x.Ship], _, rfl, rfl, rfl⟩
/-- A row of tasks of the call's own, as the sort takes it. -/
theorem TB_of_R {w : World} {base : Nat} {ok : Nat → Prop} {v : Value} {xs : List TTask} (h : kTask.R 48 w base ok v xs) (hn : 0 < xs.length) :
    ∃ g cap, v = .slice (some ⟨g, 0, none⟩) xs.length cap ∧ base ≤ g ∧ xs.length ≤ cap ∧ TB w g xs := by
  obtain ⟨h0, inner, hown, hr⟩ := h
  rcases hown.2 with ⟨_, hz⟩ | ⟨g, cap, cur, hv, hg, hh, h1, h2, h3, h4⟩
  · omega
  · refine ⟨g, cap, hv, hg, h1, cur, hh, fun i hi => ?_⟩
    have hm := hr.2 i xs[i] (List.getElem?_eq_getElem hi)
    have hk := kTask_open (kTask.K_of_M hm)
    have e : xs.getD i zTask = xs[i] := by simp [List.getElem?_eq_getElem hi]
    rw [e]
    have ei : inner = cur.toList.take (xs.length * 2) := h4.symm
    have hsz : kTask.sz = 2 := rfl
    rw [hsz] at hk
    have c0 : ((inner.drop (i * 2)).take 2)[0]? = some (.bool xs[i].Ship) := by rw [hk]; rfl
    have c1 : ((inner.drop (i * 2)).take 2)[1]? = some (.int .i64 xs[i].Item) := by rw [hk]; rfl
    rw [List.getElem?_take, if_pos (by omega), List.getElem?_drop, ei, List.getElem?_take, if_pos (by omega)] at c0 c1
    exact ⟨by simpa using c0, by simpa using c1⟩
theorem TB.reads {w : World} {g : Nat} {ts : List TTask} (h : TB w g ts) (hn : ts.length ≤ 1000) : Kd.C kTask w (some ⟨g, 0, none⟩) ts.length ts := by
  refine ⟨rfl, by omega, fun _ => ⟨_, rfl, fun j x hj => ⟨[.bool x.Ship, .int .i64 x.Item], rfl, kTask_mk _ _, fun i u hu => ?_⟩⟩⟩
  have hjl := (List.getElem?_eq_some_iff.1 hj).1
  have hx : ts.getD j zTask = x := by rw [List.getD_eq_getElem?_getD, hj]; rfl
  obtain ⟨c0, c1⟩ := h.cells j hjl
  rw [hx] at c0 c1
  rw [add_plain]
  match i, hu with
  | 0, hu => obtain rfl := Option.some.inj hu; exact c0
  | 1, hu => obtain rfl := Option.some.inj hu; exact c1
set_option maxHeartbeats 8000000 in
set_option maxRecDepth 100000 in
theorem isort_nil (c : Value) (w : World) : Calls Try.prog 131 #[.slice none 0 0, .int .i64 0, .int .i64 0, c] w fun e w' => e = .returned (.tuple #[]) ∧ w = w' := by
  go_enter Try.func131, Try.ntmps131
  go_wp2
  refine wp_loop_rounds 1 ?_
  rw [rounds_succ]
  go_wp2
  go_end0
  exact ⟨rfl, rfl⟩
set_option maxHeartbeats 8000000 in
set_option maxRecDepth 100000 in
theorem stable_nil (c : Value) (w : World) : Calls Try.prog 118 #[.slice none 0 0, .int .i64 0, c] w fun e w' => e = .returned (.tuple #[]) ∧ w = w' := by
  go_enter Try.func118, Try.ntmps118
  go_wp2
  refine wp_loop_rounds 1 ?_
  rw [rounds_succ]
  go_wp2_with (go_at_call 131; refine (isort_nil _ _).mono ?_; rintro e w' ⟨rfl, rfl⟩)
  refine wp_loop_rounds 1 ?_
  rw [rounds_succ]
  go_wp2
  go_end0
  exact ⟨rfl, rfl⟩
set_option maxHeartbeats 8000000 in
set_option maxRecDepth 100000 in
theorem sortStable_nil (c : Value) (w : World) : Calls Try.prog 92 #[.slice none 0 0, c] w fun e w' => e = .returned (.tuple #[]) ∧ w = w' := by
  go_enter Try.func92, Try.ntmps92
  go_wp2_with (go_at_call 118; refine (stable_nil _ _).mono ?_; rintro e w' ⟨rfl, rfl⟩)
  go_end0
  exact ⟨rfl, rfl⟩
def jobTasks (k : Nat) : List TTask := (List.range k).map fun (i : Nat) => (⟨false, (i : Int)⟩ : TTask)
def shipTasks (k : Nat) : List TTask := (List.range k).map fun (i : Nat) => (⟨true, (i : Int)⟩ : TTask)
def tasksS (p : TProblem) : List TTask := sortS (prioS p) (jobTasks p.Jobs.length ++ shipTasks p.Shipments.length)
theorem jobTasks_succ (k : Nat) : jobTasks (k + 1) = jobTasks k ++ [⟨false, (k : Int)⟩] := by simp [jobTasks, List.range_succ]
theorem shipTasks_succ (k : Nat) : shipTasks (k + 1) = shipTasks k ++ [⟨true, (k : Int)⟩] := by simp [shipTasks, List.range_succ]
theorem jobTasks_length (k : Nat) : (jobTasks k).length = k := by simp [jobTasks]
theorem shipTasks_length (k : Nat) : (shipTasks k).length = k := by simp [shipTasks]
theorem insIn_length (pr : TTask → Int) : ∀ (j : Nat) (l : List TTask), (insIn pr j l).length = l.length
  | 0, l => rfl
  | j + 1, l => by
    unfold insIn
    split
    · rw [insIn_length pr j]
      simp [swpAt]
    · rfl
theorem insOut_length (pr : TTask → Int) : ∀ (m i : Nat) (l : List TTask), (insOut pr m i l).length = l.length
  | 0, _, l => rfl
  | m + 1, i, l => by rw [insOut, insOut_length pr m, insIn_length]
theorem sortS_length (pr : TTask → Int) (l : List TTask) : (sortS pr l).length = l.length := insOut_length _ _ _ _
def TasksPost (ts : List TTask) (w : World) (e : Ending) (w' : World) : Prop :=
  ∃ A c, e = .returned (.slice A ts.length c) ∧ ts.length ≤ c ∧ Kd.C kTask w' A ts.length ts ∧ Below w.heap.size w w' ∧ (0 < ts.length → ∃ g, A = some ⟨g, 0, none⟩ ∧ w.heap.size ≤ g ∧ TB w' g ts)
set_option maxHeartbeats 8000000 in
set_option maxRecDepth 100000 in
theorem tasks_any (q : PV) (p : TProblem) (w : World) (hl : Lens p) (hq : q.Ok p w) (hp : ∀ t, 0 ≤ prioS p t ∧ prioS p t ≤ 100) (hn : p.Jobs.length + p.Shipments.length ≤ 12) :
    Calls Try.prog 34 #[q.val p] w (TasksPost (tasksS p) w) := by
  have HL := Aside0.mk hl
  have HQ := Aside0.mk hq
  have HP := Aside0.mk hp
  have n4 : p.Jobs.length ≤ 12 := by omega
  have n5 : p.Shipments.length ≤ 12 := by omega
  clear hl hq hp
  unfold PV.val
  go_enter Try.func34, Try.ntmps34
  go_wp2
  go_loopw [3, 9] (fun v i wr => ∃ k : Nat, k ≤ p.Jobs.length ∧ i = .int .i64 k ∧ Aside0 (kTask.R 48 wr (w.heap.size + 1) (fun _ => True) v (jobTasks k)) ∧ Aside0 (Below (w.heap.size + 1) (w.alloc (.cells #[.int .i64 p.Dims, .int .i64 p.Time.N, .slice q.a1 p.Time.Cells.length q.c1, .int .i64 p.Dist.N, .slice q.a2 p.Dist.Cells.length q.c2, .slice q.a3 p.Vehicles.length q.c3, .slice q.a4 p.Jobs.length q.c4, .slice q.a5 p.Shipments.length q.c5] 29)) wr) ∧ Aside0 (k = 0 → v = .slice none 0 0)) (fun _ i _ => p.Jobs.length - (intOf i).toNat)
  case atStart => exact ⟨0, Nat.zero_le _, rfl, ⟨Kd.R_nil _ _ _ _ _⟩, ⟨Below.refl _ _⟩, ⟨fun _ => rfl⟩⟩
  case round =>
    obtain ⟨k, hk, rfl, HR, HW, HN⟩ := hrel
    have HW' : Aside0 (Below (w.alloc (.cells #[.int .i64 p.Dims, .int .i64 p.Time.N, .slice q.a1 p.Time.Cells.length q.c1, .int .i64 p.Dist.N, .slice q.a2 p.Dist.Cells.length q.c2, .slice q.a3 p.Vehicles.length q.c3, .slice q.a4 p.Jobs.length q.c4, .slice q.a5 p.Shipments.length q.c5] 29)).heap.size (w.alloc (.cells #[.int .i64 p.Dims, .int .i64 p.Time.N, .slice q.a1 p.Time.Cells.length q.c1, .int .i64 p.Dist.N, .slice q.a2 p.Dist.Cells.length q.c2, .slice q.a3 p.Vehicles.length q.c3, .slice q.a4 p.Jobs.length q.c4, .slice q.a5 p.Shipments.length q.c5] 29)) wr) := ⟨by simpa using HW.out⟩
    by_cases hlt : k < p.Jobs.length
    · go_wp2_with (at_builtin; refine Kd.R_append kTask (w0 := (w.alloc (.cells #[.int .i64 p.Dims, .int .i64 p.Time.N, .slice q.a1 p.Time.Cells.length q.c1, .int .i64 p.Dist.N, .slice q.a2 p.Dist.Cells.length q.c2, .slice q.a3 p.Vehicles.length q.c3, .slice q.a4 p.Jobs.length q.c4, .slice q.a5 p.Shipments.length q.c5] 29))) (w.heap.size + 1) rfl (.tmp 12) (.tmp 15) 51 48 (.agg #[.bool false, .int .i64 0]) 16 rfl Try.underlying51 infoTask rfl (by decide) (by omega) u3 (jobTasks k) ⟨false, (k : Int)⟩ _ (fun _ => True) (fun _ => False) rfl rfl (kTask_mkM _ _ _ _) (fun _ h => h.elim) (fun _ _ => trivial) HR.out HW.out (by have := HW'.out.size; simp at this; omega) (by simp [jobTasks_length]; omega) ?_; intro v1 w1 ho hb hg hat; have HO := Aside0.mk ho; have HBN := Aside0.mk hb; clear ho hb hg hat)
      go_roundw
      case rel => exact ⟨k + 1, by omega, by go_num, ⟨jobTasks_succ k ▸ HO.out⟩, HBN, ⟨fun h => by omega⟩⟩
      case measure => simp [intOf]; omega
    · obtain rfl : k = p.Jobs.length := by omega
      obtain ⟨qc, qf⟩ := bcell HW'.out
      have zr : w.heap.size < wr.heap.size := by
        have := HW'.out.size
        simp at this
        omega
      go_wp2
      have HRa := HR
      have HWa := HW
      have HNa := HN
      obtain ⟨wa, rfl⟩ : ∃ wa : World, wa = wr := ⟨_, rfl⟩
      clear HR HW HN HW' hk hlt qc qf zr
      go_loopw [3, 21] (fun v i wr => ∃ k : Nat, k ≤ p.Shipments.length ∧ i = .int .i64 k ∧ Aside0 (kTask.R 48 wr (w.heap.size + 1) (fun _ => True) v (jobTasks p.Jobs.length ++ shipTasks k)) ∧ Aside0 (Below (w.heap.size + 1) (w.alloc (.cells #[.int .i64 p.Dims, .int .i64 p.Time.N, .slice q.a1 p.Time.Cells.length q.c1, .int .i64 p.Dist.N, .slice q.a2 p.Dist.Cells.length q.c2, .slice q.a3 p.Vehicles.length q.c3, .slice q.a4 p.Jobs.length q.c4, .slice q.a5 p.Shipments.length q.c5] 29)) wr) ∧ Aside0 (p.Jobs.length + k = 0 → v = .slice none 0 0)) (fun _ i _ => p.Shipments.length - (intOf i).toNat)
      case atStart => exact ⟨0, Nat.zero_le _, rfl, ⟨by simpa [shipTasks] using HRa.out⟩, HWa, HNa⟩
      case round =>
        clear HRa HWa HNa
        obtain ⟨k, hk, rfl, HR, HW, HN⟩ := hrel
        have HW' : Aside0 (Below (w.alloc (.cells #[.int .i64 p.Dims, .int .i64 p.Time.N, .slice q.a1 p.Time.Cells.length q.c1, .int .i64 p.Dist.N, .slice q.a2 p.Dist.Cells.length q.c2, .slice q.a3 p.Vehicles.length q.c3, .slice q.a4 p.Jobs.length q.c4, .slice q.a5 p.Shipments.length q.c5] 29)).heap.size (w.alloc (.cells #[.int .i64 p.Dims, .int .i64 p.Time.N, .slice q.a1 p.Time.Cells.length q.c1, .int .i64 p.Dist.N, .slice q.a2 p.Dist.Cells.length q.c2, .slice q.a3 p.Vehicles.length q.c3, .slice q.a4 p.Jobs.length q.c4, .slice q.a5 p.Shipments.length q.c5] 29)) wr) := ⟨by simpa using HW.out⟩
        by_cases hlt : k < p.Shipments.length
        · go_wp2_with (at_builtin; refine Kd.R_append kTask (w0 := (w.alloc (.cells #[.int .i64 p.Dims, .int .i64 p.Time.N, .slice q.a1 p.Time.Cells.length q.c1, .int .i64 p.Dist.N, .slice q.a2 p.Dist.Cells.length q.c2, .slice q.a3 p.Vehicles.length q.c3, .slice q.a4 p.Jobs.length q.c4, .slice q.a5 p.Shipments.length q.c5] 29))) (w.heap.size + 1) rfl (.tmp 24) (.tmp 27) 51 48 (.agg #[.bool false, .int .i64 0]) 16 rfl Try.underlying51 infoTask rfl (by decide) (by omega) u3 (jobTasks p.Jobs.length ++ shipTasks k) ⟨true, (k : Int)⟩ _ (fun _ => True) (fun _ => False) rfl rfl (kTask_mkM _ _ _ _) (fun _ h => h.elim) (fun _ _ => trivial) HR.out HW.out (by have := HW'.out.size; simp at this; omega) (by simp [jobTasks_length, shipTasks_length]; omega) ?_; intro v1 w1 ho hb hg hat; have HO := Aside0.mk ho; have HBN := Aside0.mk hb; clear ho hb hg hat)
          go_roundw
          case rel => exact ⟨k + 1, by omega, by go_num, ⟨by have h := HO.out; rw [List.append_assoc, ← shipTasks_succ] at h; exact h⟩, HBN, ⟨fun h => by omega⟩⟩
          case measure => simp [intOf]; omega
        · obtain rfl : k = p.Shipments.length := by omega
          have HB1 : Aside0 (Below w.heap.size w wr) := ⟨below_to (below_alloc (Below.refl _ _) _) HW'.out⟩
          have hlen : (jobTasks p.Jobs.length ++ shipTasks p.Shipments.length).length = p.Jobs.length + p.Shipments.length := by simp [jobTasks_length, shipTasks_length]
          rcases Nat.eq_zero_or_pos (p.Jobs.length + p.Shipments.length) with h0 | h0
          · have hnil : jobTasks p.Jobs.length ++ shipTasks p.Shipments.length = [] := List.eq_nil_of_length_eq_zero (by omega)
            have hu := HN.out h0
            subst hu
            have ht : tasksS p = [] := by rw [tasksS, hnil]; rfl
            have HZ := Aside0.mk ht
            clear hnil hlen ht
            go_wp2_with (go_at_call 92; refine (sortStable_nil _ _).mono ?_; rintro e w' ⟨rfl, rfl⟩)
            go_ret
            rw [HZ.out]
            exact ⟨none, 0, rfl, Nat.le_refl _, Kd.C_nil _ _, HB1.out, fun h => absurd h (Nat.lt_irrefl 0)⟩
          · have hlenA := Aside0.mk hlen
            obtain ⟨g, cap, hv, hg, hcap, htb⟩ := TB_of_R HR.out (by omega)
            rw [hlen] at hv hcap
            subst hv
            have hcmp : ∀ W, Below (w.heap.size + 1) (w.alloc (.cells #[.int .i64 p.Dims, .int .i64 p.Time.N, .slice q.a1 p.Time.Cells.length q.c1, .int .i64 p.Dist.N, .slice q.a2 p.Dist.Cells.length q.c2, .slice q.a3 p.Vehicles.length q.c3, .slice q.a4 p.Jobs.length q.c4, .slice q.a5 p.Shipments.length q.c5] 29)) W → ∀ x y : TTask, Calls Try.prog 93 #[taskVal x, taskVal y, .pointer (some ⟨w.heap.size, 0, none⟩)] W fun e w' => e = .returned (.int .i64 (prioS p y - prioS p x)) ∧ Below W.heap.size W w' := fun W hW x y =>
              cmpT_any q p x y w.heap.size W HL.out (HQ.out.below (below_to (below_alloc (Below.refl _ _) _) (show Below (w.alloc (.cells #[.int .i64 p.Dims, .int .i64 p.Time.N, .slice q.a1 p.Time.Cells.length q.c1, .int .i64 p.Dist.N, .slice q.a2 p.Dist.Cells.length q.c2, .slice q.a3 p.Vehicles.length q.c3, .slice q.a4 p.Jobs.length q.c4, .slice q.a5 p.Shipments.length q.c5] 29)).heap.size (w.alloc (.cells #[.int .i64 p.Dims, .int .i64 p.Time.N, .slice q.a1 p.Time.Cells.length q.c1, .int .i64 p.Dist.N, .slice q.a2 p.Dist.Cells.length q.c2, .slice q.a3 p.Vehicles.length q.c3, .slice q.a4 p.Jobs.length q.c4, .slice q.a5 p.Shipments.length q.c5] 29)) W by simpa using hW))) HP.out ((hW.block w.heap.size (by omega)).trans (blk_new _ _))
            have HC := Aside0.mk (sortStable_any (w.heap.size + 1) (w.alloc (.cells #[.int .i64 p.Dims, .int .i64 p.Time.N, .slice q.a1 p.Time.Cells.length q.c1, .int .i64 p.Dist.N, .slice q.a2 p.Dist.Cells.length q.c2, .slice q.a3 p.Vehicles.length q.c3, .slice q.a4 p.Jobs.length q.c4, .slice q.a5 p.Shipments.length q.c5] 29)) (prioS p) ⟨w.heap.size, 0, none⟩ hcmp g cap hg (jobTasks p.Jobs.length ++ shipTasks p.Shipments.length) wr HW.out (by have := HW'.out.size; simp at this; omega) htb (by omega))
            rw [hlen] at HC
            clear hcmp htb hlen
            go_wp2_with (go_at_call 92; refine HC.out.mono ?_; rintro e w1 ⟨rfl, h1, h2, h3⟩)
            have h4 : (tasksS p).length = p.Jobs.length + p.Shipments.length := by rw [tasksS, sortS_length]; exact hlenA.out
            go_ret
            refine ⟨some ⟨g, 0, none⟩, cap, by rw [h4]; rfl, by omega, TB.reads h3 (by have h := h4; unfold tasksS at h; omega), ?_, fun _ => ⟨g, rfl, by omega, h3⟩⟩
            exact below_to (below_alloc (Below.refl _ _) _) (show Below (w.alloc (.cells #[.int .i64 p.Dims, .int .i64 p.Time.N, .slice q.a1 p.Time.Cells.length q.c1, .int .i64 p.Dist.N, .slice q.a2 p.Dist.Cells.length q.c2, .slice q.a3 p.Vehicles.length q.c3, .slice q.a4 p.Jobs.length q.c4, .slice q.a5 p.Shipments.length q.c5] 29)).heap.size (w.alloc (.cells #[.int .i64 p.Dims, .int .i64 p.Time.N, .slice q.a1 p.Time.Cells.length q.c1, .int .i64 p.Dist.N, .slice q.a2 p.Dist.Cells.length q.c2, .slice q.a3 p.Vehicles.length q.c3, .slice q.a4 p.Jobs.length q.c4, .slice q.a5 p.Shipments.length q.c5] 29)) w1 by simpa using h1)
end Go.Proofs.Ytemjpgmfignhnaa
