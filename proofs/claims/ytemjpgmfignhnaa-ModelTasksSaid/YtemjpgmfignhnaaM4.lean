/- The stable sort by priority in plain words: it permutes, it is sorted, and a list sorted likewise with the same members is it.
Conditions: none. -/
import Derived.Test.YtemjpgmfignhnaaM3
import Derived.Test.YtemjpgmfignhnaaM0
import Derived.MapKept
import Derived.Laws.StructEq
namespace Go.Proofs.Ytemjpgmfignhnaa
set_option linter.unusedVariables false
/-- x stands ahead of y: jobs ahead of shipments, rising. -/
def ltT (x y : TTask) : Prop := (x.Ship = false ∧ y.Ship = true) ∨ (x.Ship = y.Ship ∧ x.Item < y.Item)
def RT (pr : TTask → Int) (x y : TTask) : Prop := pr y < pr x ∨ (pr x = pr y ∧ ltT x y)
theorem ltT_irrefl (x : TTask) : ¬ ltT x x := by
  rintro (⟨a, b⟩ | ⟨_, h⟩)
  · rw [a] at b; cases b
  · omega
theorem ltT_trans {x y z : TTask} (h : ltT x y) (k : ltT y z) : ltT x z := by
  rcases h with ⟨a, b⟩ | ⟨a, b⟩ <;> rcases k with ⟨c, d⟩ | ⟨c, d⟩
  · rw [b] at c; cases c
  · exact .inl ⟨a, by rw [← c]; exact b⟩
  · exact .inl ⟨by rw [a]; exact c, d⟩
  · exact .inr ⟨a.trans c, by omega⟩
theorem RT_trans {pr : TTask → Int} {x y z : TTask} (h : RT pr x y) (k : RT pr y z) : RT pr x z := by
  rcases h with h | ⟨h, h'⟩ <;> rcases k with k | ⟨k, k'⟩
  · exact .inl (by omega)
  · exact .inl (by omega)
  · exact .inl (by omega)
  · exact .inr ⟨by omega, ltT_trans h' k'⟩
theorem RT_irrefl {pr : TTask → Int} (x : TTask) : ¬ RT pr x x := by
  rintro (h | ⟨_, h⟩)
  · omega
  · exact ltT_irrefl x h
def insRev (pr : TTask → Int) (x : TTask) : List TTask → List TTask
  | [] => [x]
  | y :: r => if pr y < pr x then y :: insRev pr x r else x :: y :: r
theorem insRev_perm (pr : TTask → Int) (x : TTask) : ∀ r, (insRev pr x r).Perm (x :: r)
  | [] => List.Perm.refl _
  | y :: r => by
    unfold insRev
    split
    · exact ((insRev_perm pr x r).cons y).trans (List.Perm.swap x y r)
    · exact List.Perm.refl _
theorem insRev_sorted (pr : TTask → Int) (x : TTask) : ∀ r, r.Pairwise (fun a b => RT pr b a) → (∀ y ∈ r, ltT y x) → (insRev pr x r).Pairwise (fun a b => RT pr b a)
  | [], _, _ => by simp [insRev]
  | y :: r, h, hx => by
    rw [List.pairwise_cons] at h
    unfold insRev
    split
    · rename_i hlt
      rw [List.pairwise_cons]
      refine ⟨fun z hz => ?_, insRev_sorted pr x r h.2 (fun z hz => hx z (List.mem_cons_of_mem _ hz))⟩
      rcases List.mem_cons.1 ((insRev_perm pr x r).mem_iff.1 hz) with rfl | hz
      · exact .inl hlt
      · exact h.1 z hz
    · rename_i hlt
      have hy : RT pr y x := by
        rcases Int.lt_or_eq_of_le (Int.not_lt.1 hlt) with k | k
        · exact .inl k
        · exact .inr ⟨k.symm, hx y (List.mem_cons_self ..)⟩
      rw [List.pairwise_cons, List.pairwise_cons]
      refine ⟨fun z hz => ?_, h.1, h.2⟩
      rcases List.mem_cons.1 hz with rfl | hz
      · exact hy
      · exact RT_trans (h.1 z hz) hy
theorem swpAt_mid (a : List TTask) (y x : TTask) (b : List TTask) : swpAt (a ++ y :: x :: b) a.length = a ++ x :: y :: b := by
  unfold swpAt
  have e1 : (a ++ y :: x :: b).getD a.length zTask = y := by simp [List.getD_eq_getElem?_getD]
  have e2 : (a ++ y :: x :: b).getD (a.length + 1) zTask = x := by simp [List.getD_eq_getElem?_getD]
  rw [e1, e2]
  simp
theorem insIn_mid (pr : TTask → Int) (x : TTask) (b : List TTask) : ∀ (r : List TTask), insIn pr r.length (r.reverse ++ x :: b) = (insRev pr x r).reverse ++ b
  | [] => rfl
  | y :: r => by
    have hl : (y :: r).reverse ++ x :: b = r.reverse ++ y :: x :: b := by simp
    have e1 : (r.reverse ++ y :: x :: b).getD r.length zTask = y := by
      rw [List.getD_eq_getElem?_getD, List.getElem?_append_right (by simp)]; simp
    have e2 : (r.reverse ++ y :: x :: b).getD (r.length + 1) zTask = x := by
      rw [List.getD_eq_getElem?_getD, List.getElem?_append_right (by simp)]; simp
    rw [hl, List.length_cons, insIn, e1, e2, insRev]
    split
    · rename_i h
      have := swpAt_mid r.reverse y x b
      rw [List.length_reverse] at this
      rw [this, insIn_mid pr x (y :: b) r]
      simp
    · simp
theorem insOut_spec (pr : TTask → Int) : ∀ (m : Nat) (r b : List TTask), b.length = m → r.Pairwise (fun a b => RT pr b a) → b.Pairwise ltT → (∀ y ∈ r, ∀ x ∈ b, ltT y x) →
    ((insOut pr m r.length (r.reverse ++ b)).Perm (r.reverse ++ b) ∧ (insOut pr m r.length (r.reverse ++ b)).Pairwise (RT pr))
  | 0, r, b, hb, hr, _, _ => by
    obtain rfl := List.eq_nil_of_length_eq_zero hb
    simp only [insOut, List.append_nil]
    exact ⟨List.Perm.refl _, List.pairwise_reverse.2 hr⟩
  | m + 1, r, [], hb, _, _, _ => by cases hb
  | m + 1, r, x :: b, hb, hr, hb2, hx => by
    rw [insOut, insIn_mid]
    rw [List.pairwise_cons] at hb2
    have hp := insRev_perm pr x r
    have hlen : (insRev pr x r).length = r.length + 1 := by rw [hp.length_eq]; rfl
    have ih := insOut_spec pr m (insRev pr x r) b (by simpa using hb) (insRev_sorted pr x r hr (fun y hy => hx y hy x (List.mem_cons_self ..))) hb2.2 (fun y hy z hz => by
      rcases List.mem_cons.1 (hp.mem_iff.1 hy) with rfl | hy
      · exact hb2.1 z hz
      · exact hx y hy z (List.mem_cons_of_mem _ hz))
    rw [hlen] at ih
    refine ⟨ih.1.trans ?_, ih.2⟩
    have h1 : (insRev pr x r).reverse.Perm (r.reverse ++ [x]) := (List.reverse_perm _).trans (hp.trans (by simpa using ((List.reverse_perm r).symm.cons x).trans (List.perm_append_comm (l₁ := [x]) (l₂ := r.reverse))))
    have := h1.append_right b
    simpa using this
theorem sortS_spec (pr : TTask → Int) (l : List TTask) (h : l.Pairwise ltT) : (sortS pr l).Perm l ∧ (sortS pr l).Pairwise (RT pr) := by
  cases l with
  | nil => exact ⟨List.Perm.refl _, by simp [sortS, insOut]⟩
  | cons x b =>
    rw [List.pairwise_cons] at h
    have := insOut_spec pr b.length [x] b rfl (by simp) h.2 (fun y hy z hz => by
      obtain rfl : y = x := by simpa using hy
      exact h.1 z hz)
    simpa [sortS] using this
theorem allTasks_lt (m n : Nat) : (jobTasks m ++ shipTasks n).Pairwise ltT := by
  rw [List.pairwise_append]
  refine ⟨?_, ?_, fun a ha b hb => ?_⟩
  · rw [jobTasks, List.pairwise_map]
    exact List.pairwise_lt_range.imp (fun h => .inr ⟨rfl, by exact Int.ofNat_lt.2 h⟩)
  · rw [shipTasks, List.pairwise_map]
    exact List.pairwise_lt_range.imp (fun h => .inr ⟨rfl, by exact Int.ofNat_lt.2 h⟩)
  · simp only [jobTasks, shipTasks, List.mem_map] at ha hb
    obtain ⟨_, _, rfl⟩ := ha
    obtain ⟨_, _, rfl⟩ := hb
    exact .inl ⟨rfl, rfl⟩
theorem tasksS_spec (p : TProblem) : (tasksS p).Perm (jobTasks p.Jobs.length ++ shipTasks p.Shipments.length) ∧ (tasksS p).Pairwise (RT (prioS p)) := sortS_spec _ _ (allTasks_lt _ _)
theorem RT_nodup {pr : TTask → Int} {l : List TTask} (h : l.Pairwise (RT pr)) : l.Nodup := h.imp (fun {a b} hab e => by subst e; exact RT_irrefl a hab)
/-- A list without doubles is no longer than one that has its members. -/
theorem sub_len {α : Type} : ∀ (o s : List α), o.Nodup → (∀ x ∈ o, x ∈ s) → o.length ≤ s.length
  | [], s, _, _ => Nat.zero_le _
  | x :: o, s, hn, hs => by
    classical
    rw [List.nodup_cons] at hn
    have hx := hs x (List.mem_cons_self ..)
    have := sub_len o (s.erase x) hn.2 (fun y hy => (List.mem_erase_of_ne (fun e => hn.1 (by rw [← e]; exact hy))).2 (hs y (List.mem_cons_of_mem _ hy)))
    rw [List.length_erase_of_mem hx] at this
    have := List.length_pos_of_mem hx
    simp only [List.length_cons]
    omega
theorem sorted_unique {pr : TTask → Int} : ∀ (o s : List TTask), o.Pairwise (RT pr) → s.Pairwise (RT pr) → (∀ x ∈ o, x ∈ s) → o.length = s.length → o = s
  | [], s, _, _, _, hl => (List.eq_nil_of_length_eq_zero hl.symm).symm
  | x :: o, [], _, _, _, hl => by cases hl
  | x :: o, y :: s, ho, hs, hm, hl => by
    have hno := RT_nodup ho
    rw [List.pairwise_cons] at ho hs
    by_cases e : x = y
    · subst e
      rw [sorted_unique o s ho.2 hs.2 (fun z hz => ?_) (by simpa using hl)]
      rcases List.mem_cons.1 (hm z (List.mem_cons_of_mem _ hz)) with rfl | h
      · exact absurd (ho.1 z hz) (RT_irrefl z)
      · exact h
    · exfalso
      have hx : x ∈ s := by
        rcases List.mem_cons.1 (hm x (List.mem_cons_self ..)) with h | h
        · exact absurd h e
        · exact h
      have hle := sub_len (x :: o) s hno (fun z hz => by
        rcases List.mem_cons.1 hz with rfl | hz
        · exact hx
        · rcases List.mem_cons.1 (hm z (List.mem_cons_of_mem _ hz)) with rfl | h
          · exact absurd (RT_trans (hs.1 x hx) (ho.1 z hz)) (RT_irrefl z)
          · exact h)
      simp only [List.length_cons] at hle hl
      omega
end Go.Proofs.Ytemjpgmfignhnaa
/- Contract: the document's Tasks: the same list.
Conditions: at most twelve tasks. -/
namespace Go.Proofs.Ytemjpgmfignhnaa
open Go.RowKit Go.Proofs.YtemjpgmfignhnaaW.PrintWords Go.Proofs.YtemjpgmfignhnaaW.PrintLast Go.Proofs.YtemjpgmfignhnaaW.PrintMore
set_option linter.unusedVariables false
set_option linter.unusedSimpArgs false
attribute [local go_sem] cell_growBy Option.some_or
/-! ### the choice, in plain words -/
structure SelInv (pr : TTask → Int) (L : List TTask) (us : List Bool) (o : List TTask) : Prop where
  len : us.length = L.length
  srt : o.Pairwise (RT pr)
  sub : ∀ x ∈ o, x ∈ L
  used : ∀ i (h : i < L.length), us[i]? = some true → L[i] ∈ o
  free : ∀ i (h : i < L.length), us[i]? = some false → ∀ x ∈ o, RT pr x L[i]
theorem SelInv.len_le {pr : TTask → Int} {L : List TTask} {us : List Bool} {o : List TTask} (h : SelInv pr L us o) : o.length ≤ L.length := sub_len _ _ (RT_nodup h.srt) h.sub
theorem SelInv.start (pr : TTask → Int) (L : List TTask) : SelInv pr L (List.replicate L.length false) [] :=
  ⟨by simp, List.Pairwise.nil, fun _ h => (by cases h), fun i h e => (by rw [List.getElem?_replicate, if_pos h] at e; cases e), fun _ _ _ _ h => (by cases h)⟩
theorem SelInv.some {pr : TTask → Int} {L : List TTask} {us : List Bool} {o : List TTask} (h : SelInv pr L us o) (hl : L.Nodup) (hn : o.length < L.length) : ∃ i, ∃ h : i < L.length, us[i]? = .some false := by
  apply Classical.byContradiction
  intro hne
  have hall : ∀ x ∈ L, x ∈ o := fun x hx => by
    obtain ⟨i, hi, rfl⟩ := List.mem_iff_getElem.1 hx
    refine h.used i hi ?_
    cases hu : us[i]? with
    | none =>
      have := List.getElem?_eq_none_iff.1 hu
      have := h.len
      omega
    | some b =>
      cases b
      · exact absurd ⟨i, hi, hu⟩ hne
      · rfl
  have := sub_len L o hl hall
  omega
theorem SelInv.step {pr : TTask → Int} {L : List TTask} {us : List Bool} {o : List TTask} (h : SelInv pr L us o) (hl : L.Pairwise ltT) {b : Nat} (hb : b < L.length) (hf : us[b]? = .some false)
    (hbest : ∀ i (hi : i < L.length), us[i]? = .some false → pr L[i] < pr L[b] ∨ (pr L[i] = pr L[b] ∧ b ≤ i)) : SelInv pr L (us.set b true) (o ++ [L[b]]) := by
  have hbl : b < us.length := by rw [h.len]; exact hb
  refine ⟨by simp [h.len], ?_, fun x hx => ?_, fun i hi e => ?_, fun i hi e x hx => ?_⟩
  · rw [List.pairwise_append]
    exact ⟨h.srt, by simp, fun x hx y hy => by
      obtain rfl : y = L[b] := by simpa using hy
      exact h.free b hb hf x hx⟩
  · rcases List.mem_append.1 hx with hx | hx
    · exact h.sub x hx
    · obtain rfl : x = L[b] := by simpa using hx
      exact List.getElem_mem _
  · by_cases ei : i = b
    · subst ei
      simp
    · rw [List.getElem?_set_ne (fun h => ei h.symm)] at e
      exact List.mem_append_left _ (h.used i hi e)
  · by_cases ei : i = b
    · subst ei
      rw [List.getElem?_set_self hbl] at e
      cases e
    · rw [List.getElem?_set_ne (fun h => ei h.symm)] at e
      rcases List.mem_append.1 hx with hx | hx
      · exact h.free i hi e x hx
      · obtain rfl : x = L[b] := by simpa using hx
        rcases hbest i hi e with k | ⟨k, k2⟩
        · exact .inl k
        · exact .inr ⟨k.symm, (List.pairwise_iff_getElem.1 hl) b i hb hi (by omega)⟩
def sliceLen : Value → Nat
  | .slice _ n _ => n
  | _ => 0
/-- What is the best so far. -/
def BestAt (pr : TTask → Int) (L : List TTask) (us : List Bool) (k : Nat) (v : Value) : Prop :=
  (v = .int .i64 (-1) ∧ ∀ j (h : j < L.length), j < k → us[j]? = some true) ∨
  (∃ b, v = .int .i64 (b : Nat) ∧ b < k ∧ ∃ h : b < L.length, us[b]? = some false ∧ ∀ j (hj : j < L.length), j < k → us[j]? = some false → pr L[j] < pr L[b] ∨ (pr L[j] = pr L[b] ∧ b ≤ j))
section
variable {pr : TTask → Int} {L : List TTask} {us : List Bool} {k : Nat} {v : Value}
theorem best_skip (h : BestAt pr L us k v) (hu : us[k]? = some true) : BestAt pr L us (k + 1) v := by
  rcases h with ⟨e, h⟩ | ⟨b, e, hb, hl, hf, h⟩
  · refine .inl ⟨e, fun j hj hlt => ?_⟩
    rcases Nat.lt_or_ge j k with h1 | h1
    · exact h j hj h1
    · obtain rfl : j = k := by omega
      exact hu
  · refine .inr ⟨b, e, by omega, hl, hf, fun j hj hlt hju => ?_⟩
    rcases Nat.lt_or_ge j k with h1 | h1
    · exact h j hj h1 hju
    · obtain rfl : j = k := by omega
      rw [hu] at hju
      cases hju
theorem best_first (h : ∀ j (h : j < L.length), j < k → us[j]? = some true) (hk : k < L.length) (hu : us[k]? = some false) : BestAt pr L us (k + 1) (.int .i64 k) := by
  refine .inr ⟨k, rfl, by omega, hk, hu, fun j hj hlt hju => ?_⟩
  rcases Nat.lt_or_ge j k with h1 | h1
  · rw [h j hj h1] at hju
    cases hju
  · obtain rfl : j = k := by omega
    exact .inr ⟨rfl, Nat.le_refl _⟩
theorem best_more {b : Nat} (hb : b < L.length) (h : ∀ j (hj : j < L.length), j < k → us[j]? = some false → pr L[j] < pr L[b] ∨ (pr L[j] = pr L[b] ∧ b ≤ j)) (hk : k < L.length) (hu : us[k]? = some false) (hlt : pr L[b] < pr L[k]) : BestAt pr L us (k + 1) (.int .i64 k) := by
  refine .inr ⟨k, rfl, by omega, hk, hu, fun j hj hjk hju => ?_⟩
  rcases Nat.lt_or_ge j k with h1 | h1
  · rcases h j hj h1 hju with h2 | h2
    · exact .inl (by omega)
    · exact .inl (by omega)
  · obtain rfl : j = k := by omega
    exact .inr ⟨rfl, Nat.le_refl _⟩
theorem best_less {b : Nat} (hbk : b < k) (hb : b < L.length) (hf : us[b]? = some false) (h : ∀ j (hj : j < L.length), j < k → us[j]? = some false → pr L[j] < pr L[b] ∨ (pr L[j] = pr L[b] ∧ b ≤ j)) (hk : k < L.length) (hlt : ¬ pr L[b] < pr L[k]) : BestAt pr L us (k + 1) (.int .i64 b) := by
  refine .inr ⟨b, rfl, by omega, hb, hf, fun j hj hjk hju => ?_⟩
  rcases Nat.lt_or_ge j k with h1 | h1
  · exact h j hj h1 hju
  · obtain rfl : j = k := by omega
    rcases Int.lt_or_eq_of_le (Int.not_lt.1 hlt) with h2 | h2
    · exact .inl h2
    · exact .inr ⟨h2, by omega⟩
end
set_option maxHeartbeats 8000000 in
set_option maxRecDepth 100000 in
theorem refTasks_any (q : PV) (p : TProblem) (w : World) (hl : Lens p) (hq : q.Ok p w) (hn : p.Jobs.length + p.Shipments.length ≤ 12) :
    Calls Try.prog 39 #[q.val p] w (ListPost kTask (tasksS p) w) := by
  have HL := Aside0.mk hl
  have HQ := Aside0.mk hq
  have n4 : p.Jobs.length ≤ 12 := by omega
  have n5 : p.Shipments.length ≤ 12 := by omega
  have HF := Aside0.mk (fun (t : TTask) (W : World) (hw : Below w.heap.size w W) => refFacts_any q p t W hl (hq.below hw))
  clear hl hq
  unfold PV.val at HF ⊢
  go_enter Try.func39, Try.ntmps39
  go_wp2
  go_loopw [3, 4] (fun v i wr => ∃ k : Nat, k ≤ p.Jobs.length ∧ i = .int .i64 k ∧ Aside0 (kTask.R 48 wr (w.heap.size + 1) (fun _ => True) v (jobTasks k)) ∧ Aside0 (Below (w.heap.size + 1) (w.alloc (.cells #[.int .i64 p.Dims, .int .i64 p.Time.N, .slice q.a1 p.Time.Cells.length q.c1, .int .i64 p.Dist.N, .slice q.a2 p.Dist.Cells.length q.c2, .slice q.a3 p.Vehicles.length q.c3, .slice q.a4 p.Jobs.length q.c4, .slice q.a5 p.Shipments.length q.c5] 29)) wr)) (fun _ i _ => p.Jobs.length - (intOf i).toNat)
  case atStart => exact ⟨0, Nat.zero_le _, rfl, ⟨Kd.R_nil _ _ _ _ _⟩, ⟨Below.refl _ _⟩⟩
  case round =>
    obtain ⟨k, hk, rfl, HR, HW⟩ := hrel
    have HW' : Aside0 (Below (w.alloc (.cells #[.int .i64 p.Dims, .int .i64 p.Time.N, .slice q.a1 p.Time.Cells.length q.c1, .int .i64 p.Dist.N, .slice q.a2 p.Dist.Cells.length q.c2, .slice q.a3 p.Vehicles.length q.c3, .slice q.a4 p.Jobs.length q.c4, .slice q.a5 p.Shipments.length q.c5] 29)).heap.size (w.alloc (.cells #[.int .i64 p.Dims, .int .i64 p.Time.N, .slice q.a1 p.Time.Cells.length q.c1, .int .i64 p.Dist.N, .slice q.a2 p.Dist.Cells.length q.c2, .slice q.a3 p.Vehicles.length q.c3, .slice q.a4 p.Jobs.length q.c4, .slice q.a5 p.Shipments.length q.c5] 29)) wr) := ⟨by simpa using HW.out⟩
    obtain ⟨qc, qf⟩ := bcell HW'.out
    have zr : w.heap.size < wr.heap.size := by
      have := HW'.out.size
      simp at this
      omega
    by_cases hlt : k < p.Jobs.length
    · go_wp2_with (at_builtin; refine Kd.R_append kTask (w0 := (w.alloc (.cells #[.int .i64 p.Dims, .int .i64 p.Time.N, .slice q.a1 p.Time.Cells.length q.c1, .int .i64 p.Dist.N, .slice q.a2 p.Dist.Cells.length q.c2, .slice q.a3 p.Vehicles.length q.c3, .slice q.a4 p.Jobs.length q.c4, .slice q.a5 p.Shipments.length q.c5] 29))) (w.heap.size + 1) rfl (.tmp 21) (.tmp 24) 51 48 (.agg #[.bool false, .int .i64 0]) 16 rfl Try.underlying51 infoTask rfl (by decide) (by omega) u3 (jobTasks k) ⟨false, (k : Int)⟩ _ (fun _ => True) (fun _ => False) rfl rfl (kTask_mkM _ _ _ _) (fun _ h => h.elim) (fun _ _ => trivial) HR.out HW.out (by have := HW'.out.size; simp at this; omega) (by simp [jobTasks_length]; omega) ?_; intro v1 w1 ho hb hg hat; have HO := Aside0.mk ho; have HBN := Aside0.mk hb; clear ho hb hg hat)
      go_roundw
      case rel => exact ⟨k + 1, by omega, by go_num, ⟨jobTasks_succ k ▸ HO.out⟩, HBN⟩
      case measure => simp [intOf]; omega
    · obtain rfl : k = p.Jobs.length := by omega
      go_wp2
      have HRa := HR
      have HWa := HW
      obtain ⟨wa, rfl⟩ : ∃ wa : World, wa = wr := ⟨_, rfl⟩
      clear HR HW HW' hk hlt qc qf zr
      go_loopw [3, 5] (fun v i wr => ∃ k : Nat, k ≤ p.Shipments.length ∧ i = .int .i64 k ∧ Aside0 (kTask.R 48 wr (w.heap.size + 1) (fun _ => True) v (jobTasks p.Jobs.length ++ shipTasks k)) ∧ Aside0 (Below (w.heap.size + 1) (w.alloc (.cells #[.int .i64 p.Dims, .int .i64 p.Time.N, .slice q.a1 p.Time.Cells.length q.c1, .int .i64 p.Dist.N, .slice q.a2 p.Dist.Cells.length q.c2, .slice q.a3 p.Vehicles.length q.c3, .slice q.a4 p.Jobs.length q.c4, .slice q.a5 p.Shipments.length q.c5] 29)) wr)) (fun _ i _ => p.Shipments.length - (intOf i).toNat)
      case atStart => exact ⟨0, Nat.zero_le _, rfl, ⟨by simpa [shipTasks] using HRa.out⟩, HWa⟩
      case round =>
        clear HRa HWa
        obtain ⟨k, hk, rfl, HR, HW⟩ := hrel
        have HW' : Aside0 (Below (w.alloc (.cells #[.int .i64 p.Dims, .int .i64 p.Time.N, .slice q.a1 p.Time.Cells.length q.c1, .int .i64 p.Dist.N, .slice q.a2 p.Dist.Cells.length q.c2, .slice q.a3 p.Vehicles.length q.c3, .slice q.a4 p.Jobs.length q.c4, .slice q.a5 p.Shipments.length q.c5] 29)).heap.size (w.alloc (.cells #[.int .i64 p.Dims, .int .i64 p.Time.N, .slice q.a1 p.Time.Cells.length q.c1, .int .i64 p.Dist.N, .slice q.a2 p.Dist.Cells.length q.c2, .slice q.a3 p.Vehicles.length q.c3, .slice q.a4 p.Jobs.length q.c4, .slice q.a5 p.Shipments.length q.c5] 29)) wr) := ⟨by simpa using HW.out⟩
        obtain ⟨qc, qf⟩ := bcell HW'.out
        have zr : w.heap.size < wr.heap.size := by
          have := HW'.out.size
          simp at this
          omega
        by_cases hlt : k < p.Shipments.length
        · go_wp2_with (at_builtin; refine Kd.R_append kTask (w0 := (w.alloc (.cells #[.int .i64 p.Dims, .int .i64 p.Time.N, .slice q.a1 p.Time.Cells.length q.c1, .int .i64 p.Dist.N, .slice q.a2 p.Dist.Cells.length q.c2, .slice q.a3 p.Vehicles.length q.c3, .slice q.a4 p.Jobs.length q.c4, .slice q.a5 p.Shipments.length q.c5] 29))) (w.heap.size + 1) rfl (.tmp 33) (.tmp 36) 51 48 (.agg #[.bool false, .int .i64 0]) 16 rfl Try.underlying51 infoTask rfl (by decide) (by omega) u3 (jobTasks p.Jobs.length ++ shipTasks k) ⟨true, (k : Int)⟩ _ (fun _ => True) (fun _ => False) rfl rfl (kTask_mkM _ _ _ _) (fun _ h => h.elim) (fun _ _ => trivial) HR.out HW.out (by have := HW'.out.size; simp at this; omega) (by simp [jobTasks_length, shipTasks_length]; omega) ?_; intro v1 w1 ho hb hg hat; have HO := Aside0.mk ho; have HBN := Aside0.mk hb; clear ho hb hg hat)
          go_roundw
          case rel => exact ⟨k + 1, by omega, by go_num, ⟨by have h := HO.out; rw [List.append_assoc, ← shipTasks_succ] at h; exact h⟩, HBN⟩
          case measure => simp [intOf]; omega
        · obtain rfl : k = p.Shipments.length := by omega
          have HB1 : Aside0 (Below w.heap.size w wr) := ⟨below_to (below_alloc (Below.refl _ _) _) HW'.out⟩
          have hlen : (jobTasks p.Jobs.length ++ shipTasks p.Shipments.length).length = p.Jobs.length + p.Shipments.length := by simp [jobTasks_length, shipTasks_length]
          have hlt0 := allTasks_lt p.Jobs.length p.Shipments.length
          have hspec := tasksS_spec p
          generalize jobTasks p.Jobs.length ++ shipTasks p.Shipments.length = L at *
          have HLT := Aside0.mk hlt0
          have HSP := Aside0.mk hspec
          obtain ⟨A, c, rfl, hc, hC⟩ := Kd.R_reads HR.out
          have HA := Aside0.mk hC
          have hL : L.length ≤ 12 := by omega
          obtain ⟨wb, rfl⟩ : ∃ wb : World, wb = wr := ⟨_, rfl⟩
          clear hlt0 hspec hC HR HW hlt hk hn hlen
          have hs2 : w.heap.size + 1 < wb.heap.size + 1 := by
            have := HW'.out.size
            simp at this
            omega
          go_wp2_with ((with_reducible refine gate_dst (N := 40) rfl ?_); refine Kd.R_make Kd.bool (w0 := wb) wb.heap.size 4 rfl (N := 40) rfl 147 (.tmp 39) (.tmp 39) rfl (L.length : Int) rfl rfl Try.underlying147 (.bool false) 1 (by kernel_rfl) rfl (by decide) (by decide) false (ok := fun _ => True) (okp := fun _ => False) rfl (fun _ h => h.elim) trivial (by omega) (by simp; omega) (Below.refl _ _) (Nat.le_refl _) ?_; intro v1 w1 ho hb hg hat; simp only [Int.toNat_natCast] at ho; have HU0 := Aside0.mk ho; have HBU := Aside0.mk hb; have HAT := Aside0.mk hat; clear ho hb hg hat)
          obtain ⟨gU, cU, rfl⟩ : ∃ gU cU, v1 = .slice (some ⟨gU, 0, none⟩) L.length cU := by
            obtain ⟨_, inner, hown, _⟩ := HU0.out
            obtain ⟨b, hb, _⟩ := HAT.out
            rcases hown.2 with ⟨h0, _⟩ | ⟨g, cap, cur, hv, _⟩
            · rw [h0] at hb
              cases hb
            · exact ⟨g, cap, by simpa using hv⟩
          have HUG : Aside0 (Kd.bool.R 4 w1 wb.heap.size (fun k => k = gU) (.slice (some ⟨gU, 0, none⟩) L.length cU) (List.replicate L.length false)) := ⟨by
            have h := HU0.out
            exact Kd.R_of_own (Kd.own_of_R h) (fun k hk => by simpa [Value.ownBlock] using hk.symm)⟩
          clear HAT HU0
          go_loopw [6] (fun v wr => ∃ (o : List TTask) (us : List Bool), Aside0 (kTask.R 48 wr wb.heap.size (fun _ => True) v o) ∧ Aside0 (Kd.bool.R 4 wr wb.heap.size (fun k => k = gU) (.slice (some ⟨gU, 0, none⟩) L.length cU) us) ∧ Aside0 (Below wb.heap.size wb wr) ∧ Aside0 (SelInv (prioS p) L us o)) (fun v _ => L.length - sliceLen v)
          case atStart => exact ⟨[], _, ⟨Kd.R_nil _ _ _ _ _⟩, HUG, HBU, ⟨SelInv.start _ _⟩⟩
          case round =>
            clear HUG HBU
            obtain ⟨o, us, HO, HU, HW2, HS⟩ := hrel
            have hle := HS.out.len_le
            have hul := HS.out.len
            obtain ⟨A2, c2, rfl, hc2, hC2⟩ := Kd.R_reads HO.out
            obtain ⟨qc2, qf2⟩ := bcell HW2.out
            by_cases hlt : o.length < L.length
            · go_wp2
              obtain ⟨wo, rfl⟩ : ∃ wo : World, wo = wr := ⟨_, rfl⟩
              go_loopw [8, 9] (fun b i wi => ∃ k : Nat, k ≤ L.length ∧ i = .int .i64 k ∧ Aside0 (BestAt (prioS p) L us k b) ∧ Aside0 (Below wo.heap.size wo wi)) (fun _ i _ => L.length - (intOf i).toNat)
              case atStart => exact ⟨0, Nat.zero_le _, rfl, ⟨.inl ⟨rfl, fun _ _ h => absurd h (Nat.not_lt_zero _)⟩⟩, ⟨Below.refl _ _⟩⟩
              case round =>
                obtain ⟨k, hk, rfl, HBE, HW3⟩ := hrel
                have HB1a : Aside0 (Below wb.heap.size wb wr) := ⟨below_to HW2.out HW3.out⟩
                have HB1b : Aside0 (Below w.heap.size w wr) := ⟨below_to HB1.out HB1a.out⟩
                obtain ⟨qc3, qf3⟩ := bcell HB1a.out
                have zr3 : w.heap.size < wr.heap.size := Nat.lt_of_lt_of_le zr HB1a.out.size
                have hU3 := (Kd.R_reads' (Kd.R_below HU.out HW3.out)).2.2
                by_cases hkl : k < L.length
                · obtain ⟨ad, ea, x0, x1⟩ := atNTask (Kd.C_below HA.out HB1a.out) k hkl
                  subst ea
                  obtain ⟨adu, eu, xu⟩ := Kd.at_bool hU3 (k : Int) (by omega) (by omega)
                  obtain rfl := Option.some.inj eu
                  have eus : ∃ b, us[k]? = some b ∧ rdOf false us (k : Int) = b := ⟨_, List.getElem?_eq_getElem (by omega), by simp [rdOf, List.getElem?_eq_getElem (show k < us.length by omega)]⟩
                  obtain ⟨bu, hbu, hru⟩ := eus
                  rw [hru, add_plain, Int.toNat_natCast] at xu
                  have XU := stays xu
                  have r0 : (0 : Int) ≤ (k : Int) := by omega
                  have r1 : (k : Int) < (L.length : Int) := by omega
                  clear hru xu hU3
                  go_wp2
                  refine wp_region_grow (by kernel_rfl) (by kernel_rfl) ?_
                  repeat (go_big_quiet_step ((go_at_call 42; exact grow_of (HF.out L[k] _ (below_to HB1b.out (growBy_below _ _))))))
                  refine wpQuiet_nil ?_
                  intro w2 hw'
                  have hb := grow_end hw'
                  clear hw'
                  have HB2 := Aside0.mk hb; obtain ⟨qc2, qf2⟩ := bcell hb; have hs2 := hb.size; (try simp at hs2); (try have z02 : w.heap.size < w2.heap.size := (by omega)); (try have z12 : w.heap.size + 1 < w2.heap.size := (by omega)); (try have z22 : w.heap.size + 1 + 1 < w2.heap.size := (by omega)); (try have z32 : w.heap.size + 1 + 1 + 1 < w2.heap.size := (by omega)); (try have z42 : w.heap.size + 1 + 1 + 1 + 1 < w2.heap.size := (by omega)); clear hs2 hb
                  have xu2 := XU.out w2 (by repeat (first | exact Below.refl _ _ | apply below_alloc | apply pw_below_drewN | apply below_drew1 | apply below_drew | (refine Below.setCell ?_ (by (try simp); (try omega)) _) | (refine below_to ?_ HB6.out) | (refine below_to ?_ HB5.out) | (refine below_to ?_ HB4.out) | (refine below_to ?_ HB3.out) | (refine below_to ?_ HB2.out) | (refine below_to ?_ HB1.out)))
                  have x0' := (stays x0).out w2 (by repeat (first | exact Below.refl _ _ | apply below_alloc | apply pw_below_drewN | apply below_drew1 | apply below_drew | (refine Below.setCell ?_ (by (try simp); (try omega)) _) | (refine below_to ?_ HB6.out) | (refine below_to ?_ HB5.out) | (refine below_to ?_ HB4.out) | (refine below_to ?_ HB3.out) | (refine below_to ?_ HB2.out) | (refine below_to ?_ HB1.out)))
                  have x1' := (stays x1).out w2 (by repeat (first | exact Below.refl _ _ | apply below_alloc | apply pw_below_drewN | apply below_drew1 | apply below_drew | (refine Below.setCell ?_ (by (try simp); (try omega)) _) | (refine below_to ?_ HB6.out) | (refine below_to ?_ HB5.out) | (refine below_to ?_ HB4.out) | (refine below_to ?_ HB3.out) | (refine below_to ?_ HB2.out) | (refine below_to ?_ HB1.out)))
                  have HB2w : Aside0 (Below w.heap.size w w2) := ⟨below_to HB1b.out (by repeat (first | exact Below.refl _ _ | apply below_alloc | apply pw_below_drewN | apply below_drew1 | apply below_drew | (refine Below.setCell ?_ (by (try simp); (try omega)) _) | (refine below_to ?_ HB6.out) | (refine below_to ?_ HB5.out) | (refine below_to ?_ HB4.out) | (refine below_to ?_ HB3.out) | (refine below_to ?_ HB2.out) | (refine below_to ?_ HB1.out)))⟩
                  have HB2o : Aside0 (Below wo.heap.size wo w2) := ⟨below_to HW3.out (by repeat (first | exact Below.refl _ _ | apply below_alloc | apply pw_below_drewN | apply below_drew1 | apply below_drew | (refine Below.setCell ?_ (by (try simp); (try omega)) _) | (refine below_to ?_ HB6.out) | (refine below_to ?_ HB5.out) | (refine below_to ?_ HB4.out) | (refine below_to ?_ HB3.out) | (refine below_to ?_ HB2.out) | (refine below_to ?_ HB1.out)))⟩
                  have zr4 : w.heap.size < w2.heap.size := Nat.lt_of_lt_of_le zr3 HB2.out.size
                  cases bu
                  · rcases HBE.out with ⟨rfl, hb1⟩ | ⟨b, rfl, hbk, hbl, hbf, hb1⟩
                    · have HN := Aside0.mk (best_first (pr := prioS p) hb1 hkl hbu)
                      clear hb1 HBE hbu
                      go_wp2
                      refine wp_region_grow (by kernel_rfl) (by kernel_rfl) ?_
                      repeat (go_big_quiet_step ((go_at_call 42; exact grow_of (HF.out L[k] _ (below_to HB2w.out (growBy_below _ _))))))
                      refine wpQuiet_nil ?_
                      intro w3 hw'
                      have hb := grow_end hw'
                      clear hw'
                      have HB3 := Aside0.mk hb; obtain ⟨qc3, qf3⟩ := bcell hb; have hs3 := hb.size; (try simp at hs3); (try have z03 : w.heap.size < w3.heap.size := (by omega)); (try have z13 : w.heap.size + 1 < w3.heap.size := (by omega)); (try have z23 : w.heap.size + 1 + 1 < w3.heap.size := (by omega)); (try have z33 : w.heap.size + 1 + 1 + 1 < w3.heap.size := (by omega)); (try have z43 : w.heap.size + 1 + 1 + 1 + 1 < w3.heap.size := (by omega)); clear hs3 hb
                      go_wp2
                      go_roundw
                      case rel => exact ⟨k + 1, by omega, by go_num, HN, ⟨below_to HB2o.out HB3.out⟩⟩
                      case measure => simp [intOf]; omega
                    · obtain ⟨ad', ea', y0, y1⟩ := atNTask (Kd.C_below HA.out HB1a.out) b hbl
                      obtain rfl := Option.some.inj ea'
                      have y0' := (stays y0).out w2 (by repeat (first | exact Below.refl _ _ | apply below_alloc | apply pw_below_drewN | apply below_drew1 | apply below_drew | (refine Below.setCell ?_ (by (try simp); (try omega)) _) | (refine below_to ?_ HB6.out) | (refine below_to ?_ HB5.out) | (refine below_to ?_ HB4.out) | (refine below_to ?_ HB3.out) | (refine below_to ?_ HB2.out) | (refine below_to ?_ HB1.out)))
                      have y1' := (stays y1).out w2 (by repeat (first | exact Below.refl _ _ | apply below_alloc | apply pw_below_drewN | apply below_drew1 | apply below_drew | (refine Below.setCell ?_ (by (try simp); (try omega)) _) | (refine below_to ?_ HB6.out) | (refine below_to ?_ HB5.out) | (refine below_to ?_ HB4.out) | (refine below_to ?_ HB3.out) | (refine below_to ?_ HB2.out) | (refine below_to ?_ HB1.out)))
                      have s0 : (0 : Int) ≤ (b : Int) := by omega
                      have s1 : (b : Int) < (L.length : Int) := by omega
                      have s2 : decide ((b : Int) < 0) = false := decide_eq_false (by omega)
                      by_cases hpr : prioS p L[b] < prioS p L[k]
                      · have HN := Aside0.mk (best_more hbl hb1 hkl hbu hpr)
                        have dp : decide ((factsS p L[b]).1 < (factsS p L[k]).1) = true := decide_eq_true hpr
                        clear hb1 HBE hbu hpr
                        go_wp2
                        refine wp_region_grow (by kernel_rfl) (by kernel_rfl) ?_
                        repeat (go_big_quiet_step ((go_at_call 42; exact grow_of (HF.out L[b] _ (below_to HB2w.out (growBy_below _ _))))))
                        refine wpQuiet_nil ?_
                        intro w3 hw'
                        have hb := grow_end hw'
                        clear hw'
                        have HB3 := Aside0.mk hb; obtain ⟨qc3, qf3⟩ := bcell hb; have hs3 := hb.size; (try simp at hs3); (try have z03 : w.heap.size < w3.heap.size := (by omega)); (try have z13 : w.heap.size + 1 < w3.heap.size := (by omega)); (try have z23 : w.heap.size + 1 + 1 < w3.heap.size := (by omega)); (try have z33 : w.heap.size + 1 + 1 + 1 < w3.heap.size := (by omega)); (try have z43 : w.heap.size + 1 + 1 + 1 + 1 < w3.heap.size := (by omega)); clear hs3 hb
                        go_wp2
                        go_roundw
                        case rel => exact ⟨k + 1, by omega, by go_num, HN, ⟨below_to HB2o.out HB3.out⟩⟩
                        case measure => simp [intOf]; omega
                      · have HN := Aside0.mk (best_less hbk hbl hbf hb1 hkl hpr)
                        have dp : decide ((factsS p L[b]).1 < (factsS p L[k]).1) = false := decide_eq_false hpr
                        clear hb1 HBE hbu hpr
                        go_wp2
                        refine wp_region_grow (by kernel_rfl) (by kernel_rfl) ?_
                        repeat (go_big_quiet_step ((go_at_call 42; exact grow_of (HF.out L[b] _ (below_to HB2w.out (growBy_below _ _))))))
                        refine wpQuiet_nil ?_
                        intro w3 hw'
                        have hb := grow_end hw'
                        clear hw'
                        have HB3 := Aside0.mk hb; obtain ⟨qc3, qf3⟩ := bcell hb; have hs3 := hb.size; (try simp at hs3); (try have z03 : w.heap.size < w3.heap.size := (by omega)); (try have z13 : w.heap.size + 1 < w3.heap.size := (by omega)); (try have z23 : w.heap.size + 1 + 1 < w3.heap.size := (by omega)); (try have z33 : w.heap.size + 1 + 1 + 1 < w3.heap.size := (by omega)); (try have z43 : w.heap.size + 1 + 1 + 1 + 1 < w3.heap.size := (by omega)); clear hs3 hb
                        go_wp2
                        go_roundw
                        case rel => exact ⟨k + 1, by omega, by go_num, HN, ⟨below_to HB2o.out HB3.out⟩⟩
                        case measure => simp [intOf]; omega
                  · have HN := Aside0.mk (best_skip HBE.out hbu)
                    clear HBE hbu
                    go_wp2
                    go_roundw
                    case rel => exact ⟨k + 1, by omega, by go_num, HN, HB2o⟩
                    case measure => simp [intOf]; omega
                · obtain rfl : k = L.length := by omega
                  obtain ⟨b, rfl, hbl, hbf, hb1⟩ : ∃ b, u8 = .int .i64 (b : Nat) ∧ ∃ h : b < L.length, us[b]? = some false ∧ ∀ j (hj : j < L.length), us[j]? = some false → prioS p L[j] < prioS p L[b] ∨ (prioS p L[j] = prioS p L[b] ∧ b ≤ j) := by
                    rcases HBE.out with ⟨rfl, hb1⟩ | ⟨b, rfl, hbk, hbl, hbf, hb1⟩
                    · obtain ⟨j, hj, hju⟩ := HS.out.some (RT_nodup (pr := fun _ => 0) (HLT.out.imp (fun h => .inr ⟨rfl, h⟩))) hlt
                      rw [hb1 j hj hj] at hju
                      cases hju
                    · exact ⟨b, rfl, hbl, hbf, fun j hj hju => hb1 j hj hj hju⟩
                  have HN := Aside0.mk (HS.out.step HLT.out hbl hbf hb1)
                  obtain ⟨ad, ea, x0, x1⟩ := atNTask (Kd.C_below HA.out HB1a.out) b hbl
                  subst ea
                  obtain ⟨adu, eu, xu⟩ := Kd.at_bool hU3 (b : Int) (by omega) (by omega)
                  obtain rfl := Option.some.inj eu
                  rw [add_plain, Int.toNat_natCast] at xu
                  have hU4 := Kd.R_below HU.out HW3.out
                  obtain ⟨cells, hcells⟩ := own_typed (Kd.own_of_R hU4) gU (by simp [Value.ownBlock])
                  have hfz := fun i => blk_frozen hcells i
                  have hgU := Kd.R_base hU4 gU (by simp [Value.ownBlock])
                  have hadw := HA.out
                  have hne : ad.block ≠ gU := by
                    obtain ⟨ad2, e2, z0, z1⟩ := atNTask HA.out b hbl
                    obtain rfl := Option.some.inj e2
                    have := World.block_lt_of_cell? _ _ z0
                    rw [add_block] at this
                    omega
                  have r0 : (0 : Int) ≤ (b : Int) := by omega
                  have r1 : (b : Int) < (L.length : Int) := by omega
                  have ne0 : (⟨gU, b, none⟩ : Addr) ≠ ad.add (b * 2) := fun e => hne (by rw [← add_block ad (b * 2), ← e])
                  have ne1 : (⟨gU, b, none⟩ : Addr) ≠ ⟨(ad.add (b * 2)).block, (ad.add (b * 2)).off + 1, none⟩ := fun e => hne (by rw [← add_block ad (b * 2)]; injection e with e _ _; exact e.symm)
                  have HO4 : Aside0 (kTask.R 48 (wr.setCell ⟨gU, b, none⟩ (.bool true)) wb.heap.size (fun _ => True) (.slice A2 o.length c2) o) := ⟨Kd.R_set (Kd.R_below HO.out HW3.out) hcells (by decide) b _⟩
                  have HU5 : Aside0 (Kd.bool.R 4 (wr.setCell ⟨gU, b, none⟩ (.bool true)) wb.heap.size (fun k => k = gU) (.slice (some ⟨gU, 0, none⟩) L.length cU) (us.set b true)) := ⟨by
                    have h := Kd.R_putn hU4 (b : Int) true
                    rw [Int.toNat_natCast] at h
                    exact h⟩
                  have HNE : Aside0 (some gU ≠ (Value.slice A2 o.length c2).ownBlock) := ⟨Kd.R_ne HO4.out (blk_set hcells b (.bool true)) (by decide)⟩
                  have HB5 : Aside0 (Below wb.heap.size wb (wr.setCell ⟨gU, b, none⟩ (.bool true))) := ⟨Below.setCell HB1a.out hgU _⟩
                  have hGL : Aside0 (gU < (wr.setCell ⟨gU, b, none⟩ (.bool true)).heap.size) := ⟨blk_lt (blk_set hcells b (.bool true))⟩
                  clear hU4 hU3 hadw hcells hb1 hbf HBE hne hC2
                  generalize Value.slice A2 o.length c2 = vo at *
                  have hsz : (wr.setCell ⟨gU, b, none⟩ (.bool true)).heap.size = wr.heap.size := by simp
                  go_wp2_with (at_builtin; refine Kd.R_append kTask (w0 := wb) (W := wr.setCell ⟨gU, b, none⟩ (.bool true)) wb.heap.size rfl (.tmp 84) (.tmp 89) 51 48 (.agg #[.bool false, .int .i64 0]) 16 rfl Try.underlying51 infoTask rfl (by decide) (by omega) vo o L[b] _ (fun _ => True) (fun _ => False) rfl (by rw [hsz]; rfl) (kTask_mkM _ _ _ _) (fun _ h => h.elim) (fun _ _ => trivial) HO4.out HB5.out HB5.out.size (by omega) ?_; intro v1 w5 ho hb hg hat; have HO6 := Aside0.mk ho; have HB6 := Aside0.mk hb; have HU6 := Aside0.mk (Kd.R_step HU5.out (fun k hk hlt => by subst hk; exact hg.block _ hlt (by simpa using HNE.out))); clear ho hb hg hat)
                  go_roundw
                  case rel => exact ⟨o ++ [L[b]], us.set b true, HO6, HU6, HB6, HN⟩
                  case measure =>
                    obtain ⟨A6, c6, rfl⟩ := Kd.R_slice HO6.out
                    simp [sliceLen]
                    omega
            · obtain ⟨wo, rfl⟩ : ∃ wo : World, wo = wr := ⟨_, rfl⟩
              have HEQ := Aside0.mk (sorted_unique o (tasksS p) HS.out.srt HSP.out.2 (fun x hx => HSP.out.1.mem_iff.2 (HS.out.sub x hx)) (by rw [HSP.out.1.length_eq]; omega))
              have hC3 := Aside0.mk hC2
              clear hC2
              go_wp2
              go_ret
              rw [← HEQ.out]
              exact ⟨A2, c2, rfl, hc2, hC3.out, below_to HB1.out HW2.out⟩
end Go.Proofs.Ytemjpgmfignhnaa

/- How long a lawful problem's windows are.
Conditions: none. -/
namespace Go.Proofs.Ytemjpgmfignhnaa
open Go.RowKit Go.Proofs.YtemjpgmfignhnaaW.PrintWords Go.Proofs.YtemjpgmfignhnaaW.PrintLast Go.Proofs.YtemjpgmfignhnaaW.PrintMore
set_option linter.unusedVariables false
set_option linter.unusedSimpArgs false
theorem windowsB_len {l : List TWindow} (h : windowsB l = true) : l.length ≤ 4 := by
  unfold windowsB windowsS at h
  split at h
  · simp at h
  · omega
theorem Law.stopB {p : TProblem} (h : Law p) {v : TVisit} (hs : (stopS p v).2 = true) : Go.Proofs.Ytemjpgmfignhnaa.stopB (stopS p v).1 p.Time.N = true := by
  unfold stopS at hs ⊢
  split at hs
  · rename_i hb
    rw [if_pos hb]
    simp only [Bool.and_eq_true] at hb
    obtain ⟨ht, hth⟩ := hb
    by_cases h1 : v.Kind = 1
    · simp only [taskOf, h1, if_true, thereB] at hth ⊢
      have hr := upB_true (show upB v.Item ((p.Jobs.length : Int) - 1) = true by simpa using hth)
      have hb := h.gj _ (rdJob_mem p.Jobs v.Item hr.1 (by omega))
      simp only [jobB, Bool.and_eq_true] at hb
      exact hb.1
    · have hk : v.Kind = 2 ∨ v.Kind = 3 := by
        apply Classical.byContradiction
        intro hn
        rw [taskOf_none h1 (fun e => hn (.inl e)) (fun e => hn (.inr e))] at ht
        cases ht
      have et : taskOf v = (⟨true, v.Item⟩, true) := by
        unfold taskOf
        rw [if_neg h1, if_pos hk]
      rw [et] at hth
      have hr := upB_true (show upB v.Item ((p.Shipments.length : Int) - 1) = true by simpa [thereB] using hth)
      have hb := h.gs _ (rdShip_mem p.Shipments v.Item hr.1 (by omega))
      simp only [shipB, Bool.and_eq_true] at hb
      simp only [if_neg h1]
      split
      · exact hb.1
      · exact hb.2.1
  · cases hs
theorem Law.stopLen {p : TProblem} (h : Law p) {v : TVisit} (hs : (stopS p v).2 = true) : (stopS p v).1.Windows.length ≤ 4 := by
  have := h.stopB hs
  simp only [Go.Proofs.Ytemjpgmfignhnaa.stopB, Bool.and_eq_true] at this
  exact windowsB_len this.2
theorem Law.stopLen' {p : TProblem} (h : Law p) (v : TVisit) : (stopS p v).1.Windows.length ≤ 4 := by
  cases hb : (stopS p v).2 with
  | true => exact h.stopLen hb
  | false =>
    unfold stopS at hb ⊢
    split at hb
    · cases hb
    · rename_i hn
      rw [if_neg hn]
      exact Nat.zero_le _
end Go.Proofs.Ytemjpgmfignhnaa

/- All blocks but one are as they were.
Conditions: none. -/
namespace Go.Proofs.Ytemjpgmfignhnaa
open Go.RowKit Go.Proofs.YtemjpgmfignhnaaW.PrintWords Go.Proofs.YtemjpgmfignhnaaW.PrintLast Go.Proofs.YtemjpgmfignhnaaW.PrintMore
set_option linter.unusedVariables false
/-- All blocks but that of A are as they were. -/
structure KeepA (A : Option Addr) (w w' : World) : Prop where
  os : w'.os = w.os
  tape : w'.tape = w.tape
  output : w'.output = w.output
  size : w.heap.size ≤ w'.heap.size
  block : ∀ k, k < w.heap.size → (∀ a, A = some a → k ≠ a.block) → w'.heap[k]? = w.heap[k]?
theorem KeepA.refl (A : Option Addr) (w : World) : KeepA A w w := ⟨rfl, rfl, rfl, Nat.le_refl _, fun _ _ _ => rfl⟩
theorem KeepA.set {g o : Nat} {w w' : World} (h : KeepA (some ⟨g, o, none⟩) w w') (j : Nat) (v : Value) : KeepA (some ⟨g, o, none⟩) w (w'.setCell ⟨g, j, none⟩ v) :=
  ⟨h.os, h.tape, h.output, by simpa [World.setCell] using h.size, fun k hk hne => (Below.heap_setCell w' ⟨g, j, none⟩ v k (hne ⟨g, o, none⟩ rfl)).trans (h.block k hk hne)⟩
theorem KeepA.over {A : Option Addr} {w W w1 : World} (h : KeepA A W w1) (hb : Below w.heap.size w W) (hn : ∀ a, A = some a → w.heap.size ≤ a.block) : Below w.heap.size w w1 :=
  ⟨h.os.trans hb.os, h.tape.trans hb.tape, h.output.trans hb.output, Nat.le_trans hb.size h.size, fun i hi => (h.block i (Nat.lt_of_lt_of_le hi hb.size) (fun a ha => by have := hn a ha; omega)).trans (hb.block i hi)⟩
end Go.Proofs.Ytemjpgmfignhnaa

/- A map from struct keys to true, as a set: what a look-up finds, what an update leaves.
Conditions: none. -/
namespace Go.Proofs.Ytemjpgmfignhnaa
open Go.RowKit Go.Proofs.YtemjpgmfignhnaaW.PrintWords Go.Proofs.YtemjpgmfignhnaaW.PrintLast Go.Proofs.YtemjpgmfignhnaaW.PrintMore
set_option linter.unusedVariables false
set_option linter.unusedSimpArgs false
/-- How keys are written, and that they are compared. -/
structure KeyEnc {κ : Type} (P : Program) (t : TypeId) (enc : κ → Value) (eq : κ → κ → Bool) : Prop where
  eqv : ∀ x y w, (Op.equal t (enc x) (enc y)).run P w = .ok (eq x y) w
  chk : ∀ b x w, (Instr.checkKey b 10000 t (enc x)).run P w = .ok () w
  kind : ∃ fs, P.underlying t = some (.struct fs)
/-- Block b is a map from the keys ks to true. -/
def SetAt {κ : Type} (enc : κ → Value) (W : World) (b : Nat) (ks : List κ) : Prop :=
  ∃ es clock, W.heap[b]? = some (.map es clock) ∧ es.toList.map (·.key) = ks.map enc ∧ ∀ e ∈ es.toList, e.val = .bool true
section
variable {κ : Type} {P : Program} {t T e : TypeId} {enc : κ → Value} {eq : κ → κ → Bool} {w W : World} {b : Nat} {ks : List κ}
theorem find_asking (K : KeyEnc P t enc eq) (x : κ) (w : World) : ∀ (l : List MapEntry) (ks : List κ) (i : Nat), l.map (·.key) = ks.map enc → (∀ e ∈ l, e.val = .bool true) →
    ∃ r, (Instr.findAsking t (enc x) l i).run P w = .ok r w ∧ (ks.any (eq x) = true → ∃ j, r = some (j, .bool true)) ∧ (ks.any (eq x) = false → r = none)
  | [], [], i, _, _ => ⟨none, by simp [Instr.findAsking], fun h => (by cases h), fun _ => rfl⟩
  | [], y :: ks, i, h, _ => by cases h
  | a :: l, [], i, h, _ => by cases h
  | a :: l, y :: ks, i, h, hv => by
    simp only [List.map_cons, List.cons.injEq] at h
    rw [Instr.findAsking]
    simp only [Sem.run_bind, h.1, K.eqv, Result.andThen_ok, List.any_cons]
    cases he : eq x y with
    | true => exact ⟨some (i, a.val), by simp, fun _ => ⟨i, by rw [hv a (List.mem_cons_self ..)]⟩, fun h => (by simp at h)⟩
    | false =>
      obtain ⟨r, h1, h2, h3⟩ := find_asking K x w l ks (i + 1) h.2 (fun e he => hv e (List.mem_cons_of_mem _ he))
      exact ⟨r, by simpa using h1, by simpa using h2, by simpa using h3⟩
theorem find_key (K : KeyEnc P t enc eq) (x : κ) (w : World) (l : List MapEntry) (ks : List κ) (h : l.map (·.key) = ks.map enc) (hv : ∀ e ∈ l, e.val = .bool true) :
    ∃ r, (Instr.findKey t (enc x) l).run P w = .ok r w ∧ (ks.any (eq x) = true → ∃ j, r = some (j, .bool true)) ∧ (ks.any (eq x) = false → r = none) := by
  obtain ⟨fs, hk⟩ := K.kind
  cases l with
  | nil =>
    cases ks with
    | nil => exact ⟨none, by simp [Instr.findKey, run_underlying hk, Instr.findNow], fun h => (by cases h), fun _ => rfl⟩
    | cons y ks => cases h
  | cons a l =>
    obtain ⟨r, h1, h2⟩ := find_asking K x w (a :: l) ks 0 h hv
    refine ⟨r, ?_, h2⟩
    have hn : Instr.findNow (.struct fs) (enc x) (a :: l) 0 = none := by
      rw [Instr.findNow]
      rfl
    simp only [Instr.findKey, Sem.run_bind, run_underlying hk, Result.andThen_ok, hn]
    exact h1
theorem SetAt.lookup (K : KeyEnc P t enc eq) (hT : P.underlying T = some (.map t e)) (hz : ∀ w, (zeroValue e).run P w = .ok (.bool false) w) (h : SetAt enc W b ks) (x : κ) :
    (Instr.lookup T (.map (some b)) (enc x) false).run P W = .ok (.bool (ks.any (eq x))) W := by
  obtain ⟨es, clock, hb, hk, hv⟩ := h
  obtain ⟨r, h1, h2, h3⟩ := find_key K x W es.toList ks hk hv
  simp only [Instr.lookup, Sem.run_bind, run_underlying hT, Result.andThen_ok, MapKept.run_getObj_map hb, Sem.run_pure, K.chk, h1]
  cases ha : ks.any (eq x) with
  | true =>
    obtain ⟨j, rfl⟩ := h2 ha
    simp
  | false =>
    rw [h3 ha]
    simp [hz]
theorem SetAt.update (K : KeyEnc P t enc eq) (hT : P.underlying T = some (.map t e)) (h : SetAt enc W b ks) (x : κ) (hn : ks.any (eq x) = false) :
    ∃ W', (Instr.mapUpdate T (.map (some b)) (enc x) (.bool true)).run P W = .ok () W' ∧ SetAt enc W' b (ks ++ [x]) ∧ W'.heap.size = W.heap.size ∧ (∀ k, k ≠ b → W'.heap[k]? = W.heap[k]?) ∧ W'.os = W.os ∧ W'.tape = W.tape ∧ W'.output = W.output := by
  obtain ⟨es, clock, hb, hk, hv⟩ := h
  obtain ⟨r, h1, h2, h3⟩ := find_key K x W es.toList ks hk hv
  obtain rfl := h3 hn
  refine ⟨{ W with heap := W.heap.setIfInBounds b (.map (es.push { key := enc x, val := .bool true, born := clock }) (clock + 1)) }, ?_, ?_, by simp, fun k hkb => by simp [Array.getElem?_setIfInBounds_ne (Ne.symm hkb)], rfl, rfl, rfl⟩
  · simp only [Instr.mapUpdate, Sem.run_bind, run_underlying hT, Result.andThen_ok, MapKept.run_getObj_map hb, K.chk, h1, MapKept.run_setObj_map _ hb]
  · refine ⟨_, _, Array.getElem?_setIfInBounds_self_of_lt (Array.getElem?_eq_some_iff.1 hb).1, by simp [hk], fun a ha => ?_⟩
    rw [Array.toList_push, List.mem_append] at ha
    rcases ha with ha | ha
    · exact hv a ha
    · obtain rfl : a = _ := by simpa using ha
      rfl
theorem SetAt.keep (h : SetAt enc w b ks) {W' : World} (hb : W'.heap[b]? = w.heap[b]?) : SetAt enc W' b ks := by
  obtain ⟨es, clock, h1, h2⟩ := h
  exact ⟨es, clock, hb.trans h1, h2⟩
theorem SetAt.lt (h : SetAt enc w b ks) : b < w.heap.size := by
  obtain ⟨es, clock, h1, h2⟩ := h
  exact (Array.getElem?_eq_some_iff.1 h1).1
end
abbrev taskV (t : TTask) : Value := .agg #[.bool t.Ship, .int .i64 t.Item]
abbrev visitV (v : TVisit) : Value := .agg #[.int .i64 v.Kind, .int .i64 v.Item]
def eqTask (x y : TTask) : Bool := x.Ship == y.Ship && x.Item == y.Item
def eqVisit (x y : TVisit) : Bool := x.Kind == y.Kind && x.Item == y.Item
theorem eqTask_iff {x y : TTask} : eqTask x y = true ↔ x = y := by
  obtain ⟨a, b⟩ := x
  obtain ⟨c, d⟩ := y
  simp [eqTask]
theorem eqVisit_iff {x y : TVisit} : eqVisit x y = true ↔ x = y := by
  obtain ⟨a, b⟩ := x
  obtain ⟨c, d⟩ := y
  simp [eqVisit]
theorem keyTask : KeyEnc Try.prog 48 taskV eqTask := by
  refine ⟨fun x y w => ?_, fun b x w => ?_, ⟨_, Try.underlying48⟩⟩
  · have u1 := Try.underlying4
    have u2 := Try.underlying3
    unfold Op.equal
    refine eqA_of Try.underlying48 (by kernel_rfl) ?_
    simp [Op.eqFields, go_sem, eqTask]
    by_cases h1 : x.Ship = y.Ship <;> by_cases h2 : x.Item = y.Item <;> simp [h1, h2]
  · have u1 := fun w => run_underlying Try.underlying4 w
    have u2 := fun w => run_underlying Try.underlying3 w
    have u3 := fun w => run_underlying Try.underlying48 w
    obtain ⟨n, hn⟩ : ∃ n, 10000 = n + 2 := ⟨9998, rfl⟩
    rw [hn]
    clear hn
    rw [Instr.checkKey]
    simp [u3, go_sem, Instr.checkKey, u1, u2]
theorem keyVisit : KeyEnc Try.prog 57 visitV eqVisit := by
  refine ⟨fun x y w => ?_, fun b x w => ?_, ⟨_, Try.underlying57⟩⟩
  · have u1 := Try.underlying55
    have u2 := Try.underlying3
    unfold Op.equal
    refine eqA_of Try.underlying57 (by kernel_rfl) ?_
    simp [Op.eqFields, go_sem, eqVisit]
    by_cases h1 : x.Kind = y.Kind <;> by_cases h2 : x.Item = y.Item <;> simp [h1, h2]
  · have u1 := fun w => run_underlying Try.underlying55 w
    have u2 := fun w => run_underlying Try.underlying3 w
    have u3 := fun w => run_underlying Try.underlying57 w
    obtain ⟨n, hn⟩ : ∃ n, 10000 = n + 2 := ⟨9998, rfl⟩
    rw [hn]
    clear hn
    rw [Instr.checkKey]
    simp [u3, go_sem, Instr.checkKey, u1, u2]
end Go.Proofs.Ytemjpgmfignhnaa
