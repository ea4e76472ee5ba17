/- Contract: the first error of a list of visits but that of time. The document's look.
Conditions: a lawful problem, at most 200 visits. -/
import Derived.Test.YtemjpgmfignhnaaR13c
import Derived.Test.YtemjpgmfignhnaaR13d
namespace Go.Proofs.Ytemjpgmfignhnaa
open Go.RowKit Go.Proofs.YtemjpgmfignhnaaW.PrintWords Go.Proofs.YtemjpgmfignhnaaW.PrintLast Go.Proofs.YtemjpgmfignhnaaW.PrintMore
set_option linter.unusedVariables false
set_option linter.unusedSimpArgs false
attribute [local go_sem] cell_growBy Option.some_or
/-- Breaks in their order; how many breaks and tasks, and the skills wanted. -/
def scanS (p : TProblem) : List TVisit → Int → Int → Int → Option (Int × Int × Int)
  | [], n, t, s => some (n, t, s)
  | x :: l, n, t, s => if x.Kind = 4 then (if x.Item = n then scanS p l (n + 1) t s else none) else if x.Kind = 1 ∨ x.Kind = 2 then scanS p l n (t + 1) (bits .or .u64 s (factsS p (taskOf x).1).2) else scanS p l n t s
def toS (p : TProblem) (at_ : Int) (x : TVisit) : Int := if (stopS p x).2 = true then (stopS p x).1.Place else at_
/-- Can each place be reached from the one ahead? -/
def travelS (p : TProblem) (e : Int) : Int → List TVisit → Int
  | at_, [] => if cellS p.Time at_ e < 0 ∨ cellS p.Dist at_ e < 0 then 166 else 0
  | at_, x :: l => if cellS p.Time at_ (toS p at_ x) < 0 ∨ cellS p.Dist at_ (toS p at_ x) < 0 then 166 else travelS p e (toS p at_ x) l
/-- What is told behind the scan. -/
def afterS (p : TProblem) (v : TVehicle) (l : List TVisit) : Option (Int × Int × Int) → Int
  | none => 162
  | some (n, t, s) =>
    if n ≠ v.Breaks.length then 162 else if bits .andNot .u64 s v.Skills ≠ 0 then 163 else if v.MaxTasks < t then 164 else
    if (loadsS p l).all (fun x => underB x v.Cap) = false then 165 else travelS p v.End v.Start l
def firstS (p : TProblem) (v : TVehicle) (l : List TVisit) : Int :=
  if pairsB p l = false then 161 else
  afterS p v l (scanS p l 0 0 0)
theorem scanS_at (p : TProblem) (l : List TVisit) (k : Nat) (h : k < l.length) (n t s : Int) : scanS p (l.drop k) n t s = if l[k].Kind = 4 then (if l[k].Item = n then scanS p (l.drop (k + 1)) (n + 1) t s else none) else if l[k].Kind = 1 ∨ l[k].Kind = 2 then scanS p (l.drop (k + 1)) n (t + 1) (bits .or .u64 s (factsS p (taskOf l[k]).1).2) else scanS p (l.drop (k + 1)) n t s := by
  rw [List.drop_eq_getElem_cons h, scanS]
theorem travelS_at (p : TProblem) (e at_ : Int) (l : List TVisit) (k : Nat) (h : k < l.length) : travelS p e at_ (l.drop k) = if cellS p.Time at_ (toS p at_ l[k]) < 0 ∨ cellS p.Dist at_ (toS p at_ l[k]) < 0 then 166 else travelS p e (toS p at_ l[k]) (l.drop (k + 1)) := by
  rw [List.drop_eq_getElem_cons h, travelS]
theorem atNInts {w : World} {A : Option Addr} {xs : List (List Int)} (h : Kd.C kInts w A xs.length xs) (k : Nat) (hk : k < xs.length) : ∃ ad A' c', A = some ad ∧ w.cell? (ad.add k) = some (.slice A' xs[k].length c') ∧ xs[k].length ≤ c' ∧ Kd.C (Kd.int .i64) w A' xs[k].length xs[k] := by
  obtain ⟨ad, c, e, _, hK, hc0⟩ := Kd.C_get h [] (k : Int) (by omega) (by omega)
  obtain ⟨A', c', rfl, hl, hC⟩ := hK
  have e2 : xs.getD k [] = xs[k] := by simp [List.getElem?_eq_getElem hk]
  simp only [Int.toNat_natCast] at hl hC hc0
  have h0 := hc0 0 _ rfl
  rw [e2] at hl hC h0
  exact ⟨ad, A', c', e, by rw [show k * kInts.sz + 0 = k from by rw [show kInts.sz = 1 from rfl]; omega] at h0; exact h0, hl, hC⟩
set_option maxHeartbeats 16000000 in
set_option maxRecDepth 100000 in
theorem refFirst_any (q : PV) (p : TProblem) (v : TVehicle) (AC AB : Option Addr) (cC cB : Nat) (l : List TVisit) (A : Option Addr) (c : Nat) (w : World) (hlp : Good p) (law : Law p) (hq : q.Ok p w) (hr : Kd.C kVisit w A l.length l) (hl : l.length ≤ 200)
    (hcap : Kd.C (Kd.int .i64) w AC v.Cap.length v.Cap) (hbl : v.Breaks.length ≤ 4) :
    Calls Try.prog 102 #[q.val p, vehVal v AC AB cC cB, .slice A l.length c] w fun e w' => e = .returned (.int .i64 (firstS p v l)) ∧ Below w.heap.size w w' := by
  have HR := Aside0.mk hr
  have HQ := Aside0.mk hq
  have HCAP := Aside0.mk hcap
  have HLP := Aside0.mk hlp
  have LAW := Aside0.mk law
  have HPA := Aside0.mk (fun W (hb : Below w.heap.size w W) => refPairs_any q p l A c W hlp.toLens (hq.below hb) (Kd.C_below hr hb) (by omega))
  have HLO := Aside0.mk (fun W (hb : Below w.heap.size w W) => refLoads_any q p l A c W hlp.toLens law (hq.below hb) (Kd.C_below hr hb) hl)
  have HST := Aside0.mk (fun (x : TVisit) W (hb : Below w.heap.size w W) => refStop_any q p x W hlp.toLens (hq.below hb))
  have HFA := Aside0.mk (fun (t : TTask) W (hb : Below w.heap.size w W) => refFacts_any q p t W hlp.toLens (hq.below hb))
  clear hr hq hcap hlp law
  generalize hfs : firstS p v l = r
  unfold firstS at hfs
  obtain ⟨a1, c1, a2, c2, a3, c3, a4, c4, a5, c5⟩ := q
  unfold PV.val at HPA HLO HST HFA ⊢
  cases hp : pairsB p l
  · have HP := Aside0.mk hp
    rw [hp, if_pos rfl] at hfs
    subst hfs
    clear hp
    go_enter Try.func102, Try.ntmps102
    go_wp2_with (go_at_call 123; refine (HPA.out _ (by repeat (first | exact Below.refl _ _ | apply below_alloc | apply pw_below_drewN | apply below_drew1 | apply below_drew | (refine Below.setCell ?_ (by (try simp); (try omega)) _) | (refine below_to ?_ HB6.out) | (refine below_to ?_ HB5.out) | (refine below_to ?_ HB4.out) | (refine below_to ?_ HB3.out) | (refine below_to ?_ HB2.out) | (refine below_to ?_ HB1.out)))).mono ?_; rw [HP.out]; rintro e w1 ⟨rfl, hb⟩; have HB1 := Aside0.mk hb; obtain ⟨qc1, qf1⟩ := bcell hb; have hs1 := hb.size; (try simp at hs1); (try have z01 : w.heap.size < w1.heap.size := (by omega)); (try have z11 : w.heap.size + 1 < w1.heap.size := (by omega)); (try have z21 : w.heap.size + 1 + 1 < w1.heap.size := (by omega)); (try have z31 : w.heap.size + 1 + 1 + 1 < w1.heap.size := (by omega)); (try have z41 : w.heap.size + 1 + 1 + 1 + 1 < w1.heap.size := (by omega)); clear hs1 hb; skip)
    go_ret
    exact ⟨rfl, (by repeat (first | exact Below.refl _ _ | apply below_alloc | apply pw_below_drewN | apply below_drew1 | apply below_drew | (refine Below.setCell ?_ (by (try simp); (try omega)) _) | (refine below_to ?_ HB6.out) | (refine below_to ?_ HB5.out) | (refine below_to ?_ HB4.out) | (refine below_to ?_ HB3.out) | (refine below_to ?_ HB2.out) | (refine below_to ?_ HB1.out)))⟩
  have HP := Aside0.mk hp
  rw [hp, if_neg (by decide)] at hfs
  have HFS : Aside0 (afterS p v l (scanS p (l.drop 0) 0 0 0) = r) := ⟨hfs⟩
  clear hp hfs
  go_enter Try.func102, Try.ntmps102
  go_wp2_with (go_at_call 123; refine (HPA.out _ (by repeat (first | exact Below.refl _ _ | apply below_alloc | apply pw_below_drewN | apply below_drew1 | apply below_drew | (refine Below.setCell ?_ (by (try simp); (try omega)) _) | (refine below_to ?_ HB6.out) | (refine below_to ?_ HB5.out) | (refine below_to ?_ HB4.out) | (refine below_to ?_ HB3.out) | (refine below_to ?_ HB2.out) | (refine below_to ?_ HB1.out)))).mono ?_; rw [HP.out]; rintro e w1 ⟨rfl, hb⟩; have HB1 := Aside0.mk hb; obtain ⟨qc1, qf1⟩ := bcell hb; have hs1 := hb.size; (try simp at hs1); (try have z01 : w.heap.size < w1.heap.size := (by omega)); (try have z11 : w.heap.size + 1 < w1.heap.size := (by omega)); (try have z21 : w.heap.size + 1 + 1 < w1.heap.size := (by omega)); (try have z31 : w.heap.size + 1 + 1 + 1 < w1.heap.size := (by omega)); (try have z41 : w.heap.size + 1 + 1 + 1 + 1 < w1.heap.size := (by omega)); clear hs1 hb; skip)
  have HB1' : Aside0 (Below (w.heap.size + 1 + 1) ((w.alloc (.cells #[.int .i64 p.Dims, .int .i64 p.Time.N, .slice a1 p.Time.Cells.length c1, .int .i64 p.Dist.N, .slice a2 p.Dist.Cells.length c2, .slice a3 p.Vehicles.length c3, .slice a4 p.Jobs.length c4, .slice a5 p.Shipments.length c5] 29)).alloc (.cells #[.int .i64 v.Start, .int .i64 v.End, .slice AC v.Cap.length cC, .int .u64 v.Skills, .int .i64 v.Shift.From, .int .i64 v.Shift.To, .int .i64 v.Fixed, .int .i64 v.PerTime, .int .i64 v.PerDist, .int .i64 v.MaxTasks, .slice AB v.Breaks.length cB] 89)) w1) := ⟨by simpa using HB1.out⟩
  clear qc1 qf1
  go_loopw [7, 8, 9, 10] (fun vn vt vs i wr => ∃ (k : Nat) (n t s : Int), k ≤ l.length ∧ i = .int .i64 k ∧ vn = .int .i64 n ∧ vt = .int .i64 t ∧ vs = .int .u64 s ∧ 0 ≤ n ∧ n ≤ k ∧ 0 ≤ t ∧ t ≤ k ∧ Aside0 (afterS p v l (scanS p (l.drop k) n t s) = r) ∧ Aside0 (Below (w.heap.size + 1 + 1) ((w.alloc (.cells #[.int .i64 p.Dims, .int .i64 p.Time.N, .slice a1 p.Time.Cells.length c1, .int .i64 p.Dist.N, .slice a2 p.Dist.Cells.length c2, .slice a3 p.Vehicles.length c3, .slice a4 p.Jobs.length c4, .slice a5 p.Shipments.length c5] 29)).alloc (.cells #[.int .i64 v.Start, .int .i64 v.End, .slice AC v.Cap.length cC, .int .u64 v.Skills, .int .i64 v.Shift.From, .int .i64 v.Shift.To, .int .i64 v.Fixed, .int .i64 v.PerTime, .int .i64 v.PerDist, .int .i64 v.MaxTasks, .slice AB v.Breaks.length cB] 89)) wr)) (fun _ _ _ i _ => l.length - (intOf i).toNat)
  case atStart => exact ⟨0, 0, 0, 0, Nat.zero_le _, rfl, rfl, rfl, rfl, by omega, by omega, by omega, by omega, HFS, HB1'⟩
  case round =>
    clear HFS HB1' HB1
    obtain ⟨k, n, t, s, hk, rfl, rfl, rfl, rfl, hn0, hn1, ht0, ht1, HFS, HW⟩ := hrel
    have HW' : Aside0 (Below ((w.alloc (.cells #[.int .i64 p.Dims, .int .i64 p.Time.N, .slice a1 p.Time.Cells.length c1, .int .i64 p.Dist.N, .slice a2 p.Dist.Cells.length c2, .slice a3 p.Vehicles.length c3, .slice a4 p.Jobs.length c4, .slice a5 p.Shipments.length c5] 29)).alloc (.cells #[.int .i64 v.Start, .int .i64 v.End, .slice AC v.Cap.length cC, .int .u64 v.Skills, .int .i64 v.Shift.From, .int .i64 v.Shift.To, .int .i64 v.Fixed, .int .i64 v.PerTime, .int .i64 v.PerDist, .int .i64 v.MaxTasks, .slice AB v.Breaks.length cB] 89)).heap.size ((w.alloc (.cells #[.int .i64 p.Dims, .int .i64 p.Time.N, .slice a1 p.Time.Cells.length c1, .int .i64 p.Dist.N, .slice a2 p.Dist.Cells.length c2, .slice a3 p.Vehicles.length c3, .slice a4 p.Jobs.length c4, .slice a5 p.Shipments.length c5] 29)).alloc (.cells #[.int .i64 v.Start, .int .i64 v.End, .slice AC v.Cap.length cC, .int .u64 v.Skills, .int .i64 v.Shift.From, .int .i64 v.Shift.To, .int .i64 v.Fixed, .int .i64 v.PerTime, .int .i64 v.PerDist, .int .i64 v.MaxTasks, .slice AB v.Breaks.length cB] 89)) wr) := ⟨by simpa using HW.out⟩
    have HB0 : Aside0 (Below w.heap.size w wr) := ⟨below_to (below_alloc (below_alloc (Below.refl _ _) _) _) HW'.out⟩
    have hszr : w.heap.size + 1 < wr.heap.size := by
      have := HW'.out.size
      simp at this
      omega
    have hszr' : w.heap.size < wr.heap.size := by omega
    obtain ⟨qc, qf⟩ := bcell HW'.out
    by_cases hlt : k < l.length
    · obtain ⟨ad, ea, x0, x1⟩ := atNVisit (Kd.C_below HR.out HB0.out) k hlt
      subst ea
      have r0 : (0 : Int) ≤ (k : Int) := by omega
      have r1 : (k : Int) < (l.length : Int) := by omega
      have hs := HFS.out
      rw [scanS_at p l k hlt] at hs
      generalize hx : l[k] = x at *
      clear HFS
      by_cases k4 : x.Kind = 4
      · have d4 : (x.Kind == 4) = true := by simp [k4]
        rw [if_pos k4] at hs
        by_cases e1 : x.Item = n
        · have d1 : (x.Item != n) = false := by simp [e1]
          rw [if_pos e1] at hs
          have HN := Aside0.mk hs
          clear hs k4 e1
          go_wp2
          go_roundw
          case rel => exact ⟨k + 1, n + 1, t, s, by omega, by go_num, by go_num, rfl, rfl, by omega, by omega, by omega, by omega, HN, HW⟩
          case measure => simp [intOf]; omega
        · have d1 : (x.Item != n) = true := by simp [e1]
          rw [if_neg e1] at hs
          obtain rfl : (162 : Int) = r := hs
          clear k4 e1
          go_wp2
          go_ret
          exact ⟨rfl, HB0.out⟩
      · have d4 : (x.Kind == 4) = false := by simp [k4]
        rw [if_neg k4] at hs
        by_cases k12 : x.Kind = 1 ∨ x.Kind = 2
        · rw [if_pos k12] at hs
          have HN := Aside0.mk hs
          have d12 : (x.Kind == 1) = true ∨ ((x.Kind == 1) = false ∧ (x.Kind == 2) = true) := by
            rcases k12 with h | h
            · exact .inl (by simp [h])
            · exact .inr ⟨by simp [h], by simp [h]⟩
          have HB6 := HB0
          clear hs k4 k12
          rcases d12 with d12 | ⟨d12, d13⟩
          all_goals
            go_wp2_with (first
              | (go_at_call 43; refine (refOf_any x _).mono ?_; rintro e w1 ⟨rfl, hb⟩; have HB1 := Aside0.mk hb; obtain ⟨qc1, qf1⟩ := bcell hb; have hs1 := hb.size; (try simp at hs1); (try have z01 : w.heap.size < w1.heap.size := (by omega)); (try have z11 : w.heap.size + 1 < w1.heap.size := (by omega)); (try have z21 : w.heap.size + 1 + 1 < w1.heap.size := (by omega)); (try have z31 : w.heap.size + 1 + 1 + 1 < w1.heap.size := (by omega)); (try have z41 : w.heap.size + 1 + 1 + 1 + 1 < w1.heap.size := (by omega)); clear hs1 hb; have y1_ : wr.heap.size ≤ w1.heap.size := (by have := HB1.out.size; (try simp at this); omega))
              | (go_at_call 42; refine (HFA.out (taskOf x).1 _ (by repeat (first | exact Below.refl _ _ | apply below_alloc | apply pw_below_drewN | apply below_drew1 | apply below_drew | (refine Below.setCell ?_ (by (try simp); (try omega)) _) | (refine below_to ?_ HB6.out) | (refine below_to ?_ HB5.out) | (refine below_to ?_ HB4.out) | (refine below_to ?_ HB3.out) | (refine below_to ?_ HB2.out) | (refine below_to ?_ HB1.out)))).mono ?_; rintro e w2 ⟨rfl, hb⟩; have HB2 := Aside0.mk hb))
            go_roundw
            case rel => exact ⟨k + 1, n, t + 1, _, by omega, by go_num, rfl, by go_num, rfl, by omega, by omega, by omega, by omega, HN, ⟨by simpa using below_to HW'.out (show Below wr.heap.size wr _ from (by repeat (first | exact Below.refl _ _ | apply below_alloc | apply pw_below_drewN | apply below_drew1 | apply below_drew | (refine Below.setCell ?_ (by (try simp); (try omega)) _) | (refine below_to ?_ HB6.out) | (refine below_to ?_ HB5.out) | (refine below_to ?_ HB4.out) | (refine below_to ?_ HB3.out) | (refine below_to ?_ HB2.out) | (refine below_to ?_ HB1.out))))⟩⟩
            case measure => simp [intOf]; omega
        · rw [if_neg k12] at hs
          have HN := Aside0.mk hs
          have d1 : (x.Kind == 1) = false := by simp; omega
          have d2 : (x.Kind == 2) = false := by simp; omega
          clear hs k4 k12
          go_wp2
          go_roundw
          case rel => exact ⟨k + 1, n, t, s, by omega, by go_num, rfl, rfl, rfl, by omega, by omega, by omega, by omega, HN, HW⟩
          case measure => simp [intOf]; omega
    · obtain rfl : k = l.length := by omega
      have hs := HFS.out
      rw [List.drop_of_length_le (Nat.le_refl _), scanS, afterS] at hs
      clear HFS
      by_cases e1 : n = v.Breaks.length
      rotate_left
      · have d1 : (n != (v.Breaks.length : Int)) = true := by simp [e1]
        rw [if_pos e1] at hs
        subst hs
        clear e1
        go_wp2
        go_ret
        exact ⟨rfl, HB0.out⟩
      have d1 : (n != (v.Breaks.length : Int)) = false := by simp [e1]
      rw [if_neg (by simpa using e1)] at hs
      by_cases e2 : bits .andNot .u64 s v.Skills = 0
      rotate_left
      · have d2 : (bits .andNot .u64 s v.Skills != 0) = true := by simp [e2]
        rw [if_pos e2] at hs
        subst hs
        clear e1 e2
        go_wp2
        go_ret
        exact ⟨rfl, HB0.out⟩
      have d2 : (bits .andNot .u64 s v.Skills != 0) = false := by simp [e2]
      rw [if_neg (by simpa using e2)] at hs
      by_cases e3 : v.MaxTasks < t
      · have d3 : decide (v.MaxTasks < t) = true := decide_eq_true e3
        rw [if_pos e3] at hs
        subst hs
        clear e1 e2 e3
        go_wp2
        go_ret
        exact ⟨rfl, HB0.out⟩
      have d3 : decide (v.MaxTasks < t) = false := decide_eq_false e3
      rw [if_neg e3] at hs
      have HBAD : Aside0 (∀ j (h : j < (loadsS p l).length), underB (loadsS p l)[j] v.Cap = false → r = 165) := ⟨fun j h hb => by
        rw [if_pos (List.all_eq_false.2 ⟨_, List.getElem_mem h, by simp [hb]⟩)] at hs
        exact hs.symm⟩
      have HALL : Aside0 ((∀ j, j < (loadsS p l).length → ∀ h : j < (loadsS p l).length, underB (loadsS p l)[j] v.Cap = true) → travelS p v.End v.Start (l.drop 0) = r) := ⟨fun h => by
        rw [if_neg (by
          have : (loadsS p l).all (fun x => underB x v.Cap) = true := List.all_eq_true.2 (fun x hx => by
            obtain ⟨j, hj, rfl⟩ := List.mem_iff_getElem.1 hx
            exact h j hj hj)
          simp [this])] at hs
        exact hs⟩
      have HB6 := HB0
      clear hs e1 e2 e3
      go_wp2_with (go_at_call 56; refine (HLO.out _ HB0.out).mono ?_; rintro e w2 ⟨A2, k2, rfl, hle2, hC2, hb⟩; have HC2 := Aside0.mk hC2; clear hle2 hC2; have HB2 := Aside0.mk hb; obtain ⟨qc2, qf2⟩ := bcell hb; have hs2 := hb.size; (try simp at hs2); (try have z02 : w.heap.size < w2.heap.size := (by omega)); (try have z12 : w.heap.size + 1 < w2.heap.size := (by omega)); (try have z22 : w.heap.size + 1 + 1 < w2.heap.size := (by omega)); (try have z32 : w.heap.size + 1 + 1 + 1 < w2.heap.size := (by omega)); (try have z42 : w.heap.size + 1 + 1 + 1 + 1 < w2.heap.size := (by omega)); clear hs2 hb; have y2_ : w.heap.size + 1 < w2.heap.size := (by have := HB2.out.size; (try simp at this); omega))
      have hln : (loadsS p l).length ≤ 201 := by simp [loadsS]; omega
      have HLR : Aside0 (∀ x ∈ loadsS p l, x.length ≤ 3) := ⟨fun x hx => by
        simp only [loadsS, List.mem_map] at hx
        obtain ⟨j, _, rfl⟩ := hx
        unfold nowS
        rw [nowAt_length]
        have := LAW.out.d1
        omega⟩
      have HW2 : Aside0 (Below (w.heap.size + 1 + 1) ((w.alloc (.cells #[.int .i64 p.Dims, .int .i64 p.Time.N, .slice a1 p.Time.Cells.length c1, .int .i64 p.Dist.N, .slice a2 p.Dist.Cells.length c2, .slice a3 p.Vehicles.length c3, .slice a4 p.Jobs.length c4, .slice a5 p.Shipments.length c5] 29)).alloc (.cells #[.int .i64 v.Start, .int .i64 v.End, .slice AC v.Cap.length cC, .int .u64 v.Skills, .int .i64 v.Shift.From, .int .i64 v.Shift.To, .int .i64 v.Fixed, .int .i64 v.PerTime, .int .i64 v.PerDist, .int .i64 v.MaxTasks, .slice AB v.Breaks.length cB] 89)) w2) := ⟨by simpa using below_to HW'.out (show Below wr.heap.size wr _ from HB2.out)⟩
      generalize loadsS p l = ls at *
      clear qc2 qf2 HB2 HB6 qc qf hszr hszr' HB0 HW' HW
      go_loopw [16] (fun i wr => ∃ k : Nat, k ≤ ls.length ∧ i = .int .i64 k ∧ Aside0 (∀ j, j < k → ∀ h : j < ls.length, underB ls[j] v.Cap = true) ∧ Aside0 (Below (w.heap.size + 1 + 1) ((w.alloc (.cells #[.int .i64 p.Dims, .int .i64 p.Time.N, .slice a1 p.Time.Cells.length c1, .int .i64 p.Dist.N, .slice a2 p.Dist.Cells.length c2, .slice a3 p.Vehicles.length c3, .slice a4 p.Jobs.length c4, .slice a5 p.Shipments.length c5] 29)).alloc (.cells #[.int .i64 v.Start, .int .i64 v.End, .slice AC v.Cap.length cC, .int .u64 v.Skills, .int .i64 v.Shift.From, .int .i64 v.Shift.To, .int .i64 v.Fixed, .int .i64 v.PerTime, .int .i64 v.PerDist, .int .i64 v.MaxTasks, .slice AB v.Breaks.length cB] 89)) wr) ∧ Aside0 (Below w2.heap.size w2 wr)) (fun i _ => ls.length - (intOf i).toNat)
      case atStart => exact ⟨0, Nat.zero_le _, rfl, ⟨fun j h => absurd h (Nat.not_lt_zero _)⟩, HW2, ⟨Below.refl _ _⟩⟩
      case round =>
        clear HW2
        obtain ⟨k, hk, rfl, HJ, HW, HW3⟩ := hrel
        have HW' : Aside0 (Below ((w.alloc (.cells #[.int .i64 p.Dims, .int .i64 p.Time.N, .slice a1 p.Time.Cells.length c1, .int .i64 p.Dist.N, .slice a2 p.Dist.Cells.length c2, .slice a3 p.Vehicles.length c3, .slice a4 p.Jobs.length c4, .slice a5 p.Shipments.length c5] 29)).alloc (.cells #[.int .i64 v.Start, .int .i64 v.End, .slice AC v.Cap.length cC, .int .u64 v.Skills, .int .i64 v.Shift.From, .int .i64 v.Shift.To, .int .i64 v.Fixed, .int .i64 v.PerTime, .int .i64 v.PerDist, .int .i64 v.MaxTasks, .slice AB v.Breaks.length cB] 89)).heap.size ((w.alloc (.cells #[.int .i64 p.Dims, .int .i64 p.Time.N, .slice a1 p.Time.Cells.length c1, .int .i64 p.Dist.N, .slice a2 p.Dist.Cells.length c2, .slice a3 p.Vehicles.length c3, .slice a4 p.Jobs.length c4, .slice a5 p.Shipments.length c5] 29)).alloc (.cells #[.int .i64 v.Start, .int .i64 v.End, .slice AC v.Cap.length cC, .int .u64 v.Skills, .int .i64 v.Shift.From, .int .i64 v.Shift.To, .int .i64 v.Fixed, .int .i64 v.PerTime, .int .i64 v.PerDist, .int .i64 v.MaxTasks, .slice AB v.Breaks.length cB] 89)) wr) := ⟨by simpa using HW.out⟩
        have HB0 : Aside0 (Below w.heap.size w wr) := ⟨below_to (below_alloc (below_alloc (Below.refl _ _) _) _) HW'.out⟩
        have hszr : w.heap.size + 1 < wr.heap.size := by
          have := HW'.out.size
          simp at this
          omega
        have hszr' : w.heap.size < wr.heap.size := by omega
        obtain ⟨qc, qf⟩ := bcell HW'.out
        by_cases hkl : k < ls.length
        · obtain ⟨ad', A3, k3, ea', y0, -, g3⟩ := atNInts (Kd.C_below HC2.out HW3.out) k hkl
          subst ea'
          have r0 : (0 : Int) ≤ (k : Int) := by omega
          have r1 : (k : Int) < (ls.length : Int) := by omega
          have HUN := Aside0.mk (fun W (hb : Below wr.heap.size wr W) => refUnder_any ls[k] v.Cap A3 AC k3 cC W (Kd.C_below g3 hb) (Kd.C_below HCAP.out (below_to HB0.out hb)) (by have := HLR.out _ (List.getElem_mem hkl); omega))
          cases hu : underB ls[k] v.Cap
          · have er := HBAD.out k hkl hu
            subst er
            clear g3 HBAD
            go_wp2
            refine wp_region_grow (by kernel_rfl) (by kernel_rfl) ?_
            repeat (go_big_quiet_step ((go_at_call 60; exact grow_of (HUN.out _ (growBy_below _ _)))))
            refine wpQuiet_nil ?_
            intro w3 hw'
            have hb := grow_end hw'
            clear hw'
            have HB3 := Aside0.mk hb; obtain ⟨qc3, qf3⟩ := bcell hb; have hs3 := hb.size; (try simp at hs3); (try have z03 : w.heap.size < w3.heap.size := (by omega)); (try have z13 : w.heap.size + 1 < w3.heap.size := (by omega)); (try have z23 : w.heap.size + 1 + 1 < w3.heap.size := (by omega)); (try have z33 : w.heap.size + 1 + 1 + 1 < w3.heap.size := (by omega)); (try have z43 : w.heap.size + 1 + 1 + 1 + 1 < w3.heap.size := (by omega)); clear hs3 hb
            go_wp2
            go_ret
            exact ⟨rfl, below_to HB0.out HB3.out⟩
          · have HN := Aside0.mk hu
            clear g3 HBAD
            go_wp2
            refine wp_region_grow (by kernel_rfl) (by kernel_rfl) ?_
            repeat (go_big_quiet_step ((go_at_call 60; exact grow_of (HUN.out _ (growBy_below _ _)))))
            refine wpQuiet_nil ?_
            intro w3 hw'
            have hb := grow_end hw'
            clear hw'
            have HB3 := Aside0.mk hb; obtain ⟨qc3, qf3⟩ := bcell hb; have hs3 := hb.size; (try simp at hs3); (try have z03 : w.heap.size < w3.heap.size := (by omega)); (try have z13 : w.heap.size + 1 < w3.heap.size := (by omega)); (try have z23 : w.heap.size + 1 + 1 < w3.heap.size := (by omega)); (try have z33 : w.heap.size + 1 + 1 + 1 < w3.heap.size := (by omega)); (try have z43 : w.heap.size + 1 + 1 + 1 + 1 < w3.heap.size := (by omega)); clear hs3 hb
            go_wp2
            go_roundw
            case rel => exact ⟨k + 1, by omega, by go_num, ⟨all_succ HJ.out (fun _ => HN.out)⟩, ⟨by simpa using below_to HW'.out (show Below wr.heap.size wr _ from HB3.out)⟩, ⟨below_to HW3.out HB3.out⟩⟩
            case measure => simp [intOf]; omega
        · obtain rfl : k = ls.length := by omega
          have HTR := Aside0.mk (HALL.out HJ.out)
          have hbx := HB0
          clear HALL HBAD HJ hkl HW3 HLR
          have hM1 := Aside0.mk (fun (i j : Int) W (hb : Below w.heap.size w W) => refCell_any p.Time a1 c1 i j W (matOk_of LAW.out.mt LAW.out.n0 LAW.out.n1) (HQ.out.below hb).h1)
          have hM2 := Aside0.mk (fun (i j : Int) W (hb : Below w.heap.size w W) => refCell_any p.Dist a2 c2 i j W (matOk_of LAW.out.md LAW.out.n0 LAW.out.n1) (HQ.out.below hb).h2)
          go_wp2
          have HWa := HW
          clear HW HW' HB0 hszr hszr' qc qf hbx
          go_loopw [17, 18] (fun va vi wr => ∃ (k : Nat) (a : Int), k ≤ l.length + 1 ∧ vi = .int .i64 k ∧ va = .int .i64 a ∧ Aside0 ((k ≤ l.length ∧ travelS p v.End a (l.drop k) = r) ∨ (k = l.length + 1 ∧ r = 0)) ∧ Aside0 (Below (w.heap.size + 1 + 1) ((w.alloc (.cells #[.int .i64 p.Dims, .int .i64 p.Time.N, .slice a1 p.Time.Cells.length c1, .int .i64 p.Dist.N, .slice a2 p.Dist.Cells.length c2, .slice a3 p.Vehicles.length c3, .slice a4 p.Jobs.length c4, .slice a5 p.Shipments.length c5] 29)).alloc (.cells #[.int .i64 v.Start, .int .i64 v.End, .slice AC v.Cap.length cC, .int .u64 v.Skills, .int .i64 v.Shift.From, .int .i64 v.Shift.To, .int .i64 v.Fixed, .int .i64 v.PerTime, .int .i64 v.PerDist, .int .i64 v.MaxTasks, .slice AB v.Breaks.length cB] 89)) wr)) (fun _ vi _ => l.length + 1 - (intOf vi).toNat)
          case atStart => exact ⟨0, v.Start, by omega, rfl, rfl, ⟨.inl ⟨by omega, HTR.out⟩⟩, HWa⟩
          case round =>
            clear HTR HWa
            obtain ⟨k, a, hk, rfl, rfl, HT, HW⟩ := hrel
            have HW' : Aside0 (Below ((w.alloc (.cells #[.int .i64 p.Dims, .int .i64 p.Time.N, .slice a1 p.Time.Cells.length c1, .int .i64 p.Dist.N, .slice a2 p.Dist.Cells.length c2, .slice a3 p.Vehicles.length c3, .slice a4 p.Jobs.length c4, .slice a5 p.Shipments.length c5] 29)).alloc (.cells #[.int .i64 v.Start, .int .i64 v.End, .slice AC v.Cap.length cC, .int .u64 v.Skills, .int .i64 v.Shift.From, .int .i64 v.Shift.To, .int .i64 v.Fixed, .int .i64 v.PerTime, .int .i64 v.PerDist, .int .i64 v.MaxTasks, .slice AB v.Breaks.length cB] 89)).heap.size ((w.alloc (.cells #[.int .i64 p.Dims, .int .i64 p.Time.N, .slice a1 p.Time.Cells.length c1, .int .i64 p.Dist.N, .slice a2 p.Dist.Cells.length c2, .slice a3 p.Vehicles.length c3, .slice a4 p.Jobs.length c4, .slice a5 p.Shipments.length c5] 29)).alloc (.cells #[.int .i64 v.Start, .int .i64 v.End, .slice AC v.Cap.length cC, .int .u64 v.Skills, .int .i64 v.Shift.From, .int .i64 v.Shift.To, .int .i64 v.Fixed, .int .i64 v.PerTime, .int .i64 v.PerDist, .int .i64 v.MaxTasks, .slice AB v.Breaks.length cB] 89)) wr) := ⟨by simpa using HW.out⟩
            have HB0 : Aside0 (Below w.heap.size w wr) := ⟨below_to (below_alloc (below_alloc (Below.refl _ _) _) _) HW'.out⟩
            have hszr : w.heap.size + 1 < wr.heap.size := by
              have := HW'.out.size
              simp at this
              omega
            have hszr' : w.heap.size < wr.heap.size := by omega
            obtain ⟨qc, qf⟩ := bcell HW'.out
            by_cases hk1 : k < l.length
            · have hs : travelS p v.End a (l.drop k) = r := by
                rcases HT.out with ⟨_, h⟩ | ⟨h, _⟩
                · exact h
                · omega
              rw [travelS_at p v.End a l k hk1] at hs
              obtain ⟨ad2, ea2, x0, x1⟩ := atNVisit (Kd.C_below HR.out HB0.out) k hk1
              subst ea2
              have r0 : (0 : Int) ≤ (k : Int) := by omega
              have r1 : (k : Int) < (l.length : Int) := by omega
              generalize hx : l[k] = x at *
              have hba := World.block_lt_of_cell? _ _ x0
              have hbb : (⟨(ad2.add (k * 2)).block, (ad2.add (k * 2)).off + 1, none⟩ : Addr).block < wr.heap.size := hba
              have HSX := Aside0.mk hs
              clear HT hs
              go_upto_if 114 with fail
              go_cut [19] (fun s19 wx => ∃ t' : Int, s19 = .int .i64 t' ∧ Aside0 (t' = toS p a x) ∧ Aside0 (Below wr.heap.size wr wx))
              case first =>
                clear HSX
                go_wp2_with fail
                go_region_held3 (fun W' => Below wr.heap.size wr W' ∧ ∀ a : Addr, a.block < wr.heap.size → W'.cell? a = wr.cell? a) (first | exact hl_start _ | exact hl_of (by repeat (first | exact Below.refl _ _ | apply below_alloc | apply below_drew | (refine Below.setCell ?_ (by first | (simp; done) | (simp; omega) | (dsimp only; omega)) _) | (refine below_to ?_ (by assumption)))))
                    (first
                      | (go_at_call 37; refine (HST.out x _ (below_to HB0.out (And.left (show Below wr.heap.size wr _ ∧ _ from by assumption)))).mono ?_; rintro e w2 ⟨A1, k1, rfl, hle1, hC1, hb⟩; obtain ⟨qcs, qfs⟩ := bcell hb; clear hle1 hC1))
                all_goals
                  cases hs2 : (stopS p x).2
                  · have et := Aside0.mk (show a = toS p a x by simp [toS, hs2])
                    go_wp2_with fail
                    go_meet
                    exact ⟨_, rfl, et, ⟨(by repeat (first | exact Below.refl _ _ | apply below_alloc | apply below_drew | apply pw_below_drewN | (refine Below.setCell ?_ (by first | (simp; done) | (simp; omega) | (dsimp only; omega)) _) | (refine below_to ?_ (by assumption))))⟩⟩
                  · have et := Aside0.mk (show (stopS p x).1.Place = toS p a x by simp [toS, hs2])
                    go_wp2_with fail
                    go_meet
                    exact ⟨_, rfl, et, ⟨(by repeat (first | exact Below.refl _ _ | apply below_alloc | apply below_drew | apply pw_below_drewN | (refine Below.setCell ?_ (by first | (simp; done) | (simp; omega) | (dsimp only; omega)) _) | (refine below_to ?_ (by assumption))))⟩⟩
              case rest =>
                obtain ⟨t', rfl, HET, HBc⟩ := hcut
                have HBc0 : Aside0 (Below w.heap.size w wc) := ⟨below_to HB0.out HBc.out⟩
                obtain ⟨qcc, qfc⟩ := bcell HBc.out
                have zca : w.heap.size < wc.heap.size := Nat.lt_of_lt_of_le hszr' HBc.out.size
                have zcb : w.heap.size + 1 < wc.heap.size := Nat.lt_of_lt_of_le hszr HBc.out.size
                have hs := HSX.out
                rw [← HET.out] at hs
                clear HSX HET x0 x1 hba hbb
                by_cases c1' : cellS p.Time a t' < 0
                · have dc1 : decide (cellS p.Time a t' < 0) = true := decide_eq_true c1'
                  rw [if_pos (.inl c1')] at hs
                  subst hs
                  clear c1'
                  go_wp2_with (first
                    | (go_at_call 31; with_reducible refine (hM1.out a t' _ (below_to HBc0.out (by repeat (first | exact Below.refl _ _ | apply below_alloc | apply below_drew | apply pw_below_drewN | (refine Below.setCell ?_ (by first | (simp; done) | (simp; omega) | (dsimp only; omega)) _) | (refine below_to ?_ (by assumption)))))).mono ?_; rintro e w4 ⟨rfl, hb⟩; obtain ⟨qc4, qf4⟩ := bcell hb; have z4a : w.heap.size < w4.heap.size := (by have := hb.size; omega); have z4b : w.heap.size + 1 < w4.heap.size := (by have := hb.size; omega); have HB4 := Aside0.mk hb; clear hb)
                    | (go_at_call 31; with_reducible refine (hM2.out a t' _ (below_to HBc0.out HB4.out)).mono ?_; rintro e w5 ⟨rfl, hb⟩; obtain ⟨qc5, qf5⟩ := bcell hb; have z5a : w.heap.size < w5.heap.size := (by have := hb.size; omega); have z5b : w.heap.size + 1 < w5.heap.size := (by have := hb.size; omega); have HB5 := Aside0.mk hb; clear hb))
                  go_ret
                  exact ⟨rfl, below_to HBc0.out HB4.out⟩
                have dc1 : decide (cellS p.Time a t' < 0) = false := decide_eq_false c1'
                by_cases c2' : cellS p.Dist a t' < 0
                · have dc2 : decide (cellS p.Dist a t' < 0) = true := decide_eq_true c2'
                  rw [if_pos (.inr c2')] at hs
                  subst hs
                  clear c1' c2'
                  go_wp2_with (first
                    | (go_at_call 31; with_reducible refine (hM1.out a t' _ (below_to HBc0.out (by repeat (first | exact Below.refl _ _ | apply below_alloc | apply below_drew | apply pw_below_drewN | (refine Below.setCell ?_ (by first | (simp; done) | (simp; omega) | (dsimp only; omega)) _) | (refine below_to ?_ (by assumption)))))).mono ?_; rintro e w4 ⟨rfl, hb⟩; obtain ⟨qc4, qf4⟩ := bcell hb; have z4a : w.heap.size < w4.heap.size := (by have := hb.size; omega); have z4b : w.heap.size + 1 < w4.heap.size := (by have := hb.size; omega); have HB4 := Aside0.mk hb; clear hb)
                    | (go_at_call 31; with_reducible refine (hM2.out a t' _ (below_to HBc0.out HB4.out)).mono ?_; rintro e w5 ⟨rfl, hb⟩; obtain ⟨qc5, qf5⟩ := bcell hb; have z5a : w.heap.size < w5.heap.size := (by have := hb.size; omega); have z5b : w.heap.size + 1 < w5.heap.size := (by have := hb.size; omega); have HB5 := Aside0.mk hb; clear hb))
                  go_ret
                  exact ⟨rfl, below_to (below_to HBc0.out HB4.out) HB5.out⟩
                have dc2 : decide (cellS p.Dist a t' < 0) = false := decide_eq_false c2'
                rw [if_neg (fun h => h.elim c1' c2')] at hs
                have HN := Aside0.mk hs
                clear hs c1' c2'
                go_wp2_with (first
                  | (go_at_call 31; with_reducible refine (hM1.out a t' _ (below_to HBc0.out (by repeat (first | exact Below.refl _ _ | apply below_alloc | apply below_drew | apply pw_below_drewN | (refine Below.setCell ?_ (by first | (simp; done) | (simp; omega) | (dsimp only; omega)) _) | (refine below_to ?_ (by assumption)))))).mono ?_; rintro e w4 ⟨rfl, hb⟩; obtain ⟨qc4, qf4⟩ := bcell hb; have z4a : w.heap.size < w4.heap.size := (by have := hb.size; omega); have z4b : w.heap.size + 1 < w4.heap.size := (by have := hb.size; omega); have HB4 := Aside0.mk hb; clear hb)
                  | (go_at_call 31; with_reducible refine (hM2.out a t' _ (below_to HBc0.out HB4.out)).mono ?_; rintro e w5 ⟨rfl, hb⟩; obtain ⟨qc5, qf5⟩ := bcell hb; have z5a : w.heap.size < w5.heap.size := (by have := hb.size; omega); have z5b : w.heap.size + 1 < w5.heap.size := (by have := hb.size; omega); have HB5 := Aside0.mk hb; clear hb))
                go_roundw
                case rel => exact ⟨k + 1, t', by omega, by go_num, rfl, ⟨.inl ⟨by omega, HN.out⟩⟩, ⟨by simpa using below_to HW'.out (show Below wr.heap.size wr _ from below_to (below_to HBc.out HB4.out) HB5.out)⟩⟩
                case measure => simp [intOf]; omega
            by_cases hk2 : k = l.length
            · have hs : travelS p v.End a (l.drop k) = r := by
                rcases HT.out with ⟨_, h⟩ | ⟨h, _⟩
                · exact h
                · omega
              rw [hk2, List.drop_of_length_le (Nat.le_refl _), travelS] at hs
              subst hk2
              have HBc0 := HB0
              clear HT hk1
              by_cases c1' : cellS p.Time a v.End < 0
              · have dc1 : decide (cellS p.Time a v.End < 0) = true := decide_eq_true c1'
                rw [if_pos (.inl c1')] at hs
                subst hs
                clear c1'
                go_wp2_with (first
                  | (go_at_call 31; with_reducible refine (hM1.out a v.End _ (below_to HBc0.out (by repeat (first | exact Below.refl _ _ | apply below_alloc | apply below_drew | apply pw_below_drewN | (refine Below.setCell ?_ (by first | (simp; done) | (simp; omega) | (dsimp only; omega)) _) | (refine below_to ?_ (by assumption)))))).mono ?_; rintro e w4 ⟨rfl, hb⟩; obtain ⟨qc4, qf4⟩ := bcell hb; have z4a : w.heap.size < w4.heap.size := (by have := hb.size; omega); have z4b : w.heap.size + 1 < w4.heap.size := (by have := hb.size; omega); have HB4 := Aside0.mk hb; clear hb)
                  | (go_at_call 31; with_reducible refine (hM2.out a v.End _ (below_to HBc0.out HB4.out)).mono ?_; rintro e w5 ⟨rfl, hb⟩; obtain ⟨qc5, qf5⟩ := bcell hb; have z5a : w.heap.size < w5.heap.size := (by have := hb.size; omega); have z5b : w.heap.size + 1 < w5.heap.size := (by have := hb.size; omega); have HB5 := Aside0.mk hb; clear hb))
                go_ret
                exact ⟨rfl, below_to HBc0.out HB4.out⟩
              have dc1 : decide (cellS p.Time a v.End < 0) = false := decide_eq_false c1'
              by_cases c2' : cellS p.Dist a v.End < 0
              · have dc2 : decide (cellS p.Dist a v.End < 0) = true := decide_eq_true c2'
                rw [if_pos (.inr c2')] at hs
                subst hs
                clear c1' c2'
                go_wp2_with (first
                  | (go_at_call 31; with_reducible refine (hM1.out a v.End _ (below_to HBc0.out (by repeat (first | exact Below.refl _ _ | apply below_alloc | apply below_drew | apply pw_below_drewN | (refine Below.setCell ?_ (by first | (simp; done) | (simp; omega) | (dsimp only; omega)) _) | (refine below_to ?_ (by assumption)))))).mono ?_; rintro e w4 ⟨rfl, hb⟩; obtain ⟨qc4, qf4⟩ := bcell hb; have z4a : w.heap.size < w4.heap.size := (by have := hb.size; omega); have z4b : w.heap.size + 1 < w4.heap.size := (by have := hb.size; omega); have HB4 := Aside0.mk hb; clear hb)
                  | (go_at_call 31; with_reducible refine (hM2.out a v.End _ (below_to HBc0.out HB4.out)).mono ?_; rintro e w5 ⟨rfl, hb⟩; obtain ⟨qc5, qf5⟩ := bcell hb; have z5a : w.heap.size < w5.heap.size := (by have := hb.size; omega); have z5b : w.heap.size + 1 < w5.heap.size := (by have := hb.size; omega); have HB5 := Aside0.mk hb; clear hb))
                go_ret
                exact ⟨rfl, below_to (below_to HBc0.out HB4.out) HB5.out⟩
              have dc2 : decide (cellS p.Dist a v.End < 0) = false := decide_eq_false c2'
              rw [if_neg (fun h => h.elim c1' c2')] at hs
              have HN := Aside0.mk hs
              clear hs c1' c2'
              go_wp2_with (first
                | (go_at_call 31; with_reducible refine (hM1.out a v.End _ (below_to HBc0.out (by repeat (first | exact Below.refl _ _ | apply below_alloc | apply below_drew | apply pw_below_drewN | (refine Below.setCell ?_ (by first | (simp; done) | (simp; omega) | (dsimp only; omega)) _) | (refine below_to ?_ (by assumption)))))).mono ?_; rintro e w4 ⟨rfl, hb⟩; obtain ⟨qc4, qf4⟩ := bcell hb; have z4a : w.heap.size < w4.heap.size := (by have := hb.size; omega); have z4b : w.heap.size + 1 < w4.heap.size := (by have := hb.size; omega); have HB4 := Aside0.mk hb; clear hb)
                | (go_at_call 31; with_reducible refine (hM2.out a v.End _ (below_to HBc0.out HB4.out)).mono ?_; rintro e w5 ⟨rfl, hb⟩; obtain ⟨qc5, qf5⟩ := bcell hb; have z5a : w.heap.size < w5.heap.size := (by have := hb.size; omega); have z5b : w.heap.size + 1 < w5.heap.size := (by have := hb.size; omega); have HB5 := Aside0.mk hb; clear hb))
              go_roundw
              case rel => exact ⟨l.length + 1, v.End, by omega, by go_num, rfl, ⟨.inr ⟨by omega, HN.out.symm⟩⟩, ⟨by simpa using below_to HW'.out (show Below wr.heap.size wr _ from below_to HB4.out HB5.out)⟩⟩
              case measure => first | (simp [intOf]; done) | (simp [intOf]; omega)
            · obtain rfl : k = l.length + 1 := by omega
              have er : r = 0 := by
                rcases HT.out with ⟨h, _⟩ | ⟨_, h⟩
                · omega
                · exact h
              subst er
              go_wp2
              go_ret
              exact ⟨rfl, HB0.out⟩
end Go.Proofs.Ytemjpgmfignhnaa
