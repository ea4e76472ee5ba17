/- QueueSorts: it answers true.
Conditions: none. -/
import Derived.Test.YtiejegalokncgaaL04a
import Derived.Test.YtiejegalokncgaaGoodOf
namespace Go.Proofs.Ytiejegalokncgaa
open Go.RowKit Go.Proofs.YtiejegalokncgaaW.PrintWords Go.Proofs.YtiejegalokncgaaW.PrintLast Go.Proofs.YtiejegalokncgaaW.PrintMore
set_option linter.unusedVariables false
set_option linter.unusedSimpArgs false
/-- A queue and a map of its keys. -/
structure QL (w W : World) (qb mb lb : Nat) (gb : Option Nat) (m : List QE) (D : List (IE Int)) : Prop where
  q : QQ w W qb mb gb m
  l : IMapAt (fun v : Int => Value.int .i64 v) W lb D
  n0 : lb ≠ qb
  n1 : lb ≠ mb
  n2 : gb ≠ some lb
  l0 : w.heap.size ≤ lb
  eq : ∀ x, getI D x = (findQ m x).map (·.Key)
  len : D.length = m.length
section
variable {w W W' : World} {qb mb lb : Nat} {gb gb' : Option Nat} {m m' : List QE} {D D' : List (IE Int)}
theorem QL.turn (h : QL w W qb mb lb gb m D) (hq : QQ w W' qb mb gb' m') (hg : gb' = gb ∨ ∃ g, gb' = some g ∧ W.heap.size ≤ g) (ht : Turn (QS qb mb gb) W W') : IMapAt (fun v : Int => Value.int .i64 v) W' lb D ∧ gb' ≠ some lb := by
  have hl := h.l.lt
  refine ⟨h.l.keep (ht.block lb hl (fun hS => ?_)), fun e => ?_⟩
  · rcases hS with hS | hS | hS
    · exact h.n0 hS
    · exact h.n1 hS
    · exact h.n2 hS.symm
  · rcases hg with rfl | ⟨g, rfl, hg⟩
    · exact h.n2 e
    · have := Option.some.inj e; omega
theorem IMapAt.len_ {enc : Int → Value} {b : Nat} (h : IMapAt enc W b D) (ty : TypeId) : (Builtin.len_ #[26] ty #[.map (some b)]).run Try.prog W = .ok (.int .i64 D.length) W := by
  obtain ⟨clock, h1, h2⟩ := h
  have hu := Try.underlying26
  simp [Builtin.len_, go_sem, run_underlying hu, MapKept.run_getObj_map h1]
theorem Qu.lts (h : Qu W qb mb gb m) : qb < W.heap.size ∧ mb < W.heap.size := by
  obtain ⟨c, l, D, h1, h2⟩ := h
  exact ⟨h1.qlt, h1.map.lt⟩
theorem QL.put (h : QL w W qb mb lb gb m D) (hq : QQ w W' qb mb gb' m') (hg : gb' = gb ∨ ∃ g, gb' = some g ∧ W.heap.size ≤ g) (ht : Turn (QS qb mb gb) W W') {W2 : World} (hl : IMapAt (fun v : Int => Value.int .i64 v) W2 lb D')
    (ht2 : Turn (fun k => k = lb) W' W2) (eq : ∀ x, getI D' x = (findQ m' x).map (·.Key)) (len : D'.length = m'.length) : QL w W2 qb mb lb gb' m' D' := by
  obtain ⟨h1, h2⟩ := h.turn hq hg ht
  have hs := hq.b.size
  refine ⟨⟨hq.q.far ht2 (fun k hS e => ?_), hq.q0, hq.m0, hq.g0, below_mid' hq.b (ht2.below hs (fun k hk e => ?_))⟩, hl, h.n0, h.n1, h2, h.l0, eq, len⟩
  · subst e
    rcases hS with hS | hS | hS
    · exact h.n0 hS
    · exact h.n1 hS
    · exact h2 hS.symm
  · have := h.l0; omega
end
set_option maxHeartbeats 8000000 in
set_option maxRecDepth 100000 in
theorem queueSorts_any (l0 : List Int) (A0 : Option Addr) (c0 : Nat) (l1 : List Int) (A1 : Option Addr) (c1 : Nat) (w : World) (hn0 : l0.length ≤ 4611686018427387904) (hn1 : l1.length ≤ 4611686018427387904) (hr0 : Kd.C (Kd.int .i64) w A0 l0.length l0) (hr1 : Kd.C (Kd.int .i64) w A1 l1.length l1) :
    Calls Try.prog 3 #[.slice A0 l0.length c0, .slice A1 l1.length c1] w fun e w' => e = .returned (.bool true) ∧ Below w.heap.size w w' := by
  have HR0 := Aside0.mk hr0
  have HR1 := Aside0.mk hr1
  clear hr0 hr1
  have hmk := fun W => run_makeMap (P := Try.prog) 26 W
  go_enter Try.func3, Try.ntmps3
  go_upto_region 5 with (first
    | (go_at_call 8; refine (awake04_any _).mono ?_; rintro e w1 ⟨rfl, hb⟩; have HB1 := Aside0.mk hb; clear hb)
    | (go_at_call 9; refine (qqNew w _ HB1.out).mono ?_; rintro e w2 ⟨rfl, hq, hb2⟩; have HQ2 := Aside0.mk hq; have HB2 := Aside0.mk hb2; clear hq hb2))
  obtain ⟨hq1, hq2⟩ := HQ2.out.q.lts
  refine gen_wp (fun W => QL w W (w1.heap.size + 1) w1.heap.size w2.heap.size none [] []) ⟨HQ2.out.below (by repeat (first | with_reducible exact Below.refl _ _ | with_reducible apply below_alloc | with_reducible apply below_drew | with_reducible apply pw_below_drewN | (with_reducible refine Below.setCell ?_ (by first | (simp; done) | (simp; omega) | (dsimp only; omega)) _) | (with_reducible refine below_to ?_ (by assumption)))), IMapAt.new w2, Nat.ne_of_gt hq1, Nat.ne_of_gt hq2, by simp, HQ2.out.b.size, fun x => rfl, rfl⟩ (fun w3 HQ3 => ?_)
  clear hmk hq1 hq2 HQ2 HB1 HB2
  generalize w2.heap.size = lb at *
  generalize w1.heap.size + 1 = qb at *
  generalize w1.heap.size = mb at *
  go_wp2
  go_loopw [7] (fun vi wr => ∃ (i : Nat) (gb : Option Nat) (m : List QE) (D : List (IE Int)), i ≤ 300 ∧ vi = .int .i64 i ∧ m.length ≤ i ∧ Aside0 (QL w wr qb mb lb gb m D)) (fun vi _ => 300 - (intOf vi).toNat)
  case atStart => exact ⟨0, none, [], [], by omega, rfl, Nat.le_refl _, HQ3⟩
  case round =>
    obtain ⟨i, gb, m, D, hi, rfl, hm, HQ⟩ := hrel
    by_cases hlt : i < l0.length ∧ i < l1.length ∧ i < 300
    · obtain ⟨g0, g1, g2⟩ := hlt
      have d0 : decide ((i : Int) < (l0.length : Int)) = true := decide_eq_true (by omega)
      have d1 : decide ((i : Int) < (l1.length : Int)) = true := decide_eq_true (by omega)
      have d2 : decide ((i : Int) < 300) = true := decide_eq_true (by omega)
      have r0 : (0 : Int) ≤ (i : Int) := by omega
      have r1 : (i : Int) < (l0.length : Int) := by omega
      have r2 : (i : Int) < (l1.length : Int) := by omega
      obtain ⟨a0, ea0, x0⟩ := Kd.at_int HR0.out (i : Int) r0 r1
      obtain ⟨a1, ea1, y0⟩ := Kd.at_int HR1.out (i : Int) r0 r2
      subst ea0
      subst ea1
      generalize rd l0 (i : Int) = x at *
      generalize rd l1 (i : Int) = y at *
      simp only [Int.toNat_natCast] at x0 y0
      have X0 := stays x0
      have Y0 := stays y0
      clear x0 y0
      have x0 := X0.out _ HQ.out.q.b
      have y0 := Y0.out _ HQ.out.q.b
      have hx := World.block_lt_of_cell? _ _ x0
      have hy := World.block_lt_of_cell? _ _ y0
      have HI := HQ.out.q.q.items
      have HFP := Aside0.mk (fun z => findQ_put HI (x := x) (k := y) (y := z) (show m.length < 4096 by omega))
      have HPL := Aside0.mk (putQ_len m x y)
      have HG := HQ.out.eq x
      have HML := Aside0.mk hm
      clear HI hm
      cases hf : findQ m x with
      | none =>
        have hp : putQ m x y = (m ++ [⟨x, y⟩], true) := by unfold putQ; rw [hf]; exact if_neg (by have := HML.out; omega)
        have hgx : getI D x = none := by rw [HG, hf]; rfl
        have HF := Aside0.mk hf
        have HGX := Aside0.mk hgx
        have HLE : Aside0 ((putQ m x y).1.length = m.length + 1) := ⟨by rw [hp]; simp⟩
        clear HG hf hgx hp
        go_upto_region 8 with fail
        refine wp_region_tailH (S := fun W' => Below wr.heap.size wr W' ∧ ∀ a : Addr, a.block < wr.heap.size → W'.cell? a = wr.cell? a) 9 (by kernel_rfl) (by kernel_rfl) (by kernel_rfl) (hl_start _) (fun hHeld => ?_)
        simp only [List.take_succ_cons, List.take_zero, List.drop_succ_cons, List.drop_zero]
        refine wpAnyH_take (i := 0) (oi := _) (v := ?_) (by simp only [List.getElem?_toArray, List.getElem?_cons_succ, List.getElem?_cons_zero]; rfl) (by kernel_rfl) (by kernel_rfl) (by kernel_rfl) (tail_hQ (by exact fun _ _ _ h => h)) (Or.inl ⟨by rfl, ?_⟩) (by assumption) ?_
        rotate_left
        focus (intro w hSw; (try dsimp only at hSw); go_simp; (try with_reducible rfl); done)
        (try simp only [Act.put, List.setIfInBounds_toArray, List.set_cons_zero, List.set_cons_succ])
        refine wpAnyH_take (i := 1) (oi := _) (v := ?_) (by simp only [List.getElem?_toArray, List.getElem?_cons_succ, List.getElem?_cons_zero]; rfl) (by kernel_rfl) (by kernel_rfl) (by kernel_rfl) (tail_hQ (by exact fun _ _ _ h => h)) (Or.inl ⟨by rfl, ?_⟩) (by assumption) ?_
        rotate_left
        focus (intro w hSw; (try dsimp only at hSw); go_simp; (try with_reducible rfl); done)
        (try simp only [Act.put, List.setIfInBounds_toArray, List.set_cons_zero, List.set_cons_succ])
        refine wpAnyH_take (i := 2) (oi := _) (v := ?_) (by simp only [List.getElem?_toArray, List.getElem?_cons_succ, List.getElem?_cons_zero]; rfl) (by kernel_rfl) (by kernel_rfl) (by kernel_rfl) (tail_hQ (by exact fun _ _ _ h => h)) (Or.inl ⟨by rfl, ?_⟩) (by assumption) ?_
        rotate_left
        focus (intro w hSw; (try dsimp only at hSw); go_simp; (try with_reducible rfl); done)
        (try simp only [Act.put, List.setIfInBounds_toArray, List.set_cons_zero, List.set_cons_succ])
        refine wpAnyH_take (i := 3) (oi := _) (v := ?_) (by simp only [List.getElem?_toArray, List.getElem?_cons_succ, List.getElem?_cons_zero]; rfl) (by kernel_rfl) (by kernel_rfl) (by kernel_rfl) (tail_hQ (by exact fun _ _ _ h => h)) (Or.inl ⟨by rfl, ?_⟩) (by assumption) ?_
        rotate_left
        focus (intro w hSw; (try dsimp only at hSw); go_simp; (try with_reducible rfl); done)
        (try simp only [Act.put, List.setIfInBounds_toArray, List.set_cons_zero, List.set_cons_succ])
        refine wpAnyH_take (i := 4) (oi := _) (v := ?_) (by simp only [List.getElem?_toArray, List.getElem?_cons_succ, List.getElem?_cons_zero]; rfl) (by kernel_rfl) (by kernel_rfl) (by kernel_rfl) (tail_hQ (by exact fun _ _ _ h => h)) (Or.inl ⟨by rfl, ?_⟩) (by assumption) ?_
        rotate_left
        focus (intro w hSw; (try dsimp only at hSw); go_simp; (try with_reducible rfl); done)
        (try simp only [Act.put, List.setIfInBounds_toArray, List.set_cons_zero, List.set_cons_succ])
        refine wpAnyH_take (i := 5) (oi := _) (v := ?_) (by simp only [List.getElem?_toArray, List.getElem?_cons_succ, List.getElem?_cons_zero]; rfl) (by kernel_rfl) (by kernel_rfl) (by kernel_rfl) (tail_hQ (by exact fun _ _ _ h => h)) (Or.inl ⟨by rfl, ?_⟩) (by assumption) ?_
        rotate_left
        focus (intro w hSw; (try dsimp only at hSw); go_simp; (try with_reducible rfl); done)
        (try simp only [Act.put, List.setIfInBounds_toArray, List.set_cons_zero, List.set_cons_succ])
        refine wpAnyH_take (i := 6) (oi := _) (v := ?_) (by simp only [List.getElem?_toArray, List.getElem?_cons_succ, List.getElem?_cons_zero]; rfl) (by kernel_rfl) (by kernel_rfl) (by kernel_rfl) (tail_hQ (by exact fun _ _ _ h => h)) (Or.inl ⟨by rfl, ?_⟩) (by assumption) ?_
        rotate_left
        focus (intro w hSw; (try dsimp only at hSw); go_simp; (try with_reducible rfl); done)
        (try simp only [Act.put, List.setIfInBounds_toArray, List.set_cons_zero, List.set_cons_succ])
        refine wpAnyH_take (i := 7) (oi := _) (v := ?_) (by simp only [List.getElem?_toArray, List.getElem?_cons_succ, List.getElem?_cons_zero]; rfl) (by kernel_rfl) (by kernel_rfl) (by kernel_rfl) (tail_hQ (by exact fun _ _ _ h => h)) (Or.inl ⟨by rfl, ?_⟩) (by assumption) ?_
        rotate_left
        focus (intro w hSw; (try dsimp only at hSw); go_simp; (try with_reducible rfl); done)
        (try simp only [Act.put, List.setIfInBounds_toArray, List.set_cons_zero, List.set_cons_succ])
        refine wpAnyH_take (i := 8) (oi := _) (v := ?_) (by simp only [List.getElem?_toArray, List.getElem?_cons_succ, List.getElem?_cons_zero]; rfl) (by kernel_rfl) (by kernel_rfl) (by kernel_rfl) (tail_hQ (by exact fun _ _ _ h => h)) (Or.inl ⟨by rfl, ?_⟩) (by assumption) ?_
        rotate_left
        focus (intro w hSw; (try dsimp only at hSw); go_simp; (try with_reducible rfl); done)
        (try simp only [Act.put, List.setIfInBounds_toArray, List.set_cons_zero, List.set_cons_succ])
        refine wpAnyH_tail (by kernel_rfl) ?_ _
        go_upto_region 9 with (go_at_call 10; refine (qqPut (HQ.out.q.below (by repeat (first | with_reducible exact Below.refl _ _ | with_reducible apply below_alloc | with_reducible apply below_drew | with_reducible apply pw_below_drewN | (with_reducible refine Below.setCell ?_ (by first | (simp; done) | (simp; omega) | (dsimp only; omega)) _) | (with_reducible refine below_to ?_ (by assumption))))) x y).mono ?_; rintro e w4 ⟨rfl, gb4, hq, hg, ht⟩; have HQ4 := Aside0.mk hq; have HG4 : Aside0 (gb4 = gb ∨ ∃ g, gb4 = some g ∧ wr.heap.size ≤ g) := ⟨hg⟩; have HT4 : Aside0 (Turn (QS qb mb gb) wr w4) := ⟨Turn.trans (S' := QS qb mb gb) (Turn.of_below (by repeat (first | with_reducible exact Below.refl _ _ | with_reducible apply below_alloc | with_reducible apply below_drew | with_reducible apply pw_below_drewN | (with_reducible refine Below.setCell ?_ (by first | (simp; done) | (simp; omega) | (dsimp only; omega)) _) | (with_reducible refine below_to ?_ (by assumption))))) ht (fun _ _ h => h)⟩; clear hq hg ht)
        clear x0 y0 hx hy hHeld
        have x0 := X0.out _ HQ4.out.b
        have y0 := Y0.out _ HQ4.out.b
        have hm4 := (HQ.out.turn HQ4.out HG4.out HT4.out).1
        have hlk := hm4.lookup (P := Try.prog) (T := 26) Try.underlying26 Try.underlying3 (z := .int .i64 0) (fun _ => rfl) x true
        rw [HGX.out] at hlk
        dsimp only at hlk
        simp only [if_true] at hlk
        have hm4d : IMapAt (fun v : Int => Value.int .i64 v) w4.drew lb D := hm4.keep rfl
        obtain ⟨w5, D', hup, hm5, hD5, hl5, hsz, hbl, ho, ht, hu⟩ := hm4d.update (P := Try.prog) (T := 26) Try.underlying26 Try.underlying3 x y
        have HT5 : Aside0 (Turn (fun k => k = lb) w4 w5) := ⟨⟨ho, ht, hu, by rw [hsz]; exact Nat.le_refl _, fun k _ hk => hbl k hk⟩⟩
        have HM5 := Aside0.mk (show _ ∧ _ ∧ _ from ⟨hm5, hD5, hl5⟩)
        clear hm4 hm4d hm5 hD5 hl5 hsz hbl ho ht hu
        go_upto_region 11 with fail
        go_region
        go_wp2
        obtain ⟨hm5, hD5, hl5⟩ := HM5.out
        go_roundw
        case rel => exact ⟨i + 1, gb4, _, D', by omega, by go_num, by have := HML.out; have := HLE.out; omega, ⟨HQ.out.put HQ4.out HG4.out HT4.out hm5 HT5.out (fun z => by rw [hD5, HFP.out, HF.out]; split; rfl; exact HQ.out.eq z) (by rw [hl5, HGX.out, HLE.out, HQ.out.len]; rfl)⟩⟩
        case measure => simp [intOf]; omega
      | some a =>
        have hgx : getI D x = some a.Key := by rw [HG, hf]; rfl
        have HF := Aside0.mk hf
        have HGX := Aside0.mk hgx
        by_cases hy2 : y < a.Key
        · have dy : decide (y < a.Key) = true := decide_eq_true hy2
          have HLE : Aside0 ((putQ m x y).1.length = m.length) := ⟨by unfold putQ; rw [hf]; simp only []; rw [if_neg (by omega)]; exact lowerQ_len m x y⟩
          have HNY : Aside0 (¬ a.Key ≤ y) := ⟨by omega⟩
          clear HG hf hgx hy2
          go_upto_region 8 with fail
          refine wp_region_tailH (S := fun W' => Below wr.heap.size wr W' ∧ ∀ a : Addr, a.block < wr.heap.size → W'.cell? a = wr.cell? a) 9 (by kernel_rfl) (by kernel_rfl) (by kernel_rfl) (hl_start _) (fun hHeld => ?_)
          simp only [List.take_succ_cons, List.take_zero, List.drop_succ_cons, List.drop_zero]
          refine wpAnyH_take (i := 0) (oi := _) (v := ?_) (by simp only [List.getElem?_toArray, List.getElem?_cons_succ, List.getElem?_cons_zero]; rfl) (by kernel_rfl) (by kernel_rfl) (by kernel_rfl) (tail_hQ (by exact fun _ _ _ h => h)) (Or.inl ⟨by rfl, ?_⟩) (by assumption) ?_
          rotate_left
          focus (intro w hSw; (try dsimp only at hSw); go_simp; (try with_reducible rfl); done)
          (try simp only [Act.put, List.setIfInBounds_toArray, List.set_cons_zero, List.set_cons_succ])
          refine wpAnyH_take (i := 1) (oi := _) (v := ?_) (by simp only [List.getElem?_toArray, List.getElem?_cons_succ, List.getElem?_cons_zero]; rfl) (by kernel_rfl) (by kernel_rfl) (by kernel_rfl) (tail_hQ (by exact fun _ _ _ h => h)) (Or.inl ⟨by rfl, ?_⟩) (by assumption) ?_
          rotate_left
          focus (intro w hSw; (try dsimp only at hSw); go_simp; (try with_reducible rfl); done)
          (try simp only [Act.put, List.setIfInBounds_toArray, List.set_cons_zero, List.set_cons_succ])
          refine wpAnyH_take (i := 2) (oi := _) (v := ?_) (by simp only [List.getElem?_toArray, List.getElem?_cons_succ, List.getElem?_cons_zero]; rfl) (by kernel_rfl) (by kernel_rfl) (by kernel_rfl) (tail_hQ (by exact fun _ _ _ h => h)) (Or.inl ⟨by rfl, ?_⟩) (by assumption) ?_
          rotate_left
          focus (intro w hSw; (try dsimp only at hSw); go_simp; (try with_reducible rfl); done)
          (try simp only [Act.put, List.setIfInBounds_toArray, List.set_cons_zero, List.set_cons_succ])
          refine wpAnyH_take (i := 3) (oi := _) (v := ?_) (by simp only [List.getElem?_toArray, List.getElem?_cons_succ, List.getElem?_cons_zero]; rfl) (by kernel_rfl) (by kernel_rfl) (by kernel_rfl) (tail_hQ (by exact fun _ _ _ h => h)) (Or.inl ⟨by rfl, ?_⟩) (by assumption) ?_
          rotate_left
          focus (intro w hSw; (try dsimp only at hSw); go_simp; (try with_reducible rfl); done)
          (try simp only [Act.put, List.setIfInBounds_toArray, List.set_cons_zero, List.set_cons_succ])
          refine wpAnyH_take (i := 4) (oi := _) (v := ?_) (by simp only [List.getElem?_toArray, List.getElem?_cons_succ, List.getElem?_cons_zero]; rfl) (by kernel_rfl) (by kernel_rfl) (by kernel_rfl) (tail_hQ (by exact fun _ _ _ h => h)) (Or.inl ⟨by rfl, ?_⟩) (by assumption) ?_
          rotate_left
          focus (intro w hSw; (try dsimp only at hSw); go_simp; (try with_reducible rfl); done)
          (try simp only [Act.put, List.setIfInBounds_toArray, List.set_cons_zero, List.set_cons_succ])
          refine wpAnyH_take (i := 5) (oi := _) (v := ?_) (by simp only [List.getElem?_toArray, List.getElem?_cons_succ, List.getElem?_cons_zero]; rfl) (by kernel_rfl) (by kernel_rfl) (by kernel_rfl) (tail_hQ (by exact fun _ _ _ h => h)) (Or.inl ⟨by rfl, ?_⟩) (by assumption) ?_
          rotate_left
          focus (intro w hSw; (try dsimp only at hSw); go_simp; (try with_reducible rfl); done)
          (try simp only [Act.put, List.setIfInBounds_toArray, List.set_cons_zero, List.set_cons_succ])
          refine wpAnyH_take (i := 6) (oi := _) (v := ?_) (by simp only [List.getElem?_toArray, List.getElem?_cons_succ, List.getElem?_cons_zero]; rfl) (by kernel_rfl) (by kernel_rfl) (by kernel_rfl) (tail_hQ (by exact fun _ _ _ h => h)) (Or.inl ⟨by rfl, ?_⟩) (by assumption) ?_
          rotate_left
          focus (intro w hSw; (try dsimp only at hSw); go_simp; (try with_reducible rfl); done)
          (try simp only [Act.put, List.setIfInBounds_toArray, List.set_cons_zero, List.set_cons_succ])
          refine wpAnyH_take (i := 7) (oi := _) (v := ?_) (by simp only [List.getElem?_toArray, List.getElem?_cons_succ, List.getElem?_cons_zero]; rfl) (by kernel_rfl) (by kernel_rfl) (by kernel_rfl) (tail_hQ (by exact fun _ _ _ h => h)) (Or.inl ⟨by rfl, ?_⟩) (by assumption) ?_
          rotate_left
          focus (intro w hSw; (try dsimp only at hSw); go_simp; (try with_reducible rfl); done)
          (try simp only [Act.put, List.setIfInBounds_toArray, List.set_cons_zero, List.set_cons_succ])
          refine wpAnyH_take (i := 8) (oi := _) (v := ?_) (by simp only [List.getElem?_toArray, List.getElem?_cons_succ, List.getElem?_cons_zero]; rfl) (by kernel_rfl) (by kernel_rfl) (by kernel_rfl) (tail_hQ (by exact fun _ _ _ h => h)) (Or.inl ⟨by rfl, ?_⟩) (by assumption) ?_
          rotate_left
          focus (intro w hSw; (try dsimp only at hSw); go_simp; (try with_reducible rfl); done)
          (try simp only [Act.put, List.setIfInBounds_toArray, List.set_cons_zero, List.set_cons_succ])
          refine wpAnyH_tail (by kernel_rfl) ?_ _
          go_upto_region 9 with (go_at_call 10; refine (qqPut (HQ.out.q.below (by repeat (first | with_reducible exact Below.refl _ _ | with_reducible apply below_alloc | with_reducible apply below_drew | with_reducible apply pw_below_drewN | (with_reducible refine Below.setCell ?_ (by first | (simp; done) | (simp; omega) | (dsimp only; omega)) _) | (with_reducible refine below_to ?_ (by assumption))))) x y).mono ?_; rintro e w4 ⟨rfl, gb4, hq, hg, ht⟩; have HQ4 := Aside0.mk hq; have HG4 : Aside0 (gb4 = gb ∨ ∃ g, gb4 = some g ∧ wr.heap.size ≤ g) := ⟨hg⟩; have HT4 : Aside0 (Turn (QS qb mb gb) wr w4) := ⟨Turn.trans (S' := QS qb mb gb) (Turn.of_below (by repeat (first | with_reducible exact Below.refl _ _ | with_reducible apply below_alloc | with_reducible apply below_drew | with_reducible apply pw_below_drewN | (with_reducible refine Below.setCell ?_ (by first | (simp; done) | (simp; omega) | (dsimp only; omega)) _) | (with_reducible refine below_to ?_ (by assumption))))) ht (fun _ _ h => h)⟩; clear hq hg ht)
          clear x0 y0 hx hy hHeld
          have x0 := X0.out _ HQ4.out.b
          have y0 := Y0.out _ HQ4.out.b
          have hm4 := (HQ.out.turn HQ4.out HG4.out HT4.out).1
          have hlk := hm4.lookup (P := Try.prog) (T := 26) Try.underlying26 Try.underlying3 (z := .int .i64 0) (fun _ => rfl) x true
          rw [HGX.out] at hlk
          dsimp only at hlk
          simp only [if_true] at hlk
          have hm4d : IMapAt (fun v : Int => Value.int .i64 v) w4.drew lb D := hm4.keep rfl
          obtain ⟨w5, D', hup, hm5, hD5, hl5, hsz, hbl, ho, ht, hu⟩ := hm4d.update (P := Try.prog) (T := 26) Try.underlying26 Try.underlying3 x y
          have HT5 : Aside0 (Turn (fun k => k = lb) w4 w5) := ⟨⟨ho, ht, hu, by rw [hsz]; exact Nat.le_refl _, fun k _ hk => hbl k hk⟩⟩
          have HM5 := Aside0.mk (show _ ∧ _ ∧ _ from ⟨hm5, hD5, hl5⟩)
          clear hm4 hm4d hm5 hD5 hl5 hsz hbl ho ht hu
          go_upto_region 11 with fail
          go_region
          go_wp2
          obtain ⟨hm5, hD5, hl5⟩ := HM5.out
          go_roundw
          case rel => exact ⟨i + 1, gb4, _, D', by omega, by go_num, by have := HML.out; have := HLE.out; omega, ⟨HQ.out.put HQ4.out HG4.out HT4.out hm5 HT5.out (fun z => by rw [hD5, HFP.out, HF.out]; split; simp only []; rw [if_neg (by have := HNY.out; omega)]; rfl; exact HQ.out.eq z) (by rw [hl5, HGX.out, HLE.out, HQ.out.len]; rfl)⟩⟩
          case measure => simp [intOf]; omega
        · have dy : decide (y < a.Key) = false := decide_eq_false hy2
          have hp : putQ m x y = (m, false) := by unfold putQ; rw [hf]; exact if_pos (by omega)
          have HP := Aside0.mk hp
          clear HG hf hgx hp hy2
          go_upto_region 8 with fail
          refine wp_region_tailH (S := fun W' => Below wr.heap.size wr W' ∧ ∀ a : Addr, a.block < wr.heap.size → W'.cell? a = wr.cell? a) 9 (by kernel_rfl) (by kernel_rfl) (by kernel_rfl) (hl_start _) (fun hHeld => ?_)
          simp only [List.take_succ_cons, List.take_zero, List.drop_succ_cons, List.drop_zero]
          refine wpAnyH_take (i := 0) (oi := _) (v := ?_) (by simp only [List.getElem?_toArray, List.getElem?_cons_succ, List.getElem?_cons_zero]; rfl) (by kernel_rfl) (by kernel_rfl) (by kernel_rfl) (tail_hQ (by exact fun _ _ _ h => h)) (Or.inl ⟨by rfl, ?_⟩) (by assumption) ?_
          rotate_left
          focus (intro w hSw; (try dsimp only at hSw); go_simp; (try with_reducible rfl); done)
          (try simp only [Act.put, List.setIfInBounds_toArray, List.set_cons_zero, List.set_cons_succ])
          refine wpAnyH_take (i := 1) (oi := _) (v := ?_) (by simp only [List.getElem?_toArray, List.getElem?_cons_succ, List.getElem?_cons_zero]; rfl) (by kernel_rfl) (by kernel_rfl) (by kernel_rfl) (tail_hQ (by exact fun _ _ _ h => h)) (Or.inl ⟨by rfl, ?_⟩) (by assumption) ?_
          rotate_left
          focus (intro w hSw; (try dsimp only at hSw); go_simp; (try with_reducible rfl); done)
          (try simp only [Act.put, List.setIfInBounds_toArray, List.set_cons_zero, List.set_cons_succ])
          refine wpAnyH_take (i := 2) (oi := _) (v := ?_) (by simp only [List.getElem?_toArray, List.getElem?_cons_succ, List.getElem?_cons_zero]; rfl) (by kernel_rfl) (by kernel_rfl) (by kernel_rfl) (tail_hQ (by exact fun _ _ _ h => h)) (Or.inl ⟨by rfl, ?_⟩) (by assumption) ?_
          rotate_left
          focus (intro w hSw; (try dsimp only at hSw); go_simp; (try with_reducible rfl); done)
          (try simp only [Act.put, List.setIfInBounds_toArray, List.set_cons_zero, List.set_cons_succ])
          refine wpAnyH_take (i := 3) (oi := _) (v := ?_) (by simp only [List.getElem?_toArray, List.getElem?_cons_succ, List.getElem?_cons_zero]; rfl) (by kernel_rfl) (by kernel_rfl) (by kernel_rfl) (tail_hQ (by exact fun _ _ _ h => h)) (Or.inl ⟨by rfl, ?_⟩) (by assumption) ?_
          rotate_left
          focus (intro w hSw; (try dsimp only at hSw); go_simp; (try with_reducible rfl); done)
          (try simp only [Act.put, List.setIfInBounds_toArray, List.set_cons_zero, List.set_cons_succ])
          refine wpAnyH_take (i := 4) (oi := _) (v := ?_) (by simp only [List.getElem?_toArray, List.getElem?_cons_succ, List.getElem?_cons_zero]; rfl) (by kernel_rfl) (by kernel_rfl) (by kernel_rfl) (tail_hQ (by exact fun _ _ _ h => h)) (Or.inl ⟨by rfl, ?_⟩) (by assumption) ?_
          rotate_left
          focus (intro w hSw; (try dsimp only at hSw); go_simp; (try with_reducible rfl); done)
          (try simp only [Act.put, List.setIfInBounds_toArray, List.set_cons_zero, List.set_cons_succ])
          refine wpAnyH_take (i := 5) (oi := _) (v := ?_) (by simp only [List.getElem?_toArray, List.getElem?_cons_succ, List.getElem?_cons_zero]; rfl) (by kernel_rfl) (by kernel_rfl) (by kernel_rfl) (tail_hQ (by exact fun _ _ _ h => h)) (Or.inl ⟨by rfl, ?_⟩) (by assumption) ?_
          rotate_left
          focus (intro w hSw; (try dsimp only at hSw); go_simp; (try with_reducible rfl); done)
          (try simp only [Act.put, List.setIfInBounds_toArray, List.set_cons_zero, List.set_cons_succ])
          refine wpAnyH_take (i := 6) (oi := _) (v := ?_) (by simp only [List.getElem?_toArray, List.getElem?_cons_succ, List.getElem?_cons_zero]; rfl) (by kernel_rfl) (by kernel_rfl) (by kernel_rfl) (tail_hQ (by exact fun _ _ _ h => h)) (Or.inl ⟨by rfl, ?_⟩) (by assumption) ?_
          rotate_left
          focus (intro w hSw; (try dsimp only at hSw); go_simp; (try with_reducible rfl); done)
          (try simp only [Act.put, List.setIfInBounds_toArray, List.set_cons_zero, List.set_cons_succ])
          refine wpAnyH_take (i := 7) (oi := _) (v := ?_) (by simp only [List.getElem?_toArray, List.getElem?_cons_succ, List.getElem?_cons_zero]; rfl) (by kernel_rfl) (by kernel_rfl) (by kernel_rfl) (tail_hQ (by exact fun _ _ _ h => h)) (Or.inl ⟨by rfl, ?_⟩) (by assumption) ?_
          rotate_left
          focus (intro w hSw; (try dsimp only at hSw); go_simp; (try with_reducible rfl); done)
          (try simp only [Act.put, List.setIfInBounds_toArray, List.set_cons_zero, List.set_cons_succ])
          refine wpAnyH_take (i := 8) (oi := _) (v := ?_) (by simp only [List.getElem?_toArray, List.getElem?_cons_succ, List.getElem?_cons_zero]; rfl) (by kernel_rfl) (by kernel_rfl) (by kernel_rfl) (tail_hQ (by exact fun _ _ _ h => h)) (Or.inl ⟨by rfl, ?_⟩) (by assumption) ?_
          rotate_left
          focus (intro w hSw; (try dsimp only at hSw); go_simp; (try with_reducible rfl); done)
          (try simp only [Act.put, List.setIfInBounds_toArray, List.set_cons_zero, List.set_cons_succ])
          refine wpAnyH_tail (by kernel_rfl) ?_ _
          go_upto_region 9 with (go_at_call 10; refine (qqPut (HQ.out.q.below (by repeat (first | with_reducible exact Below.refl _ _ | with_reducible apply below_alloc | with_reducible apply below_drew | with_reducible apply pw_below_drewN | (with_reducible refine Below.setCell ?_ (by first | (simp; done) | (simp; omega) | (dsimp only; omega)) _) | (with_reducible refine below_to ?_ (by assumption))))) x y).mono ?_; rintro e w4 ⟨rfl, gb4, hq, hg, ht⟩; have HQ4 := Aside0.mk hq; have HG4 : Aside0 (gb4 = gb ∨ ∃ g, gb4 = some g ∧ wr.heap.size ≤ g) := ⟨hg⟩; have HT4 : Aside0 (Turn (QS qb mb gb) wr w4) := ⟨Turn.trans (S' := QS qb mb gb) (Turn.of_below (by repeat (first | with_reducible exact Below.refl _ _ | with_reducible apply below_alloc | with_reducible apply below_drew | with_reducible apply pw_below_drewN | (with_reducible refine Below.setCell ?_ (by first | (simp; done) | (simp; omega) | (dsimp only; omega)) _) | (with_reducible refine below_to ?_ (by assumption))))) ht (fun _ _ h => h)⟩; clear hq hg ht)
          clear x0 y0 hx hy hHeld
          have x0 := X0.out _ HQ4.out.b
          have y0 := Y0.out _ HQ4.out.b
          have hm4 := (HQ.out.turn HQ4.out HG4.out HT4.out).1
          have hlk := hm4.lookup (P := Try.prog) (T := 26) Try.underlying26 Try.underlying3 (z := .int .i64 0) (fun _ => rfl) x true
          rw [HGX.out] at hlk
          dsimp only at hlk
          simp only [if_true] at hlk
          go_wp2
          go_roundw
          case rel =>
            rw [HP.out] at HQ4
            exact ⟨i + 1, gb4, m, D, by omega, by go_num, by have := HML.out; omega, ⟨⟨HQ4.out, (HQ.out.turn HQ4.out HG4.out HT4.out).1, HQ.out.n0, HQ.out.n1, (HQ.out.turn HQ4.out HG4.out HT4.out).2, HQ.out.l0, HQ.out.eq, HQ.out.len⟩⟩⟩
          case measure => simp [intOf]; omega
    · have dn : Aside0 (¬ (i < l0.length ∧ i < l1.length ∧ i < 300)) := ⟨hlt⟩
      have HKP := Aside0.mk (fun W W' (ht : Turn (QS qb mb gb) W W') (hl : IMapAt (fun v : Int => Value.int .i64 v) W lb D) => show IMapAt (fun v : Int => Value.int .i64 v) W' lb D from hl.keep (ht.block lb hl.lt (fun hS => by
        rcases hS with hS | hS | hS
        · exact HQ.out.n0 hS
        · exact HQ.out.n1 hS
        · exact HQ.out.n2 hS.symm)))
      have HDL : Aside0 (D.length ≤ 300) := ⟨by have := HQ.out.len; omega⟩
      rcases (show l0.length ≤ i ∨ i < l0.length ∧ l1.length ≤ i ∨ i < l0.length ∧ i < l1.length ∧ 300 ≤ i by omega) with h | ⟨h, h'⟩ | ⟨h, h', h''⟩
      · have d0 : decide ((i : Int) < (l0.length : Int)) = false := decide_eq_false (by omega)
        clear hlt
        go_upto_region 13 with fail
        go_wp2
        go_loopw [10, 11, 12] (fun vl vk vn wr => ∃ (la lk : Int) (n : Nat) (m : List QE), vl = .int .i64 la ∧ vk = .int .i64 lk ∧ vn = .int .i64 n ∧ n + m.length = D.length ∧ Aside0 (QQ w wr qb mb gb m) ∧ Aside0 (IMapAt (fun v : Int => Value.int .i64 v) wr lb D) ∧ Aside0 (∀ e ∈ m, getI D e.Item = some e.Key) ∧ Aside0 (0 < n → ∀ a ∈ m, QE.lt ⟨la, lk⟩ a)) (fun _ _ vn _ => D.length + 1 - (intOf vn).toNat)
        case atStart => exact ⟨0, 0, 0, m, rfl, rfl, rfl, by rw [HQ.out.len]; omega, ⟨HQ.out.q⟩, ⟨HQ.out.l⟩, ⟨fun e he => by rw [HQ.out.eq, (findQ_some HQ.out.q.q.items).2 ⟨he, rfl⟩]; rfl⟩, ⟨fun h => absurd h (by omega)⟩⟩
        case round =>
          obtain ⟨la, lk, n, m2, rfl, rfl, rfl, hnm, HQ2, HL2, HE2, HT2⟩ := hrel
          have HTK := Aside0.mk (qqTake HQ2.out)
          cases htk : takeQ m2 with
          | none =>
            rw [htk] at HTK
            dsimp only at HTK
            have hm0 : m2 = [] := takeQ_nil.1 htk
            have HM0 := Aside0.mk hm0
            have hl0 : m2.length = 0 := by rw [hm0]; rfl
            obtain rfl : n = D.length := by omega
            clear htk hm0 hl0 hnm
            go_upto_region 17 with (go_at_call 11; refine HTK.out.mono ?_; rintro e w6 ⟨rfl, hq, ht⟩; have HQ6 := Aside0.mk hq; have HT6 := Aside0.mk ht; clear hq ht)
            have hln := (HKP.out _ _ HT6.out HL2.out).len_ 3
            have HLn := Aside0.mk (quLen_any HQ6.out.q)
            rw [HM0.out] at HLn
            go_wp2_with (go_at_call 12; refine HLn.out.mono ?_; rintro e w7 ⟨rfl, hw⟩; subst hw)
            go_ret
            exact ⟨rfl, HQ6.out.b⟩
          | some e =>
            rw [htk] at HTK
            dsimp only at HTK
            have hmin := takeQ_min htk
            have hlt := takeQ_lt HQ2.out.q.items htk
            have hdl := dropQ_len HQ2.out.q.items hmin.1
            have hge := HE2.out e hmin.1
            have hn0 : (n : Int) < 301 := by have := HDL.out; omega
            have e5 : IntKind.i64.wrap ((n : Int) + 1) = (n : Int) + 1 := IntWalk.i64_in _ (by omega)
            have HNX : Aside0 ((n + 1) + (dropQ m2 e.Item).length = D.length ∧ (∀ a ∈ dropQ m2 e.Item, getI D a.Item = some a.Key) ∧ (0 < n + 1 → ∀ a ∈ dropQ m2 e.Item, QE.lt ⟨e.Item, e.Key⟩ a)) := ⟨by omega, fun a ha => HE2.out a (mem_drop ha).1, fun _ a ha => hlt a ha⟩
            have HGE := Aside0.mk hge
            have HLT : Aside0 (0 < n → QE.lt ⟨la, lk⟩ e) := ⟨fun h => HT2.out h e hmin.1⟩
            clear htk hmin hlt hdl hge
            go_upto_region 18 with (go_at_call 11; refine HTK.out.mono ?_; rintro e' w6 ⟨rfl, hq, ht⟩; have HQ6 := Aside0.mk hq; have HT6 := Aside0.mk ht; clear hq ht)
            have hm6 := HKP.out _ _ HT6.out HL2.out
            have HM6 := Aside0.mk hm6
            have hlk := hm6.lookup (P := Try.prog) (T := 26) Try.underlying26 Try.underlying3 (z := .int .i64 0) (fun _ => rfl) e.Item true
            rw [HGE.out] at hlk
            dsimp only at hlk
            simp only [if_true] at hlk
            clear hm6
            by_cases n0 : n = 0
            · have dn1 : decide ((0 : Int) < (n : Int)) = false := decide_eq_false (by omega)
              go_wp2
              go_roundw
              case rel => exact ⟨e.Item, e.Key, n + 1, _, rfl, rfl, by go_num, HNX.out.1, HQ6, HM6, ⟨HNX.out.2.1⟩, ⟨HNX.out.2.2⟩⟩
              case measure => simp [intOf]; have := HNX.out.1; omega
            · have dn1 : decide ((0 : Int) < (n : Int)) = true := decide_eq_true (by omega)
              have hl := HLT.out (by omega)
              unfold QE.lt at hl
              dsimp only at hl
              have dk1 : decide (e.Key < lk) = false := decide_eq_false (by omega)
              by_cases hkk : e.Key = lk
              · have dk2 : (e.Key == lk) = true := by simp [hkk]
                have dk3 : decide (e.Item ≤ la) = false := decide_eq_false (by omega)
                clear hl hkk
                go_wp2
                go_roundw
                case rel => exact ⟨e.Item, e.Key, n + 1, _, rfl, rfl, by go_num, HNX.out.1, HQ6, HM6, ⟨HNX.out.2.1⟩, ⟨HNX.out.2.2⟩⟩
                case measure => simp [intOf]; have := HNX.out.1; omega
              · have dk2 : (e.Key == lk) = false := by simp [hkk]
                clear hl hkk
                go_wp2
                go_roundw
                case rel => exact ⟨e.Item, e.Key, n + 1, _, rfl, rfl, by go_num, HNX.out.1, HQ6, HM6, ⟨HNX.out.2.1⟩, ⟨HNX.out.2.2⟩⟩
                case measure => simp [intOf]; have := HNX.out.1; omega
      · have d0 : decide ((i : Int) < (l0.length : Int)) = true := decide_eq_true (by omega)
        have d1 : decide ((i : Int) < (l1.length : Int)) = false := decide_eq_false (by omega)
        clear hlt
        go_upto_region 13 with fail
        go_wp2
        go_loopw [10, 11, 12] (fun vl vk vn wr => ∃ (la lk : Int) (n : Nat) (m : List QE), vl = .int .i64 la ∧ vk = .int .i64 lk ∧ vn = .int .i64 n ∧ n + m.length = D.length ∧ Aside0 (QQ w wr qb mb gb m) ∧ Aside0 (IMapAt (fun v : Int => Value.int .i64 v) wr lb D) ∧ Aside0 (∀ e ∈ m, getI D e.Item = some e.Key) ∧ Aside0 (0 < n → ∀ a ∈ m, QE.lt ⟨la, lk⟩ a)) (fun _ _ vn _ => D.length + 1 - (intOf vn).toNat)
        case atStart => exact ⟨0, 0, 0, m, rfl, rfl, rfl, by rw [HQ.out.len]; omega, ⟨HQ.out.q⟩, ⟨HQ.out.l⟩, ⟨fun e he => by rw [HQ.out.eq, (findQ_some HQ.out.q.q.items).2 ⟨he, rfl⟩]; rfl⟩, ⟨fun h => absurd h (by omega)⟩⟩
        case round =>
          obtain ⟨la, lk, n, m2, rfl, rfl, rfl, hnm, HQ2, HL2, HE2, HT2⟩ := hrel
          have HTK := Aside0.mk (qqTake HQ2.out)
          cases htk : takeQ m2 with
          | none =>
            rw [htk] at HTK
            dsimp only at HTK
            have hm0 : m2 = [] := takeQ_nil.1 htk
            have HM0 := Aside0.mk hm0
            have hl0 : m2.length = 0 := by rw [hm0]; rfl
            obtain rfl : n = D.length := by omega
            clear htk hm0 hl0 hnm
            go_upto_region 17 with (go_at_call 11; refine HTK.out.mono ?_; rintro e w6 ⟨rfl, hq, ht⟩; have HQ6 := Aside0.mk hq; have HT6 := Aside0.mk ht; clear hq ht)
            have hln := (HKP.out _ _ HT6.out HL2.out).len_ 3
            have HLn := Aside0.mk (quLen_any HQ6.out.q)
            rw [HM0.out] at HLn
            go_wp2_with (go_at_call 12; refine HLn.out.mono ?_; rintro e w7 ⟨rfl, hw⟩; subst hw)
            go_ret
            exact ⟨rfl, HQ6.out.b⟩
          | some e =>
            rw [htk] at HTK
            dsimp only at HTK
            have hmin := takeQ_min htk
            have hlt := takeQ_lt HQ2.out.q.items htk
            have hdl := dropQ_len HQ2.out.q.items hmin.1
            have hge := HE2.out e hmin.1
            have hn0 : (n : Int) < 301 := by have := HDL.out; omega
            have e5 : IntKind.i64.wrap ((n : Int) + 1) = (n : Int) + 1 := IntWalk.i64_in _ (by omega)
            have HNX : Aside0 ((n + 1) + (dropQ m2 e.Item).length = D.length ∧ (∀ a ∈ dropQ m2 e.Item, getI D a.Item = some a.Key) ∧ (0 < n + 1 → ∀ a ∈ dropQ m2 e.Item, QE.lt ⟨e.Item, e.Key⟩ a)) := ⟨by omega, fun a ha => HE2.out a (mem_drop ha).1, fun _ a ha => hlt a ha⟩
            have HGE := Aside0.mk hge
            have HLT : Aside0 (0 < n → QE.lt ⟨la, lk⟩ e) := ⟨fun h => HT2.out h e hmin.1⟩
            clear htk hmin hlt hdl hge
            go_upto_region 18 with (go_at_call 11; refine HTK.out.mono ?_; rintro e' w6 ⟨rfl, hq, ht⟩; have HQ6 := Aside0.mk hq; have HT6 := Aside0.mk ht; clear hq ht)
            have hm6 := HKP.out _ _ HT6.out HL2.out
            have HM6 := Aside0.mk hm6
            have hlk := hm6.lookup (P := Try.prog) (T := 26) Try.underlying26 Try.underlying3 (z := .int .i64 0) (fun _ => rfl) e.Item true
            rw [HGE.out] at hlk
            dsimp only at hlk
            simp only [if_true] at hlk
            clear hm6
            by_cases n0 : n = 0
            · have dn1 : decide ((0 : Int) < (n : Int)) = false := decide_eq_false (by omega)
              go_wp2
              go_roundw
              case rel => exact ⟨e.Item, e.Key, n + 1, _, rfl, rfl, by go_num, HNX.out.1, HQ6, HM6, ⟨HNX.out.2.1⟩, ⟨HNX.out.2.2⟩⟩
              case measure => simp [intOf]; have := HNX.out.1; omega
            · have dn1 : decide ((0 : Int) < (n : Int)) = true := decide_eq_true (by omega)
              have hl := HLT.out (by omega)
              unfold QE.lt at hl
              dsimp only at hl
              have dk1 : decide (e.Key < lk) = false := decide_eq_false (by omega)
              by_cases hkk : e.Key = lk
              · have dk2 : (e.Key == lk) = true := by simp [hkk]
                have dk3 : decide (e.Item ≤ la) = false := decide_eq_false (by omega)
                clear hl hkk
                go_wp2
                go_roundw
                case rel => exact ⟨e.Item, e.Key, n + 1, _, rfl, rfl, by go_num, HNX.out.1, HQ6, HM6, ⟨HNX.out.2.1⟩, ⟨HNX.out.2.2⟩⟩
                case measure => simp [intOf]; have := HNX.out.1; omega
              · have dk2 : (e.Key == lk) = false := by simp [hkk]
                clear hl hkk
                go_wp2
                go_roundw
                case rel => exact ⟨e.Item, e.Key, n + 1, _, rfl, rfl, by go_num, HNX.out.1, HQ6, HM6, ⟨HNX.out.2.1⟩, ⟨HNX.out.2.2⟩⟩
                case measure => simp [intOf]; have := HNX.out.1; omega
      · have d0 : decide ((i : Int) < (l0.length : Int)) = true := decide_eq_true (by omega)
        have d1 : decide ((i : Int) < (l1.length : Int)) = true := decide_eq_true (by omega)
        have d2 : decide ((i : Int) < 300) = false := decide_eq_false (by omega)
        clear hlt
        go_upto_region 13 with fail
        go_wp2
        go_loopw [10, 11, 12] (fun vl vk vn wr => ∃ (la lk : Int) (n : Nat) (m : List QE), vl = .int .i64 la ∧ vk = .int .i64 lk ∧ vn = .int .i64 n ∧ n + m.length = D.length ∧ Aside0 (QQ w wr qb mb gb m) ∧ Aside0 (IMapAt (fun v : Int => Value.int .i64 v) wr lb D) ∧ Aside0 (∀ e ∈ m, getI D e.Item = some e.Key) ∧ Aside0 (0 < n → ∀ a ∈ m, QE.lt ⟨la, lk⟩ a)) (fun _ _ vn _ => D.length + 1 - (intOf vn).toNat)
        case atStart => exact ⟨0, 0, 0, m, rfl, rfl, rfl, by rw [HQ.out.len]; omega, ⟨HQ.out.q⟩, ⟨HQ.out.l⟩, ⟨fun e he => by rw [HQ.out.eq, (findQ_some HQ.out.q.q.items).2 ⟨he, rfl⟩]; rfl⟩, ⟨fun h => absurd h (by omega)⟩⟩
        case round =>
          obtain ⟨la, lk, n, m2, rfl, rfl, rfl, hnm, HQ2, HL2, HE2, HT2⟩ := hrel
          have HTK := Aside0.mk (qqTake HQ2.out)
          cases htk : takeQ m2 with
          | none =>
            rw [htk] at HTK
            dsimp only at HTK
            have hm0 : m2 = [] := takeQ_nil.1 htk
            have HM0 := Aside0.mk hm0
            have hl0 : m2.length = 0 := by rw [hm0]; rfl
            obtain rfl : n = D.length := by omega
            clear htk hm0 hl0 hnm
            go_upto_region 17 with (go_at_call 11; refine HTK.out.mono ?_; rintro e w6 ⟨rfl, hq, ht⟩; have HQ6 := Aside0.mk hq; have HT6 := Aside0.mk ht; clear hq ht)
            have hln := (HKP.out _ _ HT6.out HL2.out).len_ 3
            have HLn := Aside0.mk (quLen_any HQ6.out.q)
            rw [HM0.out] at HLn
            go_wp2_with (go_at_call 12; refine HLn.out.mono ?_; rintro e w7 ⟨rfl, hw⟩; subst hw)
            go_ret
            exact ⟨rfl, HQ6.out.b⟩
          | some e =>
            rw [htk] at HTK
            dsimp only at HTK
            have hmin := takeQ_min htk
            have hlt := takeQ_lt HQ2.out.q.items htk
            have hdl := dropQ_len HQ2.out.q.items hmin.1
            have hge := HE2.out e hmin.1
            have hn0 : (n : Int) < 301 := by have := HDL.out; omega
            have e5 : IntKind.i64.wrap ((n : Int) + 1) = (n : Int) + 1 := IntWalk.i64_in _ (by omega)
            have HNX : Aside0 ((n + 1) + (dropQ m2 e.Item).length = D.length ∧ (∀ a ∈ dropQ m2 e.Item, getI D a.Item = some a.Key) ∧ (0 < n + 1 → ∀ a ∈ dropQ m2 e.Item, QE.lt ⟨e.Item, e.Key⟩ a)) := ⟨by omega, fun a ha => HE2.out a (mem_drop ha).1, fun _ a ha => hlt a ha⟩
            have HGE := Aside0.mk hge
            have HLT : Aside0 (0 < n → QE.lt ⟨la, lk⟩ e) := ⟨fun h => HT2.out h e hmin.1⟩
            clear htk hmin hlt hdl hge
            go_upto_region 18 with (go_at_call 11; refine HTK.out.mono ?_; rintro e' w6 ⟨rfl, hq, ht⟩; have HQ6 := Aside0.mk hq; have HT6 := Aside0.mk ht; clear hq ht)
            have hm6 := HKP.out _ _ HT6.out HL2.out
            have HM6 := Aside0.mk hm6
            have hlk := hm6.lookup (P := Try.prog) (T := 26) Try.underlying26 Try.underlying3 (z := .int .i64 0) (fun _ => rfl) e.Item true
            rw [HGE.out] at hlk
            dsimp only at hlk
            simp only [if_true] at hlk
            clear hm6
            by_cases n0 : n = 0
            · have dn1 : decide ((0 : Int) < (n : Int)) = false := decide_eq_false (by omega)
              go_wp2
              go_roundw
              case rel => exact ⟨e.Item, e.Key, n + 1, _, rfl, rfl, by go_num, HNX.out.1, HQ6, HM6, ⟨HNX.out.2.1⟩, ⟨HNX.out.2.2⟩⟩
              case measure => simp [intOf]; have := HNX.out.1; omega
            · have dn1 : decide ((0 : Int) < (n : Int)) = true := decide_eq_true (by omega)
              have hl := HLT.out (by omega)
              unfold QE.lt at hl
              dsimp only at hl
              have dk1 : decide (e.Key < lk) = false := decide_eq_false (by omega)
              by_cases hkk : e.Key = lk
              · have dk2 : (e.Key == lk) = true := by simp [hkk]
                have dk3 : decide (e.Item ≤ la) = false := decide_eq_false (by omega)
                clear hl hkk
                go_wp2
                go_roundw
                case rel => exact ⟨e.Item, e.Key, n + 1, _, rfl, rfl, by go_num, HNX.out.1, HQ6, HM6, ⟨HNX.out.2.1⟩, ⟨HNX.out.2.2⟩⟩
                case measure => simp [intOf]; have := HNX.out.1; omega
              · have dk2 : (e.Key == lk) = false := by simp [hkk]
                clear hl hkk
                go_wp2
                go_roundw
                case rel => exact ⟨e.Item, e.Key, n + 1, _, rfl, rfl, by go_num, HNX.out.1, HQ6, HM6, ⟨HNX.out.2.1⟩, ⟨HNX.out.2.2⟩⟩
                case measure => simp [intOf]; have := HNX.out.1; omega
theorem queueSorts_row (l0 : List Int) (A0 : Option Addr) (c0 : Nat) (l1 : List Int) (A1 : Option Addr) (c1 : Nat) (w : World) (h0 : l0.length ≤ maxLen ∧ l0.length * 8 ≤ 140737488351232 ∧ ∀ y ∈ l0, (Lit.int .i64 y).wf = true) (_ : l0.length ≤ c0) (hr0 : Kd.C (Kd.int .i64) w A0 l0.length l0)
    (h1 : l1.length ≤ maxLen ∧ l1.length * 8 ≤ 140737488351232 ∧ ∀ y ∈ l1, (Lit.int .i64 y).wf = true) (_ : l1.length ≤ c1) (hr1 : Kd.C (Kd.int .i64) w A1 l1.length l1) :
    Calls Try.prog 3 #[.slice A0 l0.length c0, .slice A1 l1.length c1] w fun e w' => e = .returned (.bool true) ∧ Below w.heap.size w w' :=
  queueSorts_any l0 A0 c0 l1 A1 c1 w (by have := h0.2.1; omega) (by have := h1.2.1; omega) hr0 hr1
end Go.Proofs.Ytiejegalokncgaa
