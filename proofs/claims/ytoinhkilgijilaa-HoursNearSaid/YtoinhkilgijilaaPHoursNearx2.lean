-- PRINTED BY print.sh 35421559b90ae4d0a3588c463048766b98c2df88dd9212a6774a882060cdf62d: not written by this session
import Derived.Test.YtoinhkilgijilaaPHoursNearx0
import Derived.Test.YtoinhkilgijilaaPHoursNearx1
namespace Go.Proofs.Ytoinhkilgijilaa.PHoursNear
open Go.RowKit Go.Proofs.YtoinhkilgijilaaW.PrintWords Go.Proofs.YtoinhkilgijilaaW.PrintLast Go.Proofs.YtoinhkilgijilaaW.PrintMore
attribute [local go_sem] max2_int min2_int max_two min_two max_three min_three max_four min_four   -- for this text's walks alone
set_option linter.unusedVariables false
set_option linter.unusedSimpArgs false

/-! ### haulierlaw11_HoursNear: function 4 -/
mutual
def haulierlaw11_HoursNear.j0 : Nat → List (S32) → Int → Int → Bool → Option (Bool)
  | 0, _, _, _, _ => none
  | k + 1, x0, x1, x2, x23 => if x23 = true then (some true) else ((hours_Start.f k x0 x1).bind fun bt126 => ((hours_Last.f k x0 x1).bind fun bt128 => (if bt126.2 = true then (if bt126.1 < x1 then (haulierlaw11_HoursNear.j1 k x0 x1 (wrap64 (Int.tmod (IntKind.u64.wrap (x2)) 1000)) bt126.1 bt126.2 bt128.1 bt128.2 true) else ((hours_In.f k x0 bt126.1).bind fun t130 => (if t130 = true then (if (wrap64 (x1 + (wrap64 (Int.tmod (IntKind.u64.wrap (x2)) 1000)))) < bt126.1 then ((hours_In.f k x0 (wrap64 (x1 + (wrap64 (Int.tmod (IntKind.u64.wrap (x2)) 1000))))).bind fun t131 => (if t131 = true then (haulierlaw11_HoursNear.j1 k x0 x1 (wrap64 (Int.tmod (IntKind.u64.wrap (x2)) 1000)) bt126.1 bt126.2 bt128.1 bt128.2 true) else (haulierlaw11_HoursNear.j1 k x0 x1 (wrap64 (Int.tmod (IntKind.u64.wrap (x2)) 1000)) bt126.1 bt126.2 bt128.1 bt128.2 false))) else (haulierlaw11_HoursNear.j1 k x0 x1 (wrap64 (Int.tmod (IntKind.u64.wrap (x2)) 1000)) bt126.1 bt126.2 bt128.1 bt128.2 false)) else (haulierlaw11_HoursNear.j1 k x0 x1 (wrap64 (Int.tmod (IntKind.u64.wrap (x2)) 1000)) bt126.1 bt126.2 bt128.1 bt128.2 true)))) else ((hours_In.f k x0 (wrap64 (x1 + (wrap64 (Int.tmod (IntKind.u64.wrap (x2)) 1000))))).bind fun t132 => (haulierlaw11_HoursNear.j1 k x0 x1 (wrap64 (Int.tmod (IntKind.u64.wrap (x2)) 1000)) bt126.1 bt126.2 bt128.1 bt128.2 t132)))))
def haulierlaw11_HoursNear.j1 : Nat → List (S32) → Int → Int → Int → Bool → Int → Bool → Bool → Option (Bool)
  | 0, _, _, _, _, _, _, _, _ => none
  | k + 1, x0, x1, x2, x7, x8, x9, x10, x76 => if x76 = true then (some false) else (if x10 = true then (if x9 > x1 then (some false) else ((hours_In.f k x0 x9).bind fun t133 => (if t133 = true then (if (wrap64 (x1 - x2)) > x9 then ((hours_In.f k x0 (wrap64 (x1 - x2))).bind fun t134 => (if t134 = true then (some false) else ((hours_In.f k x0 x1).bind fun t135 => (if x8 = true then (if x7 = x9 then (some (t135 == (x7 == x1))) else (some (t135 == false))) else (some (t135 == false)))))) else ((hours_In.f k x0 x1).bind fun t136 => (if x8 = true then (if x7 = x9 then (some (t136 == (x7 == x1))) else (some (t136 == false))) else (some (t136 == false))))) else (some false)))) else ((hours_In.f k x0 (wrap64 (x1 - x2))).bind fun t137 => (if t137 = true then (some false) else ((hours_In.f k x0 x1).bind fun t138 => (if x8 = true then (some (t138 == false)) else (some (t138 == false)))))))
end
def haulierlaw11_HoursNear.f (k : Nat) (l0 : List (S32)) (a1 : Int) (a2 : Int) : Option (Bool) := (haulierlaw11_Awake.f k).bind fun t124 => (if t124 = true then ((haulierlaw11_lawful.f k l0).bind fun t125 => (if t125 = true then (if a1 < (-5000000) then (haulierlaw11_HoursNear.j0 k l0 a1 a2 true) else (haulierlaw11_HoursNear.j0 k l0 a1 a2 (decide (a1 > 5000000)))) else (haulierlaw11_HoursNear.j0 k l0 a1 a2 true))) else (some false))
theorem haulierlaw11_HoursNear.mono_l : ∀ k, (∀ y0 y1 y2 y3, LeO (haulierlaw11_HoursNear.j0 k y0 y1 y2 y3) (haulierlaw11_HoursNear.j0 (k + 1) y0 y1 y2 y3)) ∧ (∀ y0 y1 y2 y3 y4 y5 y6 y7, LeO (haulierlaw11_HoursNear.j1 k y0 y1 y2 y3 y4 y5 y6 y7) (haulierlaw11_HoursNear.j1 (k + 1) y0 y1 y2 y3 y4 y5 y6 y7))
  | 0 => ⟨fun _ _ _ _ r h => by simp [haulierlaw11_HoursNear.j0] at h, fun _ _ _ _ _ _ _ _ r h => by simp [haulierlaw11_HoursNear.j1] at h⟩
  | k + 1 => by
    obtain ⟨ih0, ih1⟩ := haulierlaw11_HoursNear.mono_l k
    refine ⟨?_, ?_⟩
    · intro y0 y1 y2 y3
      unfold haulierlaw11_HoursNear.j0
      repeat' first
      | (with_reducible exact ih0 _ _ _ _)
      | (with_reducible exact ih1 _ _ _ _ _ _ _ _)
      | (with_reducible exact haulierlaw11_Awake.mono _)
      | (with_reducible exact haulierlaw11_lawful.mono _ _)
      | (with_reducible exact hours_In.mono _ _ _)
      | (with_reducible exact hours_Last.mono _ _ _)
      | (with_reducible exact hours_Start.mono _ _ _)
      | (with_reducible exact LeO.refl _)
      | (with_reducible exact LeO.none _)
      | (with_reducible refine LeO.ite ?_ ?_)
      | (with_reducible refine LeO.bind ?_ (fun _ => ?_))
      | exact ih0 _ _ _ _
      | exact ih1 _ _ _ _ _ _ _ _
      | exact haulierlaw11_Awake.mono _
      | exact haulierlaw11_lawful.mono _ _
      | exact hours_In.mono _ _ _
      | exact hours_Last.mono _ _ _
      | exact hours_Start.mono _ _ _
      | exact LeO.none _
      | refine LeO.ite ?_ ?_
      | refine LeO.bind ?_ (fun _ => ?_)
    · intro y0 y1 y2 y3 y4 y5 y6 y7
      unfold haulierlaw11_HoursNear.j1
      repeat' first
      | (with_reducible exact ih0 _ _ _ _)
      | (with_reducible exact ih1 _ _ _ _ _ _ _ _)
      | (with_reducible exact haulierlaw11_Awake.mono _)
      | (with_reducible exact haulierlaw11_lawful.mono _ _)
      | (with_reducible exact hours_In.mono _ _ _)
      | (with_reducible exact hours_Last.mono _ _ _)
      | (with_reducible exact hours_Start.mono _ _ _)
      | (with_reducible exact LeO.refl _)
      | (with_reducible exact LeO.none _)
      | (with_reducible refine LeO.ite ?_ ?_)
      | (with_reducible refine LeO.bind ?_ (fun _ => ?_))
      | exact ih0 _ _ _ _
      | exact ih1 _ _ _ _ _ _ _ _
      | exact haulierlaw11_Awake.mono _
      | exact haulierlaw11_lawful.mono _ _
      | exact hours_In.mono _ _ _
      | exact hours_Last.mono _ _ _
      | exact hours_Start.mono _ _ _
      | exact LeO.none _
      | refine LeO.ite ?_ ?_
      | refine LeO.bind ?_ (fun _ => ?_)
theorem haulierlaw11_HoursNear.mono : ∀ a0 a1 a2 k, LeO (haulierlaw11_HoursNear.f k a0 a1 a2) (haulierlaw11_HoursNear.f (k + 1) a0 a1 a2) := by
  intro a0 a1 a2 k
  obtain ⟨ih0, ih1⟩ := haulierlaw11_HoursNear.mono_l k
  unfold haulierlaw11_HoursNear.f
  repeat' first
      | (with_reducible exact ih0 _ _ _ _)
      | (with_reducible exact ih1 _ _ _ _ _ _ _ _)
      | (with_reducible exact haulierlaw11_Awake.mono _)
      | (with_reducible exact haulierlaw11_lawful.mono _ _)
      | (with_reducible exact hours_In.mono _ _ _)
      | (with_reducible exact hours_Last.mono _ _ _)
      | (with_reducible exact hours_Start.mono _ _ _)
      | (with_reducible exact LeO.refl _)
      | (with_reducible exact LeO.none _)
      | (with_reducible refine LeO.ite ?_ ?_)
      | (with_reducible refine LeO.bind ?_ (fun _ => ?_))
      | exact ih0 _ _ _ _
      | exact ih1 _ _ _ _ _ _ _ _
      | exact haulierlaw11_Awake.mono _
      | exact haulierlaw11_lawful.mono _ _
      | exact hours_In.mono _ _ _
      | exact hours_Last.mono _ _ _
      | exact hours_Start.mono _ _ _
      | exact LeO.none _
      | refine LeO.ite ?_ ?_
      | refine LeO.bind ?_ (fun _ => ?_)
set_option maxHeartbeats 8000000 in
set_option maxRecDepth 100000 in
theorem haulierlaw11_HoursNear.calls (k : Nat) (A0 : Option Addr) (c0 : Nat) (l0 : List (S32)) (a1 : Int) (a2 : Int) (r : Bool) (w : World) (hr0 : Kd.C k32 w A0 l0.length l0) (hc0 : l0.length ≤ c0) (h : haulierlaw11_HoursNear.f k l0 a1 a2 = some r) :
    Calls Try.prog 4 #[.slice A0 l0.length c0, .int .i64 a1, .int .i64 a2] w fun e w' => e = .returned (.bool r) ∧ Below w.heap.size w w' := by
  have HR0 := Aside0.mk hr0
  have HC0 := Aside0.mk hc0
  clear hr0 hc0
  have HB := Aside0.mk (Below.refl w.heap.size w)
  have H : ((haulierlaw11_Awake.f k).bind fun t124 => (if t124 = true then ((haulierlaw11_lawful.f k l0).bind fun t125 => (if t125 = true then (if a1 < (-5000000) then (haulierlaw11_HoursNear.j0 k l0 a1 a2 true) else (haulierlaw11_HoursNear.j0 k l0 a1 a2 (decide (a1 > 5000000)))) else (haulierlaw11_HoursNear.j0 k l0 a1 a2 true))) else (some false))) = some r := h
  clear h
  replace H := Option.bind_eq_some_iff.mp H
  obtain ⟨t124, A40, H⟩ := H
  replace H : (if t124 = true then ((haulierlaw11_lawful.f k l0).bind fun t125 => (if t125 = true then (if a1 < (-5000000) then (haulierlaw11_HoursNear.j0 k l0 a1 a2 true) else (haulierlaw11_HoursNear.j0 k l0 a1 a2 (decide (a1 > 5000000)))) else (haulierlaw11_HoursNear.j0 k l0 a1 a2 true))) else (some false)) = some r := H
  have A4 := Aside0.mk A40
  clear A40
  by_cases c5 : t124 = true
  · subst c5
    have H1 : ((haulierlaw11_lawful.f k l0).bind fun t125 => (if t125 = true then (if a1 < (-5000000) then (haulierlaw11_HoursNear.j0 k l0 a1 a2 true) else (haulierlaw11_HoursNear.j0 k l0 a1 a2 (decide (a1 > 5000000)))) else (haulierlaw11_HoursNear.j0 k l0 a1 a2 true))) = some r := by rw [if_pos rfl] at H; exact H
    clear H
    have H := H1
    clear H1
    have HC6 := Aside0.mk H
    clear H
    go_enter Try.func4, Try.ntmps4
    go_upto_region 3 with (first | ((with_reducible refine gate_callee (f := 7) rfl ?_); refine goesL_ (some 11) rfl rfl Try.func7 (by kernel_rfl) rfl #[] rfl (by (try simp only [List.map_toArray, List.map_cons, List.map_nil]); first | done | rfl | (simp only [List.length_drop, List.length_take]; rfl)) ?_; (with_reducible refine (haulierlaw11_Awake.calls k  true _ A4.out).mono ?_); rintro e w7 ⟨rfl, hb⟩; refine ⟨_, rfl, ?_⟩; have n0_ := Aside0.mk (below_step (by repeat (first | (with_reducible first | exact HB.out | apply below_alloc | apply pw_below_drewN | apply below_drew1) | exact HB.out)) hb); clear HB; have HB := n0_; clear n0_; (try clear hb); (try clear hb2); (try clear hk); (try clear hi)))
    (try simp only [Act.put, List.setIfInBounds_toArray, List.set_cons_zero, List.set_cons_succ])
    go_cut [23] (fun v23 wc => ∃ (kq : Nat) (x23_5 : Bool), v23 = .bool x23_5 ∧ Aside0 (haulierlaw11_HoursNear.j0 kq l0 a1 a2 x23_5 = some r) ∧ Aside0 (kq ≤ k) ∧ Aside0 (Below w.heap.size w wc))
    case first =>
      have H := HC6.out
      clear HC6
      replace H := Option.bind_eq_some_iff.mp H
      obtain ⟨t125, A80, H⟩ := H
      replace H : (if t125 = true then (if a1 < (-5000000) then (haulierlaw11_HoursNear.j0 k l0 a1 a2 true) else (haulierlaw11_HoursNear.j0 k l0 a1 a2 (decide (a1 > 5000000)))) else (haulierlaw11_HoursNear.j0 k l0 a1 a2 true)) = some r := H
      have A8 := Aside0.mk A80
      clear A80
      by_cases c9 : t125 = true
      · subst c9
        have H1 : (if a1 < (-5000000) then (haulierlaw11_HoursNear.j0 k l0 a1 a2 true) else (haulierlaw11_HoursNear.j0 k l0 a1 a2 (decide (a1 > 5000000)))) = some r := by rw [if_pos rfl] at H; exact H
        clear H
        have H := H1
        clear H1
        by_cases c10 : a1 < (-5000000)
        · rw [if_pos c10] at H
          have c10b0 : decide (a1 < (-5000000)) = true := decide_eq_true c10
          clear c10
          (first | rw [c10b0] | (simp only [i64_w, i32_w]; rw [c10b0]) | skip)
          have H' := Aside0.mk H
          clear H
          go_wp2_with (first | ((with_reducible refine gate_callee (f := 8) rfl ?_); refine goesL_ (some 14) rfl rfl Try.func8 (by kernel_rfl) rfl #[.slice A0 l0.length c0] rfl (by (try simp only [List.map_toArray, List.map_cons, List.map_nil]); first | done | rfl | (simp only [List.length_drop, List.length_take]; rfl)) ?_; (with_reducible refine (haulierlaw11_lawful.calls k _ _ l0 true _ ?side1 ?side2 A8.out).mono ?_); (case side1 => repeat (first | exact (Kd.C_below HR0.out HB.out) | (with_reducible refine Kd.C_alloc ?_ _) | (with_reducible refine Kd.C_drewN ?_ _) | (with_reducible refine Kd.C_drew ?_))); (case side2 => exact HC0.out); rintro e w' ⟨rfl, ⟨nd, rfl⟩⟩; refine ⟨_, rfl, ?_⟩))
          go_meet
          case rel => exact ⟨_, (true), (by first | rfl | (simp; done) | (simp [*]; done)), H', ⟨by first | omega | exact Nat.le_refl _⟩, ⟨by repeat (first | (with_reducible first | exact HB.out | apply below_alloc | apply pw_below_drewN | apply below_drew1) | exact HB.out)⟩⟩
        · rw [if_neg c10] at H
          have c10b0 : decide (a1 < (-5000000)) = false := decide_eq_false c10
          clear c10
          (first | rw [c10b0] | (simp only [i64_w, i32_w]; rw [c10b0]) | skip)
          have H' := Aside0.mk H
          clear H
          go_wp2_with (first | ((with_reducible refine gate_callee (f := 8) rfl ?_); refine goesL_ (some 14) rfl rfl Try.func8 (by kernel_rfl) rfl #[.slice A0 l0.length c0] rfl (by (try simp only [List.map_toArray, List.map_cons, List.map_nil]); first | done | rfl | (simp only [List.length_drop, List.length_take]; rfl)) ?_; (with_reducible refine (haulierlaw11_lawful.calls k _ _ l0 true _ ?side1 ?side2 A8.out).mono ?_); (case side1 => repeat (first | exact (Kd.C_below HR0.out HB.out) | (with_reducible refine Kd.C_alloc ?_ _) | (with_reducible refine Kd.C_drewN ?_ _) | (with_reducible refine Kd.C_drew ?_))); (case side2 => exact HC0.out); rintro e w' ⟨rfl, ⟨nd, rfl⟩⟩; refine ⟨_, rfl, ?_⟩))
          go_meet
          case rel => exact ⟨_, (decide (a1 > 5000000)), (by first | rfl | (simp; done) | (simp [*]; done)), H', ⟨by first | omega | exact Nat.le_refl _⟩, ⟨by repeat (first | (with_reducible first | exact HB.out | apply below_alloc | apply pw_below_drewN | apply below_drew1) | exact HB.out)⟩⟩
      · replace c9 := Bool.eq_false_iff.mpr c9
        subst c9
        have H1 : (haulierlaw11_HoursNear.j0 k l0 a1 a2 true) = some r := by rw [if_neg (show ¬ (false = true) by decide)] at H; exact H
        clear H
        have H := H1
        clear H1
        have H' := Aside0.mk H
        clear H
        go_wp2_with (first | ((with_reducible refine gate_callee (f := 8) rfl ?_); refine goesL_ (some 14) rfl rfl Try.func8 (by kernel_rfl) rfl #[.slice A0 l0.length c0] rfl (by (try simp only [List.map_toArray, List.map_cons, List.map_nil]); first | done | rfl | (simp only [List.length_drop, List.length_take]; rfl)) ?_; (with_reducible refine (haulierlaw11_lawful.calls k _ _ l0 false _ ?side1 ?side2 A8.out).mono ?_); (case side1 => repeat (first | exact (Kd.C_below HR0.out HB.out) | (with_reducible refine Kd.C_alloc ?_ _) | (with_reducible refine Kd.C_drewN ?_ _) | (with_reducible refine Kd.C_drew ?_))); (case side2 => exact HC0.out); rintro e w' ⟨rfl, ⟨nd, rfl⟩⟩; refine ⟨_, rfl, ?_⟩))
        go_meet
        case rel => exact ⟨_, (true), (by first | rfl | (simp; done) | (simp [*]; done)), H', ⟨by first | omega | exact Nat.le_refl _⟩, ⟨by repeat (first | (with_reducible first | exact HB.out | apply below_alloc | apply pw_below_drewN | apply below_drew1) | exact HB.out)⟩⟩
    case rest =>
      clear HC6
      try clear c1
      try clear p2
      try clear c4
      try clear c5
      try clear c7
      try clear c8
      try clear c9
      try clear c10
      try clear c10b0
      obtain ⟨kq, x23_5, rfl, HA, HJ5, HB⟩ := hcut
      cases kq with
      | zero => exact absurd HA.out (by simp [haulierlaw11_HoursNear.j0])
      | succ kj5 =>
        have H := HA.out
        clear HA
        simp only [haulierlaw11_HoursNear.j0] at H
        by_cases c11 : x23_5 = true
        · subst c11
          have H1 : (some true) = some r := by rw [if_pos rfl] at H; exact H
          clear H
          have H := H1
          clear H1
          obtain rfl := Option.some.inj H
          go_wp2
          go_ret
          exact ⟨by first | rfl | (simp [errW_none, errW_some] <;> rfl) | (simp [*, errW_none, errW_some] <;> rfl), by repeat (first | (with_reducible first | exact HB.out | apply below_alloc | apply pw_below_drewN | apply below_drew1) | exact HB.out)⟩
        · replace c11 := Bool.eq_false_iff.mpr c11
          subst c11
          have H1 : ((hours_Start.f kj5 l0 a1).bind fun bt126 => ((hours_Last.f kj5 l0 a1).bind fun bt128 => (if bt126.2 = true then (if bt126.1 < a1 then (haulierlaw11_HoursNear.j1 kj5 l0 a1 (wrap64 (Int.tmod (IntKind.u64.wrap (a2)) 1000)) bt126.1 bt126.2 bt128.1 bt128.2 true) else ((hours_In.f kj5 l0 bt126.1).bind fun t130 => (if t130 = true then (if (wrap64 (a1 + (wrap64 (Int.tmod (IntKind.u64.wrap (a2)) 1000)))) < bt126.1 then ((hours_In.f kj5 l0 (wrap64 (a1 + (wrap64 (Int.tmod (IntKind.u64.wrap (a2)) 1000))))).bind fun t131 => (if t131 = true then (haulierlaw11_HoursNear.j1 kj5 l0 a1 (wrap64 (Int.tmod (IntKind.u64.wrap (a2)) 1000)) bt126.1 bt126.2 bt128.1 bt128.2 true) else (haulierlaw11_HoursNear.j1 kj5 l0 a1 (wrap64 (Int.tmod (IntKind.u64.wrap (a2)) 1000)) bt126.1 bt126.2 bt128.1 bt128.2 false))) else (haulierlaw11_HoursNear.j1 kj5 l0 a1 (wrap64 (Int.tmod (IntKind.u64.wrap (a2)) 1000)) bt126.1 bt126.2 bt128.1 bt128.2 false)) else (haulierlaw11_HoursNear.j1 kj5 l0 a1 (wrap64 (Int.tmod (IntKind.u64.wrap (a2)) 1000)) bt126.1 bt126.2 bt128.1 bt128.2 true)))) else ((hours_In.f kj5 l0 (wrap64 (a1 + (wrap64 (Int.tmod (IntKind.u64.wrap (a2)) 1000))))).bind fun t132 => (haulierlaw11_HoursNear.j1 kj5 l0 a1 (wrap64 (Int.tmod (IntKind.u64.wrap (a2)) 1000)) bt126.1 bt126.2 bt128.1 bt128.2 t132))))) = some r := by rw [if_neg (show ¬ (false = true) by decide)] at H; exact H
          clear H
          have H := H1
          clear H1
          replace H := Option.bind_eq_some_iff.mp H
          obtain ⟨⟨t126, t127⟩, A120, H⟩ := H
          replace H : ((hours_Last.f kj5 l0 a1).bind fun bt128 => (if t127 = true then (if t126 < a1 then (haulierlaw11_HoursNear.j1 kj5 l0 a1 (wrap64 (Int.tmod (IntKind.u64.wrap (a2)) 1000)) t126 t127 bt128.1 bt128.2 true) else ((hours_In.f kj5 l0 t126).bind fun t130 => (if t130 = true then (if (wrap64 (a1 + (wrap64 (Int.tmod (IntKind.u64.wrap (a2)) 1000)))) < t126 then ((hours_In.f kj5 l0 (wrap64 (a1 + (wrap64 (Int.tmod (IntKind.u64.wrap (a2)) 1000))))).bind fun t131 => (if t131 = true then (haulierlaw11_HoursNear.j1 kj5 l0 a1 (wrap64 (Int.tmod (IntKind.u64.wrap (a2)) 1000)) t126 t127 bt128.1 bt128.2 true) else (haulierlaw11_HoursNear.j1 kj5 l0 a1 (wrap64 (Int.tmod (IntKind.u64.wrap (a2)) 1000)) t126 t127 bt128.1 bt128.2 false))) else (haulierlaw11_HoursNear.j1 kj5 l0 a1 (wrap64 (Int.tmod (IntKind.u64.wrap (a2)) 1000)) t126 t127 bt128.1 bt128.2 false)) else (haulierlaw11_HoursNear.j1 kj5 l0 a1 (wrap64 (Int.tmod (IntKind.u64.wrap (a2)) 1000)) t126 t127 bt128.1 bt128.2 true)))) else ((hours_In.f kj5 l0 (wrap64 (a1 + (wrap64 (Int.tmod (IntKind.u64.wrap (a2)) 1000))))).bind fun t132 => (haulierlaw11_HoursNear.j1 kj5 l0 a1 (wrap64 (Int.tmod (IntKind.u64.wrap (a2)) 1000)) t126 t127 bt128.1 bt128.2 t132)))) = some r := H
          have A12 := Aside0.mk A120
          clear A120
          replace H := Option.bind_eq_some_iff.mp H
          obtain ⟨⟨t128, t129⟩, A130, H⟩ := H
          replace H : (if t127 = true then (if t126 < a1 then (haulierlaw11_HoursNear.j1 kj5 l0 a1 (wrap64 (Int.tmod (IntKind.u64.wrap (a2)) 1000)) t126 t127 t128 t129 true) else ((hours_In.f kj5 l0 t126).bind fun t130 => (if t130 = true then (if (wrap64 (a1 + (wrap64 (Int.tmod (IntKind.u64.wrap (a2)) 1000)))) < t126 then ((hours_In.f kj5 l0 (wrap64 (a1 + (wrap64 (Int.tmod (IntKind.u64.wrap (a2)) 1000))))).bind fun t131 => (if t131 = true then (haulierlaw11_HoursNear.j1 kj5 l0 a1 (wrap64 (Int.tmod (IntKind.u64.wrap (a2)) 1000)) t126 t127 t128 t129 true) else (haulierlaw11_HoursNear.j1 kj5 l0 a1 (wrap64 (Int.tmod (IntKind.u64.wrap (a2)) 1000)) t126 t127 t128 t129 false))) else (haulierlaw11_HoursNear.j1 kj5 l0 a1 (wrap64 (Int.tmod (IntKind.u64.wrap (a2)) 1000)) t126 t127 t128 t129 false)) else (haulierlaw11_HoursNear.j1 kj5 l0 a1 (wrap64 (Int.tmod (IntKind.u64.wrap (a2)) 1000)) t126 t127 t128 t129 true)))) else ((hours_In.f kj5 l0 (wrap64 (a1 + (wrap64 (Int.tmod (IntKind.u64.wrap (a2)) 1000))))).bind fun t132 => (haulierlaw11_HoursNear.j1 kj5 l0 a1 (wrap64 (Int.tmod (IntKind.u64.wrap (a2)) 1000)) t126 t127 t128 t129 t132))) = some r := H
          have A13 := Aside0.mk A130
          clear A130
          have HC14 := Aside0.mk H
          clear H
          go_upto_region 8 with (first | ((with_reducible refine gate_callee (f := 9) rfl ?_); refine goesL_ (some 27) rfl rfl Try.func9 (by kernel_rfl) rfl #[.slice A0 l0.length c0, .int .i64 a1] rfl (by (try simp only [List.map_toArray, List.map_cons, List.map_nil]); first | done | rfl | (simp only [List.length_drop, List.length_take]; rfl)) ?_; (with_reducible refine (hours_Start.calls kj5 _ _ l0 a1 t126 t127 _ ?side1 ?side2 A12.out).mono ?_); (case side1 => repeat (first | exact (Kd.C_below HR0.out HB.out) | (with_reducible refine Kd.C_alloc ?_ _) | (with_reducible refine Kd.C_drewN ?_ _) | (with_reducible refine Kd.C_drew ?_))); (case side2 => exact HC0.out); rintro e w15 ⟨rfl, hb⟩; refine ⟨_, rfl, ?_⟩; have n0_ := Aside0.mk (below_step (by repeat (first | (with_reducible first | exact HB.out | apply below_alloc | apply pw_below_drewN | apply below_drew1) | exact HB.out)) hb); clear HB; have HB := n0_; clear n0_; (try clear hb); (try clear hb2); (try clear hk); (try clear hi)) | ((with_reducible refine gate_callee (f := 11) rfl ?_); refine goesL_ (some 33) rfl rfl Try.func11 (by kernel_rfl) rfl #[.slice A0 l0.length c0, .int .i64 a1] rfl (by (try simp only [List.map_toArray, List.map_cons, List.map_nil]); first | done | rfl | (simp only [List.length_drop, List.length_take]; rfl)) ?_; (with_reducible refine (hours_Last.calls kj5 _ _ l0 a1 t128 t129 _ ?side1 ?side2 A13.out).mono ?_); (case side1 => repeat (first | exact (Kd.C_below HR0.out HB.out) | (with_reducible refine Kd.C_alloc ?_ _) | (with_reducible refine Kd.C_drewN ?_ _) | (with_reducible refine Kd.C_drew ?_))); (case side2 => exact HC0.out); rintro e w16 ⟨rfl, hb⟩; refine ⟨_, rfl, ?_⟩; have n0_ := Aside0.mk (below_step (by repeat (first | (with_reducible first | exact HB.out | apply below_alloc | apply pw_below_drewN | apply below_drew1) | exact HB.out)) hb); clear HB; have HB := n0_; clear n0_; (try clear hb); (try clear hb2); (try clear hk); (try clear hi)))
          (try simp only [Act.put, List.setIfInBounds_toArray, List.set_cons_zero, List.set_cons_succ])
          go_cut [76] (fun v76 wc => ∃ (kq : Nat) (x76_13 : Bool), v76 = .bool x76_13 ∧ Aside0 (haulierlaw11_HoursNear.j1 kq l0 a1 (wrap64 (Int.tmod (IntKind.u64.wrap (a2)) 1000)) t126 t127 t128 t129 x76_13 = some r) ∧ Aside0 (kq ≤ kj5) ∧ Aside0 (Below w.heap.size w wc))
          case first =>
            have H := HC14.out
            clear HC14
            by_cases c17 : t127 = true
            · subst c17
              have H1 : (if t126 < a1 then (haulierlaw11_HoursNear.j1 kj5 l0 a1 (wrap64 (Int.tmod (IntKind.u64.wrap (a2)) 1000)) t126 true t128 t129 true) else ((hours_In.f kj5 l0 t126).bind fun t130 => (if t130 = true then (if (wrap64 (a1 + (wrap64 (Int.tmod (IntKind.u64.wrap (a2)) 1000)))) < t126 then ((hours_In.f kj5 l0 (wrap64 (a1 + (wrap64 (Int.tmod (IntKind.u64.wrap (a2)) 1000))))).bind fun t131 => (if t131 = true then (haulierlaw11_HoursNear.j1 kj5 l0 a1 (wrap64 (Int.tmod (IntKind.u64.wrap (a2)) 1000)) t126 true t128 t129 true) else (haulierlaw11_HoursNear.j1 kj5 l0 a1 (wrap64 (Int.tmod (IntKind.u64.wrap (a2)) 1000)) t126 true t128 t129 false))) else (haulierlaw11_HoursNear.j1 kj5 l0 a1 (wrap64 (Int.tmod (IntKind.u64.wrap (a2)) 1000)) t126 true t128 t129 false)) else (haulierlaw11_HoursNear.j1 kj5 l0 a1 (wrap64 (Int.tmod (IntKind.u64.wrap (a2)) 1000)) t126 true t128 t129 true)))) = some r := by rw [if_pos rfl] at H; exact H
              clear H
              have H := H1
              clear H1
              by_cases c18 : t126 < a1
              · rw [if_pos c18] at H
                have c18b0 : decide (t126 < a1) = true := decide_eq_true c18
                clear c18
                (first | rw [c18b0] | (simp only [i64_w, i32_w]; rw [c18b0]) | skip)
                have H' := Aside0.mk H
                clear H
                go_wp2
                go_meet
                case rel => exact ⟨_, (true), (by first | rfl | (simp; done) | (simp [*]; done)), H', ⟨by have := HJ5.out; first | omega | exact Nat.le_refl _⟩, ⟨by repeat (first | (with_reducible first | exact HB.out | apply below_alloc | apply pw_below_drewN | apply below_drew1) | exact HB.out)⟩⟩
              · rw [if_neg c18] at H
                have c18b0 : decide (t126 < a1) = false := decide_eq_false c18
                clear c18
                (first | rw [c18b0] | (simp only [i64_w, i32_w]; rw [c18b0]) | skip)
                replace H := Option.bind_eq_some_iff.mp H
                obtain ⟨t130, A190, H⟩ := H
                replace H : (if t130 = true then (if (wrap64 (a1 + (wrap64 (Int.tmod (IntKind.u64.wrap (a2)) 1000)))) < t126 then ((hours_In.f kj5 l0 (wrap64 (a1 + (wrap64 (Int.tmod (IntKind.u64.wrap (a2)) 1000))))).bind fun t131 => (if t131 = true then (haulierlaw11_HoursNear.j1 kj5 l0 a1 (wrap64 (Int.tmod (IntKind.u64.wrap (a2)) 1000)) t126 true t128 t129 true) else (haulierlaw11_HoursNear.j1 kj5 l0 a1 (wrap64 (Int.tmod (IntKind.u64.wrap (a2)) 1000)) t126 true t128 t129 false))) else (haulierlaw11_HoursNear.j1 kj5 l0 a1 (wrap64 (Int.tmod (IntKind.u64.wrap (a2)) 1000)) t126 true t128 t129 false)) else (haulierlaw11_HoursNear.j1 kj5 l0 a1 (wrap64 (Int.tmod (IntKind.u64.wrap (a2)) 1000)) t126 true t128 t129 true)) = some r := H
                have A19 := Aside0.mk A190
                clear A190
                by_cases c20 : t130 = true
                · subst c20
                  have H1 : (if (wrap64 (a1 + (wrap64 (Int.tmod (IntKind.u64.wrap (a2)) 1000)))) < t126 then ((hours_In.f kj5 l0 (wrap64 (a1 + (wrap64 (Int.tmod (IntKind.u64.wrap (a2)) 1000))))).bind fun t131 => (if t131 = true then (haulierlaw11_HoursNear.j1 kj5 l0 a1 (wrap64 (Int.tmod (IntKind.u64.wrap (a2)) 1000)) t126 true t128 t129 true) else (haulierlaw11_HoursNear.j1 kj5 l0 a1 (wrap64 (Int.tmod (IntKind.u64.wrap (a2)) 1000)) t126 true t128 t129 false))) else (haulierlaw11_HoursNear.j1 kj5 l0 a1 (wrap64 (Int.tmod (IntKind.u64.wrap (a2)) 1000)) t126 true t128 t129 false)) = some r := by rw [if_pos rfl] at H; exact H
                  clear H
                  have H := H1
                  clear H1
                  by_cases c21 : (wrap64 (a1 + (wrap64 (Int.tmod (IntKind.u64.wrap (a2)) 1000)))) < t126
                  · rw [if_pos c21] at H
                    have c21b0 : decide ((wrap64 (a1 + (wrap64 (Int.tmod (IntKind.u64.wrap (a2)) 1000)))) < t126) = true := decide_eq_true c21
                    clear c21
                    replace H := Option.bind_eq_some_iff.mp H
                    obtain ⟨t131, A220, H⟩ := H
                    replace H : (if t131 = true then (haulierlaw11_HoursNear.j1 kj5 l0 a1 (wrap64 (Int.tmod (IntKind.u64.wrap (a2)) 1000)) t126 true t128 t129 true) else (haulierlaw11_HoursNear.j1 kj5 l0 a1 (wrap64 (Int.tmod (IntKind.u64.wrap (a2)) 1000)) t126 true t128 t129 false)) = some r := H
                    have A22 := Aside0.mk A220
                    clear A220
                    by_cases c23 : t131 = true
                    · subst c23
                      have H1 : (haulierlaw11_HoursNear.j1 kj5 l0 a1 (wrap64 (Int.tmod (IntKind.u64.wrap (a2)) 1000)) t126 true t128 t129 true) = some r := by rw [if_pos rfl] at H; exact H
                      clear H
                      have H := H1
                      clear H1
                      have H' := Aside0.mk H
                      clear H
                      go_wp2_with (first | (go_at_call 13; (with_reducible refine (hours_In.calls kj5 _ _ l0 t126 true _ ?side1 ?side2 A19.out).mono ?_); (case side1 => repeat (first | exact (Kd.C_below HR0.out HB.out) | (with_reducible refine Kd.C_alloc ?_ _) | (with_reducible refine Kd.C_drewN ?_ _) | (with_reducible refine Kd.C_drew ?_))); (case side2 => exact HC0.out); rintro e w24 ⟨rfl, hb⟩; have n0_ := Aside0.mk (below_step (by repeat (first | (with_reducible first | exact HB.out | apply below_alloc | apply pw_below_drewN | apply below_drew1) | exact HB.out)) hb); clear HB; have HB := n0_; clear n0_; (try clear hb); (try clear hb2); (try clear hk); (try clear hi)) | (go_at_call 13; (with_reducible refine (hours_In.calls kj5 _ _ l0 (wrap64 (a1 + (wrap64 (Int.tmod (IntKind.u64.wrap (a2)) 1000)))) true _ ?side1 ?side2 A22.out).mono ?_); (case side1 => repeat (first | exact (Kd.C_below HR0.out HB.out) | (with_reducible refine Kd.C_alloc ?_ _) | (with_reducible refine Kd.C_drewN ?_ _) | (with_reducible refine Kd.C_drew ?_))); (case side2 => exact HC0.out); rintro e w25 ⟨rfl, hb⟩; have n0_ := Aside0.mk (below_step (by repeat (first | (with_reducible first | exact HB.out | apply below_alloc | apply pw_below_drewN | apply below_drew1) | exact HB.out)) hb); clear HB; have HB := n0_; clear n0_; (try clear hb); (try clear hb2); (try clear hk); (try clear hi)))
                      go_meet
                      case rel => exact ⟨_, (true), (by first | rfl | (simp; done) | (simp [*]; done)), H', ⟨by have := HJ5.out; first | omega | exact Nat.le_refl _⟩, ⟨by repeat (first | (with_reducible first | exact HB.out | apply below_alloc | apply pw_below_drewN | apply below_drew1) | exact HB.out)⟩⟩
                    · replace c23 := Bool.eq_false_iff.mpr c23
                      subst c23
                      have H1 : (haulierlaw11_HoursNear.j1 kj5 l0 a1 (wrap64 (Int.tmod (IntKind.u64.wrap (a2)) 1000)) t126 true t128 t129 false) = some r := by rw [if_neg (show ¬ (false = true) by decide)] at H; exact H
                      clear H
                      have H := H1
                      clear H1
                      have H' := Aside0.mk H
                      clear H
                      go_wp2_with (first | (go_at_call 13; (with_reducible refine (hours_In.calls kj5 _ _ l0 t126 true _ ?side1 ?side2 A19.out).mono ?_); (case side1 => repeat (first | exact (Kd.C_below HR0.out HB.out) | (with_reducible refine Kd.C_alloc ?_ _) | (with_reducible refine Kd.C_drewN ?_ _) | (with_reducible refine Kd.C_drew ?_))); (case side2 => exact HC0.out); rintro e w26 ⟨rfl, hb⟩; have n0_ := Aside0.mk (below_step (by repeat (first | (with_reducible first | exact HB.out | apply below_alloc | apply pw_below_drewN | apply below_drew1) | exact HB.out)) hb); clear HB; have HB := n0_; clear n0_; (try clear hb); (try clear hb2); (try clear hk); (try clear hi)) | (go_at_call 13; (with_reducible refine (hours_In.calls kj5 _ _ l0 (wrap64 (a1 + (wrap64 (Int.tmod (IntKind.u64.wrap (a2)) 1000)))) false _ ?side1 ?side2 A22.out).mono ?_); (case side1 => repeat (first | exact (Kd.C_below HR0.out HB.out) | (with_reducible refine Kd.C_alloc ?_ _) | (with_reducible refine Kd.C_drewN ?_ _) | (with_reducible refine Kd.C_drew ?_))); (case side2 => exact HC0.out); rintro e w27 ⟨rfl, hb⟩; have n0_ := Aside0.mk (below_step (by repeat (first | (with_reducible first | exact HB.out | apply below_alloc | apply pw_below_drewN | apply below_drew1) | exact HB.out)) hb); clear HB; have HB := n0_; clear n0_; (try clear hb); (try clear hb2); (try clear hk); (try clear hi)))
                      go_meet
                      case rel => exact ⟨_, (false), (by first | rfl | (simp; done) | (simp [*]; done)), H', ⟨by have := HJ5.out; first | omega | exact Nat.le_refl _⟩, ⟨by repeat (first | (with_reducible first | exact HB.out | apply below_alloc | apply pw_below_drewN | apply below_drew1) | exact HB.out)⟩⟩
                  · rw [if_neg c21] at H
                    have c21b0 : decide ((wrap64 (a1 + (wrap64 (Int.tmod (IntKind.u64.wrap (a2)) 1000)))) < t126) = false := decide_eq_false c21
                    clear c21
                    have H' := Aside0.mk H
                    clear H
                    go_wp2_with (first | (go_at_call 13; (with_reducible refine (hours_In.calls kj5 _ _ l0 t126 true _ ?side1 ?side2 A19.out).mono ?_); (case side1 => repeat (first | exact (Kd.C_below HR0.out HB.out) | (with_reducible refine Kd.C_alloc ?_ _) | (with_reducible refine Kd.C_drewN ?_ _) | (with_reducible refine Kd.C_drew ?_))); (case side2 => exact HC0.out); rintro e w28 ⟨rfl, hb⟩; have n0_ := Aside0.mk (below_step (by repeat (first | (with_reducible first | exact HB.out | apply below_alloc | apply pw_below_drewN | apply below_drew1) | exact HB.out)) hb); clear HB; have HB := n0_; clear n0_; (try clear hb); (try clear hb2); (try clear hk); (try clear hi)))
                    go_meet
                    case rel => exact ⟨_, (false), (by first | rfl | (simp; done) | (simp [*]; done)), H', ⟨by have := HJ5.out; first | omega | exact Nat.le_refl _⟩, ⟨by repeat (first | (with_reducible first | exact HB.out | apply below_alloc | apply pw_below_drewN | apply below_drew1) | exact HB.out)⟩⟩
                · replace c20 := Bool.eq_false_iff.mpr c20
                  subst c20
                  have H1 : (haulierlaw11_HoursNear.j1 kj5 l0 a1 (wrap64 (Int.tmod (IntKind.u64.wrap (a2)) 1000)) t126 true t128 t129 true) = some r := by rw [if_neg (show ¬ (false = true) by decide)] at H; exact H
                  clear H
                  have H := H1
                  clear H1
                  have H' := Aside0.mk H
                  clear H
                  go_wp2_with (first | (go_at_call 13; (with_reducible refine (hours_In.calls kj5 _ _ l0 t126 false _ ?side1 ?side2 A19.out).mono ?_); (case side1 => repeat (first | exact (Kd.C_below HR0.out HB.out) | (with_reducible refine Kd.C_alloc ?_ _) | (with_reducible refine Kd.C_drewN ?_ _) | (with_reducible refine Kd.C_drew ?_))); (case side2 => exact HC0.out); rintro e w29 ⟨rfl, hb⟩; have n0_ := Aside0.mk (below_step (by repeat (first | (with_reducible first | exact HB.out | apply below_alloc | apply pw_below_drewN | apply below_drew1) | exact HB.out)) hb); clear HB; have HB := n0_; clear n0_; (try clear hb); (try clear hb2); (try clear hk); (try clear hi)))
                  go_meet
                  case rel => exact ⟨_, (true), (by first | rfl | (simp; done) | (simp [*]; done)), H', ⟨by have := HJ5.out; first | omega | exact Nat.le_refl _⟩, ⟨by repeat (first | (with_reducible first | exact HB.out | apply below_alloc | apply pw_below_drewN | apply below_drew1) | exact HB.out)⟩⟩
            · replace c17 := Bool.eq_false_iff.mpr c17
              subst c17
              have H1 : ((hours_In.f kj5 l0 (wrap64 (a1 + (wrap64 (Int.tmod (IntKind.u64.wrap (a2)) 1000))))).bind fun t132 => (haulierlaw11_HoursNear.j1 kj5 l0 a1 (wrap64 (Int.tmod (IntKind.u64.wrap (a2)) 1000)) t126 false t128 t129 t132)) = some r := by rw [if_neg (show ¬ (false = true) by decide)] at H; exact H
              clear H
              have H := H1
              clear H1
              replace H := Option.bind_eq_some_iff.mp H
              obtain ⟨t132, A300, H⟩ := H
              replace H : (haulierlaw11_HoursNear.j1 kj5 l0 a1 (wrap64 (Int.tmod (IntKind.u64.wrap (a2)) 1000)) t126 false t128 t129 t132) = some r := H
              have A30 := Aside0.mk A300
              clear A300
              have H' := Aside0.mk H
              clear H
              go_wp2_with (first | (go_at_call 13; (with_reducible refine (hours_In.calls kj5 _ _ l0 (wrap64 (a1 + (wrap64 (Int.tmod (IntKind.u64.wrap (a2)) 1000)))) t132 _ ?side1 ?side2 A30.out).mono ?_); (case side1 => repeat (first | exact (Kd.C_below HR0.out HB.out) | (with_reducible refine Kd.C_alloc ?_ _) | (with_reducible refine Kd.C_drewN ?_ _) | (with_reducible refine Kd.C_drew ?_))); (case side2 => exact HC0.out); rintro e w31 ⟨rfl, hb⟩; have n0_ := Aside0.mk (below_step (by repeat (first | (with_reducible first | exact HB.out | apply below_alloc | apply pw_below_drewN | apply below_drew1) | exact HB.out)) hb); clear HB; have HB := n0_; clear n0_; (try clear hb); (try clear hb2); (try clear hk); (try clear hi)))
              go_meet
              case rel => exact ⟨_, (t132), (by first | rfl | (simp; done) | (simp [*]; done)), H', ⟨by have := HJ5.out; first | omega | exact Nat.le_refl _⟩, ⟨by repeat (first | (with_reducible first | exact HB.out | apply below_alloc | apply pw_below_drewN | apply below_drew1) | exact HB.out)⟩⟩
          case rest =>
            clear HC14
            try clear c1
            try clear c2
            try clear p2
            try clear c4
            try clear c5
            try clear p6
            try clear c7
            try clear c8
            try clear c9
            try clear c10
            try clear c10b0
            try clear c11
            try clear c17
            try clear c18
            try clear c18b0
            try clear c20
            try clear c21
            try clear c21b0
            try clear c23
            try clear p2
            obtain ⟨kq, x76_13, rfl, HA, HJ13, HB⟩ := hcut
            cases kq with
            | zero => exact absurd HA.out (by simp [haulierlaw11_HoursNear.j1])
            | succ kj13 =>
              have H := HA.out
              clear HA
              simp only [haulierlaw11_HoursNear.j1] at H
              by_cases c32 : x76_13 = true
              · subst c32
                have H1 : (some false) = some r := by rw [if_pos rfl] at H; exact H
                clear H
                have H := H1
                clear H1
                obtain rfl := Option.some.inj H
                go_wp2
                go_ret
                exact ⟨by first | rfl | (simp [errW_none, errW_some] <;> rfl) | (simp [*, errW_none, errW_some] <;> rfl), by repeat (first | (with_reducible first | exact HB.out | apply below_alloc | apply pw_below_drewN | apply below_drew1) | exact HB.out)⟩
              · replace c32 := Bool.eq_false_iff.mpr c32
                subst c32
                have H1 : (if t129 = true then (if t128 > a1 then (some false) else ((hours_In.f kj13 l0 t128).bind fun t133 => (if t133 = true then (if (wrap64 (a1 - (wrap64 (Int.tmod (IntKind.u64.wrap (a2)) 1000)))) > t128 then ((hours_In.f kj13 l0 (wrap64 (a1 - (wrap64 (Int.tmod (IntKind.u64.wrap (a2)) 1000))))).bind fun t134 => (if t134 = true then (some false) else ((hours_In.f kj13 l0 a1).bind fun t135 => (if t127 = true then (if t126 = t128 then (some (t135 == (t126 == a1))) else (some (t135 == false))) else (some (t135 == false)))))) else ((hours_In.f kj13 l0 a1).bind fun t136 => (if t127 = true then (if t126 = t128 then (some (t136 == (t126 == a1))) else (some (t136 == false))) else (some (t136 == false))))) else (some false)))) else ((hours_In.f kj13 l0 (wrap64 (a1 - (wrap64 (Int.tmod (IntKind.u64.wrap (a2)) 1000))))).bind fun t137 => (if t137 = true then (some false) else ((hours_In.f kj13 l0 a1).bind fun t138 => (if t127 = true then (some (t138 == false)) else (some (t138 == false))))))) = some r := by rw [if_neg (show ¬ (false = true) by decide)] at H; exact H
                clear H
                have H := H1
                clear H1
                by_cases c33 : t129 = true
                · subst c33
                  have H1 : (if t128 > a1 then (some false) else ((hours_In.f kj13 l0 t128).bind fun t133 => (if t133 = true then (if (wrap64 (a1 - (wrap64 (Int.tmod (IntKind.u64.wrap (a2)) 1000)))) > t128 then ((hours_In.f kj13 l0 (wrap64 (a1 - (wrap64 (Int.tmod (IntKind.u64.wrap (a2)) 1000))))).bind fun t134 => (if t134 = true then (some false) else ((hours_In.f kj13 l0 a1).bind fun t135 => (if t127 = true then (if t126 = t128 then (some (t135 == (t126 == a1))) else (some (t135 == false))) else (some (t135 == false)))))) else ((hours_In.f kj13 l0 a1).bind fun t136 => (if t127 = true then (if t126 = t128 then (some (t136 == (t126 == a1))) else (some (t136 == false))) else (some (t136 == false))))) else (some false)))) = some r := by rw [if_pos rfl] at H; exact H
                  clear H
                  have H := H1
                  clear H1
                  by_cases c34 : t128 > a1
                  · rw [if_pos c34] at H
                    have c34b0 : decide (a1 < t128) = true := decide_eq_true c34
                    clear c34
                    obtain rfl := Option.some.inj H
                    go_wp2
                    go_ret
                    exact ⟨by first | rfl | (simp [errW_none, errW_some] <;> rfl) | (simp [*, errW_none, errW_some] <;> rfl), by repeat (first | (with_reducible first | exact HB.out | apply below_alloc | apply pw_below_drewN | apply below_drew1) | exact HB.out)⟩
                  · rw [if_neg c34] at H
                    have c34b0 : decide (a1 < t128) = false := decide_eq_false c34
                    clear c34
                    replace H := Option.bind_eq_some_iff.mp H
                    obtain ⟨t133, A350, H⟩ := H
                    replace H : (if t133 = true then (if (wrap64 (a1 - (wrap64 (Int.tmod (IntKind.u64.wrap (a2)) 1000)))) > t128 then ((hours_In.f kj13 l0 (wrap64 (a1 - (wrap64 (Int.tmod (IntKind.u64.wrap (a2)) 1000))))).bind fun t134 => (if t134 = true then (some false) else ((hours_In.f kj13 l0 a1).bind fun t135 => (if t127 = true then (if t126 = t128 then (some (t135 == (t126 == a1))) else (some (t135 == false))) else (some (t135 == false)))))) else ((hours_In.f kj13 l0 a1).bind fun t136 => (if t127 = true then (if t126 = t128 then (some (t136 == (t126 == a1))) else (some (t136 == false))) else (some (t136 == false))))) else (some false)) = some r := H
                    have A35 := Aside0.mk A350
                    clear A350
                    by_cases c36 : t133 = true
                    · subst c36
                      have H1 : (if (wrap64 (a1 - (wrap64 (Int.tmod (IntKind.u64.wrap (a2)) 1000)))) > t128 then ((hours_In.f kj13 l0 (wrap64 (a1 - (wrap64 (Int.tmod (IntKind.u64.wrap (a2)) 1000))))).bind fun t134 => (if t134 = true then (some false) else ((hours_In.f kj13 l0 a1).bind fun t135 => (if t127 = true then (if t126 = t128 then (some (t135 == (t126 == a1))) else (some (t135 == false))) else (some (t135 == false)))))) else ((hours_In.f kj13 l0 a1).bind fun t136 => (if t127 = true then (if t126 = t128 then (some (t136 == (t126 == a1))) else (some (t136 == false))) else (some (t136 == false))))) = some r := by rw [if_pos rfl] at H; exact H
                      clear H
                      have H := H1
                      clear H1
                      by_cases c37 : (wrap64 (a1 - (wrap64 (Int.tmod (IntKind.u64.wrap (a2)) 1000)))) > t128
                      · rw [if_pos c37] at H
                        have c37b0 : decide (t128 < (wrap64 (a1 - (wrap64 (Int.tmod (IntKind.u64.wrap (a2)) 1000))))) = true := decide_eq_true c37
                        clear c37
                        replace H := Option.bind_eq_some_iff.mp H
                        obtain ⟨t134, A380, H⟩ := H
                        replace H : (if t134 = true then (some false) else ((hours_In.f kj13 l0 a1).bind fun t135 => (if t127 = true then (if t126 = t128 then (some (t135 == (t126 == a1))) else (some (t135 == false))) else (some (t135 == false))))) = some r := H
                        have A38 := Aside0.mk A380
                        clear A380
                        by_cases c39 : t134 = true
                        · subst c39
                          have H1 : (some false) = some r := by rw [if_pos rfl] at H; exact H
                          clear H
                          have H := H1
                          clear H1
                          obtain rfl := Option.some.inj H
                          go_wp2_with (first | (go_at_call 13; (with_reducible refine (hours_In.calls kj13 _ _ l0 t128 true _ ?side1 ?side2 A35.out).mono ?_); (case side1 => repeat (first | exact (Kd.C_below HR0.out HB.out) | (with_reducible refine Kd.C_alloc ?_ _) | (with_reducible refine Kd.C_drewN ?_ _) | (with_reducible refine Kd.C_drew ?_))); (case side2 => exact HC0.out); rintro e w40 ⟨rfl, hb⟩; have n0_ := Aside0.mk (below_step (by repeat (first | (with_reducible first | exact HB.out | apply below_alloc | apply pw_below_drewN | apply below_drew1) | exact HB.out)) hb); clear HB; have HB := n0_; clear n0_; (try clear hb); (try clear hb2); (try clear hk); (try clear hi)) | (go_at_call 13; (with_reducible refine (hours_In.calls kj13 _ _ l0 (wrap64 (a1 - (wrap64 (Int.tmod (IntKind.u64.wrap (a2)) 1000)))) true _ ?side1 ?side2 A38.out).mono ?_); (case side1 => repeat (first | exact (Kd.C_below HR0.out HB.out) | (with_reducible refine Kd.C_alloc ?_ _) | (with_reducible refine Kd.C_drewN ?_ _) | (with_reducible refine Kd.C_drew ?_))); (case side2 => exact HC0.out); rintro e w41 ⟨rfl, hb⟩; have n0_ := Aside0.mk (below_step (by repeat (first | (with_reducible first | exact HB.out | apply below_alloc | apply pw_below_drewN | apply below_drew1) | exact HB.out)) hb); clear HB; have HB := n0_; clear n0_; (try clear hb); (try clear hb2); (try clear hk); (try clear hi)))
                          go_ret
                          exact ⟨by first | rfl | (simp [errW_none, errW_some] <;> rfl) | (simp [*, errW_none, errW_some] <;> rfl), by repeat (first | (with_reducible first | exact HB.out | apply below_alloc | apply pw_below_drewN | apply below_drew1) | exact HB.out)⟩
                        · replace c39 := Bool.eq_false_iff.mpr c39
                          subst c39
                          have H1 : ((hours_In.f kj13 l0 a1).bind fun t135 => (if t127 = true then (if t126 = t128 then (some (t135 == (t126 == a1))) else (some (t135 == false))) else (some (t135 == false)))) = some r := by rw [if_neg (show ¬ (false = true) by decide)] at H; exact H
                          clear H
                          have H := H1
                          clear H1
                          replace H := Option.bind_eq_some_iff.mp H
                          obtain ⟨t135, A420, H⟩ := H
                          replace H : (if t127 = true then (if t126 = t128 then (some (t135 == (t126 == a1))) else (some (t135 == false))) else (some (t135 == false))) = some r := H
                          have A42 := Aside0.mk A420
                          clear A420
                          by_cases c43 : t127 = true
                          · subst c43
                            have H1 : (if t126 = t128 then (some (t135 == (t126 == a1))) else (some (t135 == false))) = some r := by rw [if_pos rfl] at H; exact H
                            clear H
                            have H := H1
                            clear H1
                            by_cases c44 : t126 = t128
                            · rw [if_pos c44] at H
                              have c44b0 : (t126 == t128) = true := beq_iff_eq.mpr c44
                              have c44b1 : (t126 != t128) = false := bne_eq_false_iff_eq.mpr c44
                              clear c44
                              obtain rfl := Option.some.inj H
                              go_wp2_with (first | (go_at_call 13; (with_reducible refine (hours_In.calls kj13 _ _ l0 t128 true _ ?side1 ?side2 A35.out).mono ?_); (case side1 => repeat (first | exact (Kd.C_below HR0.out HB.out) | (with_reducible refine Kd.C_alloc ?_ _) | (with_reducible refine Kd.C_drewN ?_ _) | (with_reducible refine Kd.C_drew ?_))); (case side2 => exact HC0.out); rintro e w45 ⟨rfl, hb⟩; have n0_ := Aside0.mk (below_step (by repeat (first | (with_reducible first | exact HB.out | apply below_alloc | apply pw_below_drewN | apply below_drew1) | exact HB.out)) hb); clear HB; have HB := n0_; clear n0_; (try clear hb); (try clear hb2); (try clear hk); (try clear hi)) | (go_at_call 13; (with_reducible refine (hours_In.calls kj13 _ _ l0 (wrap64 (a1 - (wrap64 (Int.tmod (IntKind.u64.wrap (a2)) 1000)))) false _ ?side1 ?side2 A38.out).mono ?_); (case side1 => repeat (first | exact (Kd.C_below HR0.out HB.out) | (with_reducible refine Kd.C_alloc ?_ _) | (with_reducible refine Kd.C_drewN ?_ _) | (with_reducible refine Kd.C_drew ?_))); (case side2 => exact HC0.out); rintro e w46 ⟨rfl, hb⟩; have n0_ := Aside0.mk (below_step (by repeat (first | (with_reducible first | exact HB.out | apply below_alloc | apply pw_below_drewN | apply below_drew1) | exact HB.out)) hb); clear HB; have HB := n0_; clear n0_; (try clear hb); (try clear hb2); (try clear hk); (try clear hi)) | ((with_reducible refine gate_callee (f := 13) rfl ?_); refine goesL_ (some 116) rfl rfl Try.func13 (by kernel_rfl) rfl #[.slice A0 l0.length c0, .int .i64 a1] rfl (by (try simp only [List.map_toArray, List.map_cons, List.map_nil]); first | done | rfl | (simp only [List.length_drop, List.length_take]; rfl)) ?_; (with_reducible refine (hours_In.calls kj13 _ _ l0 a1 t135 _ ?side1 ?side2 A42.out).mono ?_); (case side1 => repeat (first | exact (Kd.C_below HR0.out HB.out) | (with_reducible refine Kd.C_alloc ?_ _) | (with_reducible refine Kd.C_drewN ?_ _) | (with_reducible refine Kd.C_drew ?_))); (case side2 => exact HC0.out); rintro e w47 ⟨rfl, hb⟩; refine ⟨_, rfl, ?_⟩; have n0_ := Aside0.mk (below_step (by repeat (first | (with_reducible first | exact HB.out | apply below_alloc | apply pw_below_drewN | apply below_drew1) | exact HB.out)) hb); clear HB; have HB := n0_; clear n0_; (try clear hb); (try clear hb2); (try clear hk); (try clear hi)))
                              go_ret
                              exact ⟨by first | rfl | (simp [errW_none, errW_some] <;> rfl) | (simp [*, errW_none, errW_some] <;> rfl), by repeat (first | (with_reducible first | exact HB.out | apply below_alloc | apply pw_below_drewN | apply below_drew1) | exact HB.out)⟩
                            · rw [if_neg c44] at H
                              have c44b0 : (t126 == t128) = false := beq_eq_false_iff_ne.mpr c44
                              have c44b1 : (t126 != t128) = true := bne_iff_ne.mpr c44
                              obtain rfl := Option.some.inj H
                              go_wp2_with (first | (go_at_call 13; (with_reducible refine (hours_In.calls kj13 _ _ l0 t128 true _ ?side1 ?side2 A35.out).mono ?_); (case side1 => repeat (first | exact (Kd.C_below HR0.out HB.out) | (with_reducible refine Kd.C_alloc ?_ _) | (with_reducible refine Kd.C_drewN ?_ _) | (with_reducible refine Kd.C_drew ?_))); (case side2 => exact HC0.out); rintro e w48 ⟨rfl, hb⟩; have n0_ := Aside0.mk (below_step (by repeat (first | (with_reducible first | exact HB.out | apply below_alloc | apply pw_below_drewN | apply below_drew1) | exact HB.out)) hb); clear HB; have HB := n0_; clear n0_; (try clear hb); (try clear hb2); (try clear hk); (try clear hi)) | (go_at_call 13; (with_reducible refine (hours_In.calls kj13 _ _ l0 (wrap64 (a1 - (wrap64 (Int.tmod (IntKind.u64.wrap (a2)) 1000)))) false _ ?side1 ?side2 A38.out).mono ?_); (case side1 => repeat (first | exact (Kd.C_below HR0.out HB.out) | (with_reducible refine Kd.C_alloc ?_ _) | (with_reducible refine Kd.C_drewN ?_ _) | (with_reducible refine Kd.C_drew ?_))); (case side2 => exact HC0.out); rintro e w49 ⟨rfl, hb⟩; have n0_ := Aside0.mk (below_step (by repeat (first | (with_reducible first | exact HB.out | apply below_alloc | apply pw_below_drewN | apply below_drew1) | exact HB.out)) hb); clear HB; have HB := n0_; clear n0_; (try clear hb); (try clear hb2); (try clear hk); (try clear hi)) | ((with_reducible refine gate_callee (f := 13) rfl ?_); refine goesL_ (some 116) rfl rfl Try.func13 (by kernel_rfl) rfl #[.slice A0 l0.length c0, .int .i64 a1] rfl (by (try simp only [List.map_toArray, List.map_cons, List.map_nil]); first | done | rfl | (simp only [List.length_drop, List.length_take]; rfl)) ?_; (with_reducible refine (hours_In.calls kj13 _ _ l0 a1 t135 _ ?side1 ?side2 A42.out).mono ?_); (case side1 => repeat (first | exact (Kd.C_below HR0.out HB.out) | (with_reducible refine Kd.C_alloc ?_ _) | (with_reducible refine Kd.C_drewN ?_ _) | (with_reducible refine Kd.C_drew ?_))); (case side2 => exact HC0.out); rintro e w50 ⟨rfl, hb⟩; refine ⟨_, rfl, ?_⟩; have n0_ := Aside0.mk (below_step (by repeat (first | (with_reducible first | exact HB.out | apply below_alloc | apply pw_below_drewN | apply below_drew1) | exact HB.out)) hb); clear HB; have HB := n0_; clear n0_; (try clear hb); (try clear hb2); (try clear hk); (try clear hi)))
                              go_ret
                              exact ⟨by first | rfl | (simp [errW_none, errW_some] <;> rfl) | (simp [*, errW_none, errW_some] <;> rfl), by repeat (first | (with_reducible first | exact HB.out | apply below_alloc | apply pw_below_drewN | apply below_drew1) | exact HB.out)⟩
                          · replace c43 := Bool.eq_false_iff.mpr c43
                            subst c43
                            have H1 : (some (t135 == false)) = some r := by rw [if_neg (show ¬ (false = true) by decide)] at H; exact H
                            clear H
                            have H := H1
                            clear H1
                            obtain rfl := Option.some.inj H
                            go_wp2_with (first | (go_at_call 13; (with_reducible refine (hours_In.calls kj13 _ _ l0 t128 true _ ?side1 ?side2 A35.out).mono ?_); (case side1 => repeat (first | exact (Kd.C_below HR0.out HB.out) | (with_reducible refine Kd.C_alloc ?_ _) | (with_reducible refine Kd.C_drewN ?_ _) | (with_reducible refine Kd.C_drew ?_))); (case side2 => exact HC0.out); rintro e w51 ⟨rfl, hb⟩; have n0_ := Aside0.mk (below_step (by repeat (first | (with_reducible first | exact HB.out | apply below_alloc | apply pw_below_drewN | apply below_drew1) | exact HB.out)) hb); clear HB; have HB := n0_; clear n0_; (try clear hb); (try clear hb2); (try clear hk); (try clear hi)) | (go_at_call 13; (with_reducible refine (hours_In.calls kj13 _ _ l0 (wrap64 (a1 - (wrap64 (Int.tmod (IntKind.u64.wrap (a2)) 1000)))) false _ ?side1 ?side2 A38.out).mono ?_); (case side1 => repeat (first | exact (Kd.C_below HR0.out HB.out) | (with_reducible refine Kd.C_alloc ?_ _) | (with_reducible refine Kd.C_drewN ?_ _) | (with_reducible refine Kd.C_drew ?_))); (case side2 => exact HC0.out); rintro e w52 ⟨rfl, hb⟩; have n0_ := Aside0.mk (below_step (by repeat (first | (with_reducible first | exact HB.out | apply below_alloc | apply pw_below_drewN | apply below_drew1) | exact HB.out)) hb); clear HB; have HB := n0_; clear n0_; (try clear hb); (try clear hb2); (try clear hk); (try clear hi)) | ((with_reducible refine gate_callee (f := 13) rfl ?_); refine goesL_ (some 116) rfl rfl Try.func13 (by kernel_rfl) rfl #[.slice A0 l0.length c0, .int .i64 a1] rfl (by (try simp only [List.map_toArray, List.map_cons, List.map_nil]); first | done | rfl | (simp only [List.length_drop, List.length_take]; rfl)) ?_; (with_reducible refine (hours_In.calls kj13 _ _ l0 a1 t135 _ ?side1 ?side2 A42.out).mono ?_); (case side1 => repeat (first | exact (Kd.C_below HR0.out HB.out) | (with_reducible refine Kd.C_alloc ?_ _) | (with_reducible refine Kd.C_drewN ?_ _) | (with_reducible refine Kd.C_drew ?_))); (case side2 => exact HC0.out); rintro e w53 ⟨rfl, hb⟩; refine ⟨_, rfl, ?_⟩; have n0_ := Aside0.mk (below_step (by repeat (first | (with_reducible first | exact HB.out | apply below_alloc | apply pw_below_drewN | apply below_drew1) | exact HB.out)) hb); clear HB; have HB := n0_; clear n0_; (try clear hb); (try clear hb2); (try clear hk); (try clear hi)))
                            go_ret
                            exact ⟨by first | rfl | (simp [errW_none, errW_some] <;> rfl) | (simp [*, errW_none, errW_some] <;> rfl), by repeat (first | (with_reducible first | exact HB.out | apply below_alloc | apply pw_below_drewN | apply below_drew1) | exact HB.out)⟩
                      · rw [if_neg c37] at H
                        have c37b0 : decide (t128 < (wrap64 (a1 - (wrap64 (Int.tmod (IntKind.u64.wrap (a2)) 1000))))) = false := decide_eq_false c37
                        clear c37
                        replace H := Option.bind_eq_some_iff.mp H
                        obtain ⟨t136, A540, H⟩ := H
                        replace H : (if t127 = true then (if t126 = t128 then (some (t136 == (t126 == a1))) else (some (t136 == false))) else (some (t136 == false))) = some r := H
                        have A54 := Aside0.mk A540
                        clear A540
                        by_cases c55 : t127 = true
                        · subst c55
                          have H1 : (if t126 = t128 then (some (t136 == (t126 == a1))) else (some (t136 == false))) = some r := by rw [if_pos rfl] at H; exact H
                          clear H
                          have H := H1
                          clear H1
                          by_cases c56 : t126 = t128
                          · rw [if_pos c56] at H
                            have c56b0 : (t126 == t128) = true := beq_iff_eq.mpr c56
                            have c56b1 : (t126 != t128) = false := bne_eq_false_iff_eq.mpr c56
                            clear c56
                            obtain rfl := Option.some.inj H
                            go_wp2_with (first | (go_at_call 13; (with_reducible refine (hours_In.calls kj13 _ _ l0 t128 true _ ?side1 ?side2 A35.out).mono ?_); (case side1 => repeat (first | exact (Kd.C_below HR0.out HB.out) | (with_reducible refine Kd.C_alloc ?_ _) | (with_reducible refine Kd.C_drewN ?_ _) | (with_reducible refine Kd.C_drew ?_))); (case side2 => exact HC0.out); rintro e w57 ⟨rfl, hb⟩; have n0_ := Aside0.mk (below_step (by repeat (first | (with_reducible first | exact HB.out | apply below_alloc | apply pw_below_drewN | apply below_drew1) | exact HB.out)) hb); clear HB; have HB := n0_; clear n0_; (try clear hb); (try clear hb2); (try clear hk); (try clear hi)) | ((with_reducible refine gate_callee (f := 13) rfl ?_); refine goesL_ (some 116) rfl rfl Try.func13 (by kernel_rfl) rfl #[.slice A0 l0.length c0, .int .i64 a1] rfl (by (try simp only [List.map_toArray, List.map_cons, List.map_nil]); first | done | rfl | (simp only [List.length_drop, List.length_take]; rfl)) ?_; (with_reducible refine (hours_In.calls kj13 _ _ l0 a1 t136 _ ?side1 ?side2 A54.out).mono ?_); (case side1 => repeat (first | exact (Kd.C_below HR0.out HB.out) | (with_reducible refine Kd.C_alloc ?_ _) | (with_reducible refine Kd.C_drewN ?_ _) | (with_reducible refine Kd.C_drew ?_))); (case side2 => exact HC0.out); rintro e w58 ⟨rfl, hb⟩; refine ⟨_, rfl, ?_⟩; have n0_ := Aside0.mk (below_step (by repeat (first | (with_reducible first | exact HB.out | apply below_alloc | apply pw_below_drewN | apply below_drew1) | exact HB.out)) hb); clear HB; have HB := n0_; clear n0_; (try clear hb); (try clear hb2); (try clear hk); (try clear hi)))
                            go_ret
                            exact ⟨by first | rfl | (simp [errW_none, errW_some] <;> rfl) | (simp [*, errW_none, errW_some] <;> rfl), by repeat (first | (with_reducible first | exact HB.out | apply below_alloc | apply pw_below_drewN | apply below_drew1) | exact HB.out)⟩
                          · rw [if_neg c56] at H
                            have c56b0 : (t126 == t128) = false := beq_eq_false_iff_ne.mpr c56
                            have c56b1 : (t126 != t128) = true := bne_iff_ne.mpr c56
                            obtain rfl := Option.some.inj H
                            go_wp2_with (first | (go_at_call 13; (with_reducible refine (hours_In.calls kj13 _ _ l0 t128 true _ ?side1 ?side2 A35.out).mono ?_); (case side1 => repeat (first | exact (Kd.C_below HR0.out HB.out) | (with_reducible refine Kd.C_alloc ?_ _) | (with_reducible refine Kd.C_drewN ?_ _) | (with_reducible refine Kd.C_drew ?_))); (case side2 => exact HC0.out); rintro e w59 ⟨rfl, hb⟩; have n0_ := Aside0.mk (below_step (by repeat (first | (with_reducible first | exact HB.out | apply below_alloc | apply pw_below_drewN | apply below_drew1) | exact HB.out)) hb); clear HB; have HB := n0_; clear n0_; (try clear hb); (try clear hb2); (try clear hk); (try clear hi)) | ((with_reducible refine gate_callee (f := 13) rfl ?_); refine goesL_ (some 116) rfl rfl Try.func13 (by kernel_rfl) rfl #[.slice A0 l0.length c0, .int .i64 a1] rfl (by (try simp only [List.map_toArray, List.map_cons, List.map_nil]); first | done | rfl | (simp only [List.length_drop, List.length_take]; rfl)) ?_; (with_reducible refine (hours_In.calls kj13 _ _ l0 a1 t136 _ ?side1 ?side2 A54.out).mono ?_); (case side1 => repeat (first | exact (Kd.C_below HR0.out HB.out) | (with_reducible refine Kd.C_alloc ?_ _) | (with_reducible refine Kd.C_drewN ?_ _) | (with_reducible refine Kd.C_drew ?_))); (case side2 => exact HC0.out); rintro e w60 ⟨rfl, hb⟩; refine ⟨_, rfl, ?_⟩; have n0_ := Aside0.mk (below_step (by repeat (first | (with_reducible first | exact HB.out | apply below_alloc | apply pw_below_drewN | apply below_drew1) | exact HB.out)) hb); clear HB; have HB := n0_; clear n0_; (try clear hb); (try clear hb2); (try clear hk); (try clear hi)))
                            go_ret
                            exact ⟨by first | rfl | (simp [errW_none, errW_some] <;> rfl) | (simp [*, errW_none, errW_some] <;> rfl), by repeat (first | (with_reducible first | exact HB.out | apply below_alloc | apply pw_below_drewN | apply below_drew1) | exact HB.out)⟩
                        · replace c55 := Bool.eq_false_iff.mpr c55
                          subst c55
                          have H1 : (some (t136 == false)) = some r := by rw [if_neg (show ¬ (false = true) by decide)] at H; exact H
                          clear H
                          have H := H1
                          clear H1
                          obtain rfl := Option.some.inj H
                          go_wp2_with (first | (go_at_call 13; (with_reducible refine (hours_In.calls kj13 _ _ l0 t128 true _ ?side1 ?side2 A35.out).mono ?_); (case side1 => repeat (first | exact (Kd.C_below HR0.out HB.out) | (with_reducible refine Kd.C_alloc ?_ _) | (with_reducible refine Kd.C_drewN ?_ _) | (with_reducible refine Kd.C_drew ?_))); (case side2 => exact HC0.out); rintro e w61 ⟨rfl, hb⟩; have n0_ := Aside0.mk (below_step (by repeat (first | (with_reducible first | exact HB.out | apply below_alloc | apply pw_below_drewN | apply below_drew1) | exact HB.out)) hb); clear HB; have HB := n0_; clear n0_; (try clear hb); (try clear hb2); (try clear hk); (try clear hi)) | ((with_reducible refine gate_callee (f := 13) rfl ?_); refine goesL_ (some 116) rfl rfl Try.func13 (by kernel_rfl) rfl #[.slice A0 l0.length c0, .int .i64 a1] rfl (by (try simp only [List.map_toArray, List.map_cons, List.map_nil]); first | done | rfl | (simp only [List.length_drop, List.length_take]; rfl)) ?_; (with_reducible refine (hours_In.calls kj13 _ _ l0 a1 t136 _ ?side1 ?side2 A54.out).mono ?_); (case side1 => repeat (first | exact (Kd.C_below HR0.out HB.out) | (with_reducible refine Kd.C_alloc ?_ _) | (with_reducible refine Kd.C_drewN ?_ _) | (with_reducible refine Kd.C_drew ?_))); (case side2 => exact HC0.out); rintro e w62 ⟨rfl, hb⟩; refine ⟨_, rfl, ?_⟩; have n0_ := Aside0.mk (below_step (by repeat (first | (with_reducible first | exact HB.out | apply below_alloc | apply pw_below_drewN | apply below_drew1) | exact HB.out)) hb); clear HB; have HB := n0_; clear n0_; (try clear hb); (try clear hb2); (try clear hk); (try clear hi)))
                          go_ret
                          exact ⟨by first | rfl | (simp [errW_none, errW_some] <;> rfl) | (simp [*, errW_none, errW_some] <;> rfl), by repeat (first | (with_reducible first | exact HB.out | apply below_alloc | apply pw_below_drewN | apply below_drew1) | exact HB.out)⟩
                    · replace c36 := Bool.eq_false_iff.mpr c36
                      subst c36
                      have H1 : (some false) = some r := by rw [if_neg (show ¬ (false = true) by decide)] at H; exact H
                      clear H
                      have H := H1
                      clear H1
                      obtain rfl := Option.some.inj H
                      go_wp2_with (first | (go_at_call 13; (with_reducible refine (hours_In.calls kj13 _ _ l0 t128 false _ ?side1 ?side2 A35.out).mono ?_); (case side1 => repeat (first | exact (Kd.C_below HR0.out HB.out) | (with_reducible refine Kd.C_alloc ?_ _) | (with_reducible refine Kd.C_drewN ?_ _) | (with_reducible refine Kd.C_drew ?_))); (case side2 => exact HC0.out); rintro e w63 ⟨rfl, hb⟩; have n0_ := Aside0.mk (below_step (by repeat (first | (with_reducible first | exact HB.out | apply below_alloc | apply pw_below_drewN | apply below_drew1) | exact HB.out)) hb); clear HB; have HB := n0_; clear n0_; (try clear hb); (try clear hb2); (try clear hk); (try clear hi)))
                      go_ret
                      exact ⟨by first | rfl | (simp [errW_none, errW_some] <;> rfl) | (simp [*, errW_none, errW_some] <;> rfl), by repeat (first | (with_reducible first | exact HB.out | apply below_alloc | apply pw_below_drewN | apply below_drew1) | exact HB.out)⟩
                · replace c33 := Bool.eq_false_iff.mpr c33
                  subst c33
                  have H1 : ((hours_In.f kj13 l0 (wrap64 (a1 - (wrap64 (Int.tmod (IntKind.u64.wrap (a2)) 1000))))).bind fun t137 => (if t137 = true then (some false) else ((hours_In.f kj13 l0 a1).bind fun t138 => (if t127 = true then (some (t138 == false)) else (some (t138 == false)))))) = some r := by rw [if_neg (show ¬ (false = true) by decide)] at H; exact H
                  clear H
                  have H := H1
                  clear H1
                  replace H := Option.bind_eq_some_iff.mp H
                  obtain ⟨t137, A640, H⟩ := H
                  replace H : (if t137 = true then (some false) else ((hours_In.f kj13 l0 a1).bind fun t138 => (if t127 = true then (some (t138 == false)) else (some (t138 == false))))) = some r := H
                  have A64 := Aside0.mk A640
                  clear A640
                  by_cases c65 : t137 = true
                  · subst c65
                    have H1 : (some false) = some r := by rw [if_pos rfl] at H; exact H
                    clear H
                    have H := H1
                    clear H1
                    obtain rfl := Option.some.inj H
                    go_wp2_with (first | (go_at_call 13; (with_reducible refine (hours_In.calls kj13 _ _ l0 (wrap64 (a1 - (wrap64 (Int.tmod (IntKind.u64.wrap (a2)) 1000)))) true _ ?side1 ?side2 A64.out).mono ?_); (case side1 => repeat (first | exact (Kd.C_below HR0.out HB.out) | (with_reducible refine Kd.C_alloc ?_ _) | (with_reducible refine Kd.C_drewN ?_ _) | (with_reducible refine Kd.C_drew ?_))); (case side2 => exact HC0.out); rintro e w66 ⟨rfl, hb⟩; have n0_ := Aside0.mk (below_step (by repeat (first | (with_reducible first | exact HB.out | apply below_alloc | apply pw_below_drewN | apply below_drew1) | exact HB.out)) hb); clear HB; have HB := n0_; clear n0_; (try clear hb); (try clear hb2); (try clear hk); (try clear hi)))
                    go_ret
                    exact ⟨by first | rfl | (simp [errW_none, errW_some] <;> rfl) | (simp [*, errW_none, errW_some] <;> rfl), by repeat (first | (with_reducible first | exact HB.out | apply below_alloc | apply pw_below_drewN | apply below_drew1) | exact HB.out)⟩
                  · replace c65 := Bool.eq_false_iff.mpr c65
                    subst c65
                    have H1 : ((hours_In.f kj13 l0 a1).bind fun t138 => (if t127 = true then (some (t138 == false)) else (some (t138 == false)))) = some r := by rw [if_neg (show ¬ (false = true) by decide)] at H; exact H
                    clear H
                    have H := H1
                    clear H1
                    replace H := Option.bind_eq_some_iff.mp H
                    obtain ⟨t138, A670, H⟩ := H
                    replace H : (if t127 = true then (some (t138 == false)) else (some (t138 == false))) = some r := H
                    have A67 := Aside0.mk A670
                    clear A670
                    by_cases c68 : t127 = true
                    · subst c68
                      have H1 : (some (t138 == false)) = some r := by rw [if_pos rfl] at H; exact H
                      clear H
                      have H := H1
                      clear H1
                      obtain rfl := Option.some.inj H
                      go_wp2_with (first | (go_at_call 13; (with_reducible refine (hours_In.calls kj13 _ _ l0 (wrap64 (a1 - (wrap64 (Int.tmod (IntKind.u64.wrap (a2)) 1000)))) false _ ?side1 ?side2 A64.out).mono ?_); (case side1 => repeat (first | exact (Kd.C_below HR0.out HB.out) | (with_reducible refine Kd.C_alloc ?_ _) | (with_reducible refine Kd.C_drewN ?_ _) | (with_reducible refine Kd.C_drew ?_))); (case side2 => exact HC0.out); rintro e w69 ⟨rfl, hb⟩; have n0_ := Aside0.mk (below_step (by repeat (first | (with_reducible first | exact HB.out | apply below_alloc | apply pw_below_drewN | apply below_drew1) | exact HB.out)) hb); clear HB; have HB := n0_; clear n0_; (try clear hb); (try clear hb2); (try clear hk); (try clear hi)) | ((with_reducible refine gate_callee (f := 13) rfl ?_); refine goesL_ (some 116) rfl rfl Try.func13 (by kernel_rfl) rfl #[.slice A0 l0.length c0, .int .i64 a1] rfl (by (try simp only [List.map_toArray, List.map_cons, List.map_nil]); first | done | rfl | (simp only [List.length_drop, List.length_take]; rfl)) ?_; (with_reducible refine (hours_In.calls kj13 _ _ l0 a1 t138 _ ?side1 ?side2 A67.out).mono ?_); (case side1 => repeat (first | exact (Kd.C_below HR0.out HB.out) | (with_reducible refine Kd.C_alloc ?_ _) | (with_reducible refine Kd.C_drewN ?_ _) | (with_reducible refine Kd.C_drew ?_))); (case side2 => exact HC0.out); rintro e w70 ⟨rfl, hb⟩; refine ⟨_, rfl, ?_⟩; have n0_ := Aside0.mk (below_step (by repeat (first | (with_reducible first | exact HB.out | apply below_alloc | apply pw_below_drewN | apply below_drew1) | exact HB.out)) hb); clear HB; have HB := n0_; clear n0_; (try clear hb); (try clear hb2); (try clear hk); (try clear hi)))
                      go_ret
                      exact ⟨by first | rfl | (simp [errW_none, errW_some] <;> rfl) | (simp [*, errW_none, errW_some] <;> rfl), by repeat (first | (with_reducible first | exact HB.out | apply below_alloc | apply pw_below_drewN | apply below_drew1) | exact HB.out)⟩
                    · replace c68 := Bool.eq_false_iff.mpr c68
                      subst c68
                      have H1 : (some (t138 == false)) = some r := by rw [if_neg (show ¬ (false = true) by decide)] at H; exact H
                      clear H
                      have H := H1
                      clear H1
                      obtain rfl := Option.some.inj H
                      go_wp2_with (first | (go_at_call 13; (with_reducible refine (hours_In.calls kj13 _ _ l0 (wrap64 (a1 - (wrap64 (Int.tmod (IntKind.u64.wrap (a2)) 1000)))) false _ ?side1 ?side2 A64.out).mono ?_); (case side1 => repeat (first | exact (Kd.C_below HR0.out HB.out) | (with_reducible refine Kd.C_alloc ?_ _) | (with_reducible refine Kd.C_drewN ?_ _) | (with_reducible refine Kd.C_drew ?_))); (case side2 => exact HC0.out); rintro e w71 ⟨rfl, hb⟩; have n0_ := Aside0.mk (below_step (by repeat (first | (with_reducible first | exact HB.out | apply below_alloc | apply pw_below_drewN | apply below_drew1) | exact HB.out)) hb); clear HB; have HB := n0_; clear n0_; (try clear hb); (try clear hb2); (try clear hk); (try clear hi)) | ((with_reducible refine gate_callee (f := 13) rfl ?_); refine goesL_ (some 116) rfl rfl Try.func13 (by kernel_rfl) rfl #[.slice A0 l0.length c0, .int .i64 a1] rfl (by (try simp only [List.map_toArray, List.map_cons, List.map_nil]); first | done | rfl | (simp only [List.length_drop, List.length_take]; rfl)) ?_; (with_reducible refine (hours_In.calls kj13 _ _ l0 a1 t138 _ ?side1 ?side2 A67.out).mono ?_); (case side1 => repeat (first | exact (Kd.C_below HR0.out HB.out) | (with_reducible refine Kd.C_alloc ?_ _) | (with_reducible refine Kd.C_drewN ?_ _) | (with_reducible refine Kd.C_drew ?_))); (case side2 => exact HC0.out); rintro e w72 ⟨rfl, hb⟩; refine ⟨_, rfl, ?_⟩; have n0_ := Aside0.mk (below_step (by repeat (first | (with_reducible first | exact HB.out | apply below_alloc | apply pw_below_drewN | apply below_drew1) | exact HB.out)) hb); clear HB; have HB := n0_; clear n0_; (try clear hb); (try clear hb2); (try clear hk); (try clear hi)))
                      go_ret
                      exact ⟨by first | rfl | (simp [errW_none, errW_some] <;> rfl) | (simp [*, errW_none, errW_some] <;> rfl), by repeat (first | (with_reducible first | exact HB.out | apply below_alloc | apply pw_below_drewN | apply below_drew1) | exact HB.out)⟩
  · replace c5 := Bool.eq_false_iff.mpr c5
    subst c5
    have H1 : (some false) = some r := by rw [if_neg (show ¬ (false = true) by decide)] at H; exact H
    clear H
    have H := H1
    clear H1
    obtain rfl := Option.some.inj H
    go_enter Try.func4, Try.ntmps4
    go_wp2_with (first | ((with_reducible refine gate_callee (f := 7) rfl ?_); refine goesL_ (some 11) rfl rfl Try.func7 (by kernel_rfl) rfl #[] rfl (by (try simp only [List.map_toArray, List.map_cons, List.map_nil]); first | done | rfl | (simp only [List.length_drop, List.length_take]; rfl)) ?_; (with_reducible refine (haulierlaw11_Awake.calls k  false _ A4.out).mono ?_); rintro e w73 ⟨rfl, hb⟩; refine ⟨_, rfl, ?_⟩; have n0_ := Aside0.mk (below_step (by repeat (first | (with_reducible first | exact HB.out | apply below_alloc | apply pw_below_drewN | apply below_drew1) | exact HB.out)) hb); clear HB; have HB := n0_; clear n0_; (try clear hb); (try clear hb2); (try clear hk); (try clear hi)))
    go_ret
    exact ⟨by first | rfl | (simp [errW_none, errW_some] <;> rfl) | (simp [*, errW_none, errW_some] <;> rfl), by repeat (first | (with_reducible first | exact HB.out | apply below_alloc | apply pw_below_drewN | apply below_drew1) | exact HB.out)⟩

end Go.Proofs.Ytoinhkilgijilaa.PHoursNear
