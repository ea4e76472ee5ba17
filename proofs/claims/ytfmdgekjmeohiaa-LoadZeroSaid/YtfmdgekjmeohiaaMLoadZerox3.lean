-- by the turned print: Ytfmdgekjmeohiaa
import Derived.Test.YtfmdgekjmeohiaaMLoadZerox0
import Derived.Test.YtfmdgekjmeohiaaMLoadZerox1
import Derived.Test.YtfmdgekjmeohiaaMLoadZerox2
namespace Go.Proofs.Ytfmdgekjmeohiaa.MLoadZero
open Go.RowKit Go.Proofs.YtfmdgekjmeohiaaW.PrintWords Go.Proofs.YtfmdgekjmeohiaaW.PrintLast Go.Proofs.YtfmdgekjmeohiaaW.PrintMore
attribute [local go_sem] max2_int min2_int max_two min_two max_three min_three max_four min_four   -- for this text's walks alone
set_option linter.unusedVariables false
set_option linter.unusedSimpArgs false

/-! ### haulierlaw09_LoadZero: function 6 -/
mutual
def haulierlaw09_LoadZero.j0 : Nat → List Int → Int → List Int → Bool → Option (Bool)
  | 0, _, _, _, _ => none
  | k + 1, x0, x1, x5, x32 => if x32 = true then (some false) else ((some (([] : List Int) : List Int)).bind fun y176 => (if y176.length + x0.length < 17592186044416 then ((load_Check.f k (y176 ++ x0) x1).bind fun t182 => (if t182 = 0 then ((some (([] : List Int) : List Int)).bind fun y183 => (if y183.length + x0.length < 17592186044416 then ((some (y183 ++ x0 : List Int)).bind fun y186 => ((load_Add.f k y186 x5).bind fun bt189 => ((load_Sub.f k y186 x5).bind fun bt193 => ((load_Most.f k y186 x5).bind fun bt197 => (haulierlaw09_LoadZero.l0 k x0 x1 x5 y186 bt189.1 bt189.2 bt193.1 bt193.2 bt197.1 bt197.2 (x5.length : Int) 0))))) else (none))) else (some true))) else (none)))
def haulierlaw09_LoadZero.l0 : Nat → List Int → Int → List Int → List Int → List Int → Int → List Int → Int → List Int → Int → Int → Int → Option (Bool)
  | 0, _, _, _, _, _, _, _, _, _, _, _, _ => none
  | k + 1, x0, x1, x5, x6, x7, x8, x9, x10, x11, x12, x61, x62 => if x62 < x61 then (if 0 ≤ x62 then (if x62 < (x5.length : Int) then (haulierlaw09_LoadZero.l0 k x0 x1 (x5.set (x62 : Int).toNat 7) x6 x7 x8 x9 x10 x11 x12 x61 (wrap64 (x62 + 1))) else (none)) else (none)) else (if x8 = 0 then (if x10 = 0 then (if x12 = 0 then ((load_Same.f k x7 x0).bind fun t202 => (if t202 = true then ((load_Same.f k x9 x0).bind fun t203 => (if t203 = true then ((load_Same.f k x11 x0).bind fun t204 => (haulierlaw09_LoadZero.j2 k x0 x1 x6 x7 x9 x11 (!t204))) else (haulierlaw09_LoadZero.j2 k x0 x1 x6 x7 x9 x11 true))) else (haulierlaw09_LoadZero.j2 k x0 x1 x6 x7 x9 x11 true))) else (haulierlaw09_LoadZero.j2 k x0 x1 x6 x7 x9 x11 true)) else (haulierlaw09_LoadZero.j2 k x0 x1 x6 x7 x9 x11 true)) else (haulierlaw09_LoadZero.j2 k x0 x1 x6 x7 x9 x11 true))
def haulierlaw09_LoadZero.j2 : Nat → List Int → Int → List Int → List Int → List Int → List Int → Bool → Option (Bool)
  | 0, _, _, _, _, _, _, _ => none
  | k + 1, x0, x1, x6, x7, x9, x11, x96 => if x96 = true then (some false) else (haulierlaw09_LoadZero.l1 k x0 x1 x6 x7 x9 x11 (x7.length : Int) 0)
def haulierlaw09_LoadZero.l1 : Nat → List Int → Int → List Int → List Int → List Int → List Int → Int → Int → Option (Bool)
  | 0, _, _, _, _, _, _, _, _ => none
  | k + 1, x0, x1, x6, x7, x9, x11, x98, x99 => if x99 < x98 then (if 0 ≤ x99 then (if x99 < (x7.length : Int) then (if x99 < (x9.length : Int) then (if x99 < (x11.length : Int) then (haulierlaw09_LoadZero.l1 k x0 x1 x6 (x7.set (x99 : Int).toNat (-1)) (x9.set (x99 : Int).toNat (-2)) (x11.set (x99 : Int).toNat (-3)) x98 (wrap64 (x99 + 1))) else (none)) else (none)) else (none)) else (none)) else ((load_Same.f k x6 x0).bind fun t208 => (if t208 = true then ((load_Zero.f x1).bind fun t209 => (if 0 ≤ x1 then (if (x1 : Int).toNat ≤ 35184372088832 then ((load_Same.f k t209 (List.replicate (x1 : Int).toNat 0)).bind fun t215 => (some t215)) else (none)) else (none))) else (some false)))
end
def haulierlaw09_LoadZero.f (k : Nat) (l0 : List Int) (a1 : Int) : Option (Bool) := (haulierlaw09_Awake.f k).bind fun t171 => (if t171 = true then ((load_Zero.f (wrap64 (Int.tmod (IntKind.u64.wrap (a1)) 4))).bind fun t172 => ((load_Check.f k t172 (wrap64 (Int.tmod (IntKind.u64.wrap (a1)) 4))).bind fun t175 => (if t175 = 0 then (haulierlaw09_LoadZero.j0 k l0 (wrap64 (Int.tmod (IntKind.u64.wrap (a1)) 4)) t172 ((t172.length : Int) != (wrap64 (Int.tmod (IntKind.u64.wrap (a1)) 4)))) else (haulierlaw09_LoadZero.j0 k l0 (wrap64 (Int.tmod (IntKind.u64.wrap (a1)) 4)) t172 true)))) else (some false))
theorem haulierlaw09_LoadZero.mono_l : ∀ k, (∀ y0 y1 y2 y3, LeO (haulierlaw09_LoadZero.j0 k y0 y1 y2 y3) (haulierlaw09_LoadZero.j0 (k + 1) y0 y1 y2 y3)) ∧ (∀ y0 y1 y2 y3 y4 y5 y6 y7 y8 y9 y10 y11, LeO (haulierlaw09_LoadZero.l0 k y0 y1 y2 y3 y4 y5 y6 y7 y8 y9 y10 y11) (haulierlaw09_LoadZero.l0 (k + 1) y0 y1 y2 y3 y4 y5 y6 y7 y8 y9 y10 y11)) ∧ (∀ y0 y1 y2 y3 y4 y5 y6, LeO (haulierlaw09_LoadZero.j2 k y0 y1 y2 y3 y4 y5 y6) (haulierlaw09_LoadZero.j2 (k + 1) y0 y1 y2 y3 y4 y5 y6)) ∧ (∀ y0 y1 y2 y3 y4 y5 y6 y7, LeO (haulierlaw09_LoadZero.l1 k y0 y1 y2 y3 y4 y5 y6 y7) (haulierlaw09_LoadZero.l1 (k + 1) y0 y1 y2 y3 y4 y5 y6 y7))
  | 0 => ⟨fun _ _ _ _ r h => by simp [haulierlaw09_LoadZero.j0] at h, fun _ _ _ _ _ _ _ _ _ _ _ _ r h => by simp [haulierlaw09_LoadZero.l0] at h, fun _ _ _ _ _ _ _ r h => by simp [haulierlaw09_LoadZero.j2] at h, fun _ _ _ _ _ _ _ _ r h => by simp [haulierlaw09_LoadZero.l1] at h⟩
  | k + 1 => by
    obtain ⟨ih0, ih1, ih2, ih3⟩ := haulierlaw09_LoadZero.mono_l k
    refine ⟨?_, ?_, ?_, ?_⟩
    · intro y0 y1 y2 y3
      unfold haulierlaw09_LoadZero.j0
      repeat' first
      | (with_reducible exact ih0 _ _ _ _)
      | (with_reducible exact ih1 _ _ _ _ _ _ _ _ _ _ _ _)
      | (with_reducible exact ih2 _ _ _ _ _ _ _)
      | (with_reducible exact ih3 _ _ _ _ _ _ _ _)
      | (with_reducible exact haulierlaw09_Awake.mono _)
      | (with_reducible exact load_Add.mono _ _ _)
      | (with_reducible exact load_Check.mono _ _ _)
      | (with_reducible exact load_Most.mono _ _ _)
      | (with_reducible exact load_Same.mono _ _ _)
      | (with_reducible exact load_Sub.mono _ _ _)
      | (with_reducible exact LeO.refl _)
      | (with_reducible exact LeO.none _)
      | (with_reducible refine LeO.ite ?_ ?_)
      | (with_reducible refine LeO.bind ?_ (fun _ => ?_))
      | exact ih0 _ _ _ _
      | exact ih1 _ _ _ _ _ _ _ _ _ _ _ _
      | exact ih2 _ _ _ _ _ _ _
      | exact ih3 _ _ _ _ _ _ _ _
      | exact haulierlaw09_Awake.mono _
      | exact load_Add.mono _ _ _
      | exact load_Check.mono _ _ _
      | exact load_Most.mono _ _ _
      | exact load_Same.mono _ _ _
      | exact load_Sub.mono _ _ _
      | exact LeO.none _
      | refine LeO.ite ?_ ?_
      | refine LeO.bind ?_ (fun _ => ?_)
    · intro y0 y1 y2 y3 y4 y5 y6 y7 y8 y9 y10 y11
      unfold haulierlaw09_LoadZero.l0
      repeat' first
      | (with_reducible exact ih0 _ _ _ _)
      | (with_reducible exact ih1 _ _ _ _ _ _ _ _ _ _ _ _)
      | (with_reducible exact ih2 _ _ _ _ _ _ _)
      | (with_reducible exact ih3 _ _ _ _ _ _ _ _)
      | (with_reducible exact haulierlaw09_Awake.mono _)
      | (with_reducible exact load_Add.mono _ _ _)
      | (with_reducible exact load_Check.mono _ _ _)
      | (with_reducible exact load_Most.mono _ _ _)
      | (with_reducible exact load_Same.mono _ _ _)
      | (with_reducible exact load_Sub.mono _ _ _)
      | (with_reducible exact LeO.refl _)
      | (with_reducible exact LeO.none _)
      | (with_reducible refine LeO.ite ?_ ?_)
      | (with_reducible refine LeO.bind ?_ (fun _ => ?_))
      | exact ih0 _ _ _ _
      | exact ih1 _ _ _ _ _ _ _ _ _ _ _ _
      | exact ih2 _ _ _ _ _ _ _
      | exact ih3 _ _ _ _ _ _ _ _
      | exact haulierlaw09_Awake.mono _
      | exact load_Add.mono _ _ _
      | exact load_Check.mono _ _ _
      | exact load_Most.mono _ _ _
      | exact load_Same.mono _ _ _
      | exact load_Sub.mono _ _ _
      | exact LeO.none _
      | refine LeO.ite ?_ ?_
      | refine LeO.bind ?_ (fun _ => ?_)
    · intro y0 y1 y2 y3 y4 y5 y6
      unfold haulierlaw09_LoadZero.j2
      repeat' first
      | (with_reducible exact ih0 _ _ _ _)
      | (with_reducible exact ih1 _ _ _ _ _ _ _ _ _ _ _ _)
      | (with_reducible exact ih2 _ _ _ _ _ _ _)
      | (with_reducible exact ih3 _ _ _ _ _ _ _ _)
      | (with_reducible exact haulierlaw09_Awake.mono _)
      | (with_reducible exact load_Add.mono _ _ _)
      | (with_reducible exact load_Check.mono _ _ _)
      | (with_reducible exact load_Most.mono _ _ _)
      | (with_reducible exact load_Same.mono _ _ _)
      | (with_reducible exact load_Sub.mono _ _ _)
      | (with_reducible exact LeO.refl _)
      | (with_reducible exact LeO.none _)
      | (with_reducible refine LeO.ite ?_ ?_)
      | (with_reducible refine LeO.bind ?_ (fun _ => ?_))
      | exact ih0 _ _ _ _
      | exact ih1 _ _ _ _ _ _ _ _ _ _ _ _
      | exact ih2 _ _ _ _ _ _ _
      | exact ih3 _ _ _ _ _ _ _ _
      | exact haulierlaw09_Awake.mono _
      | exact load_Add.mono _ _ _
      | exact load_Check.mono _ _ _
      | exact load_Most.mono _ _ _
      | exact load_Same.mono _ _ _
      | exact load_Sub.mono _ _ _
      | exact LeO.none _
      | refine LeO.ite ?_ ?_
      | refine LeO.bind ?_ (fun _ => ?_)
    · intro y0 y1 y2 y3 y4 y5 y6 y7
      unfold haulierlaw09_LoadZero.l1
      repeat' first
      | (with_reducible exact ih0 _ _ _ _)
      | (with_reducible exact ih1 _ _ _ _ _ _ _ _ _ _ _ _)
      | (with_reducible exact ih2 _ _ _ _ _ _ _)
      | (with_reducible exact ih3 _ _ _ _ _ _ _ _)
      | (with_reducible exact haulierlaw09_Awake.mono _)
      | (with_reducible exact load_Add.mono _ _ _)
      | (with_reducible exact load_Check.mono _ _ _)
      | (with_reducible exact load_Most.mono _ _ _)
      | (with_reducible exact load_Same.mono _ _ _)
      | (with_reducible exact load_Sub.mono _ _ _)
      | (with_reducible exact LeO.refl _)
      | (with_reducible exact LeO.none _)
      | (with_reducible refine LeO.ite ?_ ?_)
      | (with_reducible refine LeO.bind ?_ (fun _ => ?_))
      | exact ih0 _ _ _ _
      | exact ih1 _ _ _ _ _ _ _ _ _ _ _ _
      | exact ih2 _ _ _ _ _ _ _
      | exact ih3 _ _ _ _ _ _ _ _
      | exact haulierlaw09_Awake.mono _
      | exact load_Add.mono _ _ _
      | exact load_Check.mono _ _ _
      | exact load_Most.mono _ _ _
      | exact load_Same.mono _ _ _
      | exact load_Sub.mono _ _ _
      | exact LeO.none _
      | refine LeO.ite ?_ ?_
      | refine LeO.bind ?_ (fun _ => ?_)
theorem haulierlaw09_LoadZero.mono : ∀ a0 a1 k, LeO (haulierlaw09_LoadZero.f k a0 a1) (haulierlaw09_LoadZero.f (k + 1) a0 a1) := by
  intro a0 a1 k
  obtain ⟨ih0, ih1, ih2, ih3⟩ := haulierlaw09_LoadZero.mono_l k
  unfold haulierlaw09_LoadZero.f
  repeat' first
      | (with_reducible exact ih0 _ _ _ _)
      | (with_reducible exact ih1 _ _ _ _ _ _ _ _ _ _ _ _)
      | (with_reducible exact ih2 _ _ _ _ _ _ _)
      | (with_reducible exact ih3 _ _ _ _ _ _ _ _)
      | (with_reducible exact haulierlaw09_Awake.mono _)
      | (with_reducible exact load_Add.mono _ _ _)
      | (with_reducible exact load_Check.mono _ _ _)
      | (with_reducible exact load_Most.mono _ _ _)
      | (with_reducible exact load_Same.mono _ _ _)
      | (with_reducible exact load_Sub.mono _ _ _)
      | (with_reducible exact LeO.refl _)
      | (with_reducible exact LeO.none _)
      | (with_reducible refine LeO.ite ?_ ?_)
      | (with_reducible refine LeO.bind ?_ (fun _ => ?_))
      | exact ih0 _ _ _ _
      | exact ih1 _ _ _ _ _ _ _ _ _ _ _ _
      | exact ih2 _ _ _ _ _ _ _
      | exact ih3 _ _ _ _ _ _ _ _
      | exact haulierlaw09_Awake.mono _
      | exact load_Add.mono _ _ _
      | exact load_Check.mono _ _ _
      | exact load_Most.mono _ _ _
      | exact load_Same.mono _ _ _
      | exact load_Sub.mono _ _ _
      | exact LeO.none _
      | refine LeO.ite ?_ ?_
      | refine LeO.bind ?_ (fun _ => ?_)
def haulierlaw09_LoadZero.T25 : Bool × List (List Nat × List Nat) := (true, [([], []), ([], []), ([0, 1], [0, 1]), ([2, 2], [2]), ([3], [3]), ([4, 3, 3], [3, 4]), ([3], [3]), ([6, 6, 3], [3, 6]), ([5, 7, 5, 3], [3, 5, 7]), ([3, 8], [3, 8]), ([9, 8, 0, 1, 2, 3, 4, 5, 6, 7, 8, 9], [9])])
def haulierlaw09_LoadZero.B25 : List Nat := [0, 0, 3, 7, 15, 31, 15, 79, 255, 511, 1023]
theorem haulierlaw09_LoadZero.tab25 : rtab .any (opsOf Try.f6 25) = haulierlaw09_LoadZero.T25 := by kernel_rfl
theorem haulierlaw09_LoadZero.bits25 : waitsOk haulierlaw09_LoadZero.T25.2 haulierlaw09_LoadZero.B25 = true := by kernel_rfl
set_option maxHeartbeats 8000000 in
set_option maxRecDepth 100000 in
theorem haulierlaw09_LoadZero.calls (k : Nat) (A0 : Option Addr) (c0 : Nat) (l0 : List Int) (a1 : Int) (r_ : Bool) (w : World) (hr0 : Kd.C (Kd.int .i64) w A0 l0.length l0) (hc0 : l0.length ≤ c0) (h : haulierlaw09_LoadZero.f k l0 a1 = some true) :
    Calls Try.prog 6 #[.slice A0 l0.length c0, .int .i64 a1] w fun e w' => e = .returned (.bool true) ∧ Below w.heap.size w w' := by
  have HR0 := Aside0.mk hr0
  have HC0 := Aside0.mk hc0
  clear hr0 hc0
  have HB := Aside0.mk (Below.refl w.heap.size w)
  have H : ((haulierlaw09_Awake.f k).bind fun t171 => (if t171 = true then ((load_Zero.f (wrap64 (Int.tmod (IntKind.u64.wrap (a1)) 4))).bind fun t172 => ((load_Check.f k t172 (wrap64 (Int.tmod (IntKind.u64.wrap (a1)) 4))).bind fun t175 => (if t175 = 0 then (haulierlaw09_LoadZero.j0 k l0 (wrap64 (Int.tmod (IntKind.u64.wrap (a1)) 4)) t172 ((t172.length : Int) != (wrap64 (Int.tmod (IntKind.u64.wrap (a1)) 4)))) else (haulierlaw09_LoadZero.j0 k l0 (wrap64 (Int.tmod (IntKind.u64.wrap (a1)) 4)) t172 true)))) else (some false))) = some true := h
  clear h
  replace H := Option.bind_eq_some_iff.mp H
  obtain ⟨t171, A30, H⟩ := H
  replace H : (if t171 = true then ((load_Zero.f (wrap64 (Int.tmod (IntKind.u64.wrap (a1)) 4))).bind fun t172 => ((load_Check.f k t172 (wrap64 (Int.tmod (IntKind.u64.wrap (a1)) 4))).bind fun t175 => (if t175 = 0 then (haulierlaw09_LoadZero.j0 k l0 (wrap64 (Int.tmod (IntKind.u64.wrap (a1)) 4)) t172 ((t172.length : Int) != (wrap64 (Int.tmod (IntKind.u64.wrap (a1)) 4)))) else (haulierlaw09_LoadZero.j0 k l0 (wrap64 (Int.tmod (IntKind.u64.wrap (a1)) 4)) t172 true)))) else (some false)) = some true := H
  have A3 := Aside0.mk A30
  clear A30
  by_cases c4 : t171 = true
  · subst c4
    have H1 : ((load_Zero.f (wrap64 (Int.tmod (IntKind.u64.wrap (a1)) 4))).bind fun t172 => ((load_Check.f k t172 (wrap64 (Int.tmod (IntKind.u64.wrap (a1)) 4))).bind fun t175 => (if t175 = 0 then (haulierlaw09_LoadZero.j0 k l0 (wrap64 (Int.tmod (IntKind.u64.wrap (a1)) 4)) t172 ((t172.length : Int) != (wrap64 (Int.tmod (IntKind.u64.wrap (a1)) 4)))) else (haulierlaw09_LoadZero.j0 k l0 (wrap64 (Int.tmod (IntKind.u64.wrap (a1)) 4)) t172 true)))) = some true := by rw [if_pos rfl] at H; exact H
    clear H
    have H := H1
    clear H1
    replace H := Option.bind_eq_some_iff.mp H
    obtain ⟨t172, A50, H⟩ := H
    replace H : ((load_Check.f k t172 (wrap64 (Int.tmod (IntKind.u64.wrap (a1)) 4))).bind fun t175 => (if t175 = 0 then (haulierlaw09_LoadZero.j0 k l0 (wrap64 (Int.tmod (IntKind.u64.wrap (a1)) 4)) t172 ((t172.length : Int) != (wrap64 (Int.tmod (IntKind.u64.wrap (a1)) 4)))) else (haulierlaw09_LoadZero.j0 k l0 (wrap64 (Int.tmod (IntKind.u64.wrap (a1)) 4)) t172 true))) = some true := H
    have A5 := Aside0.mk A50
    clear A50
    have HC6 := Aside0.mk H
    clear H
    go_enter Try.func6, Try.ntmps6
    go_upto_region 5 with (first | ((with_reducible refine gate_callee (f := 7) rfl ?_); refine goesL_ (some 15) rfl rfl Try.func7 (by kernel_rfl) rfl #[] rfl (by (try simp only [List.map_toArray, List.map_cons, List.map_nil]); first | done | rfl | (simp only [List.length_drop, List.length_take]; rfl)) ?_; (with_reducible refine (haulierlaw09_Awake.calls k  true _ A3.out).mono ?_); rintro e w7 ⟨rfl, hb⟩; refine ⟨_, rfl, ?_⟩; have n0_ := Aside0.mk (below_step (by repeat (first | (with_reducible first | exact HB.out | apply below_alloc | apply pw_below_drewN | apply below_drew1) | exact HB.out)) hb); clear HB; have HB := n0_; clear n0_; (try clear hb); (try clear hb2); (try clear hk); (try clear hi)) | ((with_reducible refine gate_callee (f := 17) rfl ?_); refine goesL_ (some 22) rfl rfl Try.func17 (by kernel_rfl) rfl #[.int .i64 (wrap64 (Int.tmod (IntKind.u64.wrap (a1)) 4))] rfl (by (try simp only [List.map_toArray, List.map_cons, List.map_nil]); first | done | rfl | (simp only [List.length_drop, List.length_take]; rfl)) ?_; (with_reducible refine (load_Zero.calls (wrap64 (Int.tmod (IntKind.u64.wrap (a1)) 4)) t172 _ A5.out).mono ?_); rintro e w8 ⟨v173, rfl, ho0, hb⟩; refine ⟨_, rfl, ?_⟩; have n0_ := Aside0.mk (Kd.R_lower ho0 (below_size (by repeat (first | (with_reducible first | exact HB.out | apply below_alloc | apply pw_below_drewN | apply below_drew1) | exact HB.out)))); have n1_ := Aside0.mk (below_step (by repeat (first | (with_reducible first | exact HB.out | apply below_alloc | apply pw_below_drewN | apply below_drew1) | exact HB.out)) hb); clear HB; have HO174 := n0_; have HB := n1_; clear n0_ n1_; (try clear hb); (try clear hb2); (try clear hk); (try clear hi); (try clear ho0)))
    (try simp only [Act.put, List.setIfInBounds_toArray, List.set_cons_zero, List.set_cons_succ])
    go_cut [32] (fun v32 wc => ∃ (kq : Nat) (x32_5 : Bool), v32 = .bool x32_5 ∧ Aside0 (haulierlaw09_LoadZero.j0 kq l0 (wrap64 (Int.tmod (IntKind.u64.wrap (a1)) 4)) t172 x32_5 = some true) ∧ Aside0 (kq ≤ k) ∧ Aside0 (Kd.R (Kd.int .i64) 3 wc w.heap.size (fun _ => True) v173 t172) ∧ Aside0 (Below w.heap.size w wc))
    case first =>
      have H := HC6.out
      clear HC6
      replace H := Option.bind_eq_some_iff.mp H
      obtain ⟨t175, A90, H⟩ := H
      replace H : (if t175 = 0 then (haulierlaw09_LoadZero.j0 k l0 (wrap64 (Int.tmod (IntKind.u64.wrap (a1)) 4)) t172 ((t172.length : Int) != (wrap64 (Int.tmod (IntKind.u64.wrap (a1)) 4)))) else (haulierlaw09_LoadZero.j0 k l0 (wrap64 (Int.tmod (IntKind.u64.wrap (a1)) 4)) t172 true)) = some true := H
      have A9 := Aside0.mk A90
      clear A90
      by_cases c10 : t175 = 0
      · rw [if_pos c10] at H
        have c10b0 : (t175 == 0) = true := beq_iff_eq.mpr c10
        have c10b1 : (t175 != 0) = false := bne_eq_false_iff_eq.mpr c10
        clear c10
        (first | rw [c10b0] | (simp only [i64_w, i32_w]; rw [c10b0]) | skip)
        have H' := Aside0.mk H
        clear H
        obtain ⟨Ao11, co11, eo11⟩ := Kd.R_slice HO174.out
        subst eo11
        go_wp2_with (first | ((with_reducible refine gate_callee (f := 18) rfl ?_); refine goesL_ (some 25) rfl rfl Try.func18 (by kernel_rfl) rfl #[.slice Ao11 t172.length co11, .int .i64 (wrap64 (Int.tmod (IntKind.u64.wrap (a1)) 4))] rfl (by (try simp only [List.map_toArray, List.map_cons, List.map_nil]); first | done | rfl | (simp only [List.length_drop, List.length_take]; rfl)) ?_; (with_reducible refine (load_Check.calls k _ _ t172 (wrap64 (Int.tmod (IntKind.u64.wrap (a1)) 4)) t175 _ ?side1 ?side2 A9.out).mono ?_); (case side1 => repeat (first | exact (Kd.R_reads' HO174.out).2.2 | (with_reducible refine Kd.C_alloc ?_ _) | (with_reducible refine Kd.C_drewN ?_ _) | (with_reducible refine Kd.C_drew ?_))); (case side2 => exact (Kd.R_reads' HO174.out).2.1); rintro e w' ⟨rfl, ⟨nd, rfl⟩⟩; refine ⟨_, rfl, ?_⟩))
        go_meet
        case rel => exact ⟨_, (((t172.length : Int) != (wrap64 (Int.tmod (IntKind.u64.wrap (a1)) 4)))), (by first | rfl | (simp; done) | (simp [*]; done)), H', ⟨by first | omega | exact Nat.le_refl _⟩, ⟨by (with_reducible repeat (first | apply Kd.R_alloc | apply Kd.R_drewN | apply Kd.R_drew)); exact HO174.out⟩, ⟨by repeat (first | (with_reducible first | exact HB.out | apply below_alloc | apply pw_below_drewN | apply below_drew1) | exact HB.out)⟩⟩
      · rw [if_neg c10] at H
        have c10b0 : (t175 == 0) = false := beq_eq_false_iff_ne.mpr c10
        have c10b1 : (t175 != 0) = true := bne_iff_ne.mpr c10
        (first | rw [c10b0] | (simp only [i64_w, i32_w]; rw [c10b0]) | skip)
        have H' := Aside0.mk H
        clear H
        obtain ⟨Ao12, co12, eo12⟩ := Kd.R_slice HO174.out
        subst eo12
        go_wp2_with (first | ((with_reducible refine gate_callee (f := 18) rfl ?_); refine goesL_ (some 25) rfl rfl Try.func18 (by kernel_rfl) rfl #[.slice Ao12 t172.length co12, .int .i64 (wrap64 (Int.tmod (IntKind.u64.wrap (a1)) 4))] rfl (by (try simp only [List.map_toArray, List.map_cons, List.map_nil]); first | done | rfl | (simp only [List.length_drop, List.length_take]; rfl)) ?_; (with_reducible refine (load_Check.calls k _ _ t172 (wrap64 (Int.tmod (IntKind.u64.wrap (a1)) 4)) t175 _ ?side1 ?side2 A9.out).mono ?_); (case side1 => repeat (first | exact (Kd.R_reads' HO174.out).2.2 | (with_reducible refine Kd.C_alloc ?_ _) | (with_reducible refine Kd.C_drewN ?_ _) | (with_reducible refine Kd.C_drew ?_))); (case side2 => exact (Kd.R_reads' HO174.out).2.1); rintro e w' ⟨rfl, ⟨nd, rfl⟩⟩; refine ⟨_, rfl, ?_⟩))
        go_meet
        case rel => exact ⟨_, (true), (by first | rfl | (simp; done) | (simp [*]; done)), H', ⟨by first | omega | exact Nat.le_refl _⟩, ⟨by (with_reducible repeat (first | apply Kd.R_alloc | apply Kd.R_drewN | apply Kd.R_drew)); exact HO174.out⟩, ⟨by repeat (first | (with_reducible first | exact HB.out | apply below_alloc | apply pw_below_drewN | apply below_drew1) | exact HB.out)⟩⟩
    case rest =>
      clear HC6
      try clear c1
      try clear p2
      try clear c4
      try clear c6
      try clear p6
      try clear c7
      try clear c10
      try clear c10b0
      try clear c10b1
      obtain ⟨kq, x32_5, rfl, HA, HJ5, HO_5, HB⟩ := hcut
      cases kq with
      | zero => exact absurd HA.out (by simp [haulierlaw09_LoadZero.j0])
      | succ kj5 =>
        have H := HA.out
        clear HA
        simp only [haulierlaw09_LoadZero.j0] at H
        by_cases c13 : x32_5 = true
        · subst c13
          have H1 : (some false) = some true := by rw [if_pos rfl] at H; exact H
          clear H
          have H := H1
          clear H1
          exact absurd H (by simp)
        · replace c13 := Bool.eq_false_iff.mpr c13
          subst c13
          have H1 : ((some (([] : List Int) : List Int)).bind fun y176 => (if y176.length + l0.length < 17592186044416 then ((load_Check.f kj5 (y176 ++ l0) (wrap64 (Int.tmod (IntKind.u64.wrap (a1)) 4))).bind fun t182 => (if t182 = 0 then ((some (([] : List Int) : List Int)).bind fun y183 => (if y183.length + l0.length < 17592186044416 then ((some (y183 ++ l0 : List Int)).bind fun y186 => ((load_Add.f kj5 y186 t172).bind fun bt189 => ((load_Sub.f kj5 y186 t172).bind fun bt193 => ((load_Most.f kj5 y186 t172).bind fun bt197 => (haulierlaw09_LoadZero.l0 kj5 l0 (wrap64 (Int.tmod (IntKind.u64.wrap (a1)) 4)) t172 y186 bt189.1 bt189.2 bt193.1 bt193.2 bt197.1 bt197.2 (t172.length : Int) 0))))) else (none))) else (some true))) else (none))) = some true := by rw [if_neg (show ¬ (false = true) by decide)] at H; exact H
          clear H
          have H := H1
          clear H1
          obtain ⟨y176, hy176⟩ : ∃ y_ : List Int, y_ = (([] : List Int)) := ⟨_, rfl⟩
          replace H : (if y176.length + l0.length < 17592186044416 then ((load_Check.f kj5 (y176 ++ l0) (wrap64 (Int.tmod (IntKind.u64.wrap (a1)) 4))).bind fun t182 => (if t182 = 0 then ((some (([] : List Int) : List Int)).bind fun y183 => (if y183.length + l0.length < 17592186044416 then ((some (y183 ++ l0 : List Int)).bind fun y186 => ((load_Add.f kj5 y186 t172).bind fun bt189 => ((load_Sub.f kj5 y186 t172).bind fun bt193 => ((load_Most.f kj5 y186 t172).bind fun bt197 => (haulierlaw09_LoadZero.l0 kj5 l0 (wrap64 (Int.tmod (IntKind.u64.wrap (a1)) 4)) t172 y186 bt189.1 bt189.2 bt193.1 bt193.2 bt197.1 bt197.2 (t172.length : Int) 0))))) else (none))) else (some true))) else (none)) = some true := by first | (rw [hy176]; with_reducible exact H) | (have H2_ := (Option.bind_some _ _).symm.trans H; rw [hy176]; with_reducible exact H2_) | (have H2_ := (Option.bind_some _ _).symm.trans H; with_reducible exact H2_) | with_reducible exact H | (rw [hy176]; exact H) | exact H
          have Ny176 := Aside0.mk hy176
          clear hy176
          by_cases c14 : y176.length + l0.length < 17592186044416
          · rw [if_pos c14] at H
            have LMc14 := Aside0.mk c14
            clear c14
            obtain ⟨y179, hy179⟩ : ∃ y_ : List Int, y_ = (y176 ++ l0) := ⟨_, rfl⟩
            replace H : ((load_Check.f kj5 y179 (wrap64 (Int.tmod (IntKind.u64.wrap (a1)) 4))).bind fun t182 => (if t182 = 0 then ((some (([] : List Int) : List Int)).bind fun y183 => (if y183.length + l0.length < 17592186044416 then ((some (y183 ++ l0 : List Int)).bind fun y186 => ((load_Add.f kj5 y186 t172).bind fun bt189 => ((load_Sub.f kj5 y186 t172).bind fun bt193 => ((load_Most.f kj5 y186 t172).bind fun bt197 => (haulierlaw09_LoadZero.l0 kj5 l0 (wrap64 (Int.tmod (IntKind.u64.wrap (a1)) 4)) t172 y186 bt189.1 bt189.2 bt193.1 bt193.2 bt197.1 bt197.2 (t172.length : Int) 0))))) else (none))) else (some true))) = some true := by first | (rw [hy179]; with_reducible exact H) | (have H2_ := (Option.bind_some _ _).symm.trans H; rw [hy179]; with_reducible exact H2_) | (have H2_ := (Option.bind_some _ _).symm.trans H; with_reducible exact H2_) | with_reducible exact H | (rw [hy179]; exact H) | exact H
            have Ny179 := Aside0.mk hy179
            clear hy179
            replace H := Option.bind_eq_some_iff.mp H
            obtain ⟨t182, A150, H⟩ := H
            replace H : (if t182 = 0 then ((some (([] : List Int) : List Int)).bind fun y183 => (if y183.length + l0.length < 17592186044416 then ((some (y183 ++ l0 : List Int)).bind fun y186 => ((load_Add.f kj5 y186 t172).bind fun bt189 => ((load_Sub.f kj5 y186 t172).bind fun bt193 => ((load_Most.f kj5 y186 t172).bind fun bt197 => (haulierlaw09_LoadZero.l0 kj5 l0 (wrap64 (Int.tmod (IntKind.u64.wrap (a1)) 4)) t172 y186 bt189.1 bt189.2 bt193.1 bt193.2 bt197.1 bt197.2 (t172.length : Int) 0))))) else (none))) else (some true)) = some true := H
            have A15 := Aside0.mk A150
            clear A150
            by_cases c16 : t182 = 0
            · rw [if_pos c16] at H
              have c16b0 : (t182 == 0) = true := beq_iff_eq.mpr c16
              have c16b1 : (t182 != 0) = false := bne_eq_false_iff_eq.mpr c16
              clear c16
              obtain ⟨y183, hy183⟩ : ∃ y_ : List Int, y_ = (([] : List Int)) := ⟨_, rfl⟩
              replace H : (if y183.length + l0.length < 17592186044416 then ((some (y183 ++ l0 : List Int)).bind fun y186 => ((load_Add.f kj5 y186 t172).bind fun bt189 => ((load_Sub.f kj5 y186 t172).bind fun bt193 => ((load_Most.f kj5 y186 t172).bind fun bt197 => (haulierlaw09_LoadZero.l0 kj5 l0 (wrap64 (Int.tmod (IntKind.u64.wrap (a1)) 4)) t172 y186 bt189.1 bt189.2 bt193.1 bt193.2 bt197.1 bt197.2 (t172.length : Int) 0))))) else (none)) = some true := by first | (rw [hy183]; with_reducible exact H) | (have H2_ := (Option.bind_some _ _).symm.trans H; rw [hy183]; with_reducible exact H2_) | (have H2_ := (Option.bind_some _ _).symm.trans H; with_reducible exact H2_) | with_reducible exact H | (rw [hy183]; exact H) | exact H
              have Ny183 := Aside0.mk hy183
              clear hy183
              by_cases c17 : y183.length + l0.length < 17592186044416
              · rw [if_pos c17] at H
                have LMc17 := Aside0.mk c17
                clear c17
                obtain ⟨y186, hy186⟩ : ∃ y_ : List Int, y_ = (y183 ++ l0) := ⟨_, rfl⟩
                replace H : ((load_Add.f kj5 y186 t172).bind fun bt189 => ((load_Sub.f kj5 y186 t172).bind fun bt193 => ((load_Most.f kj5 y186 t172).bind fun bt197 => (haulierlaw09_LoadZero.l0 kj5 l0 (wrap64 (Int.tmod (IntKind.u64.wrap (a1)) 4)) t172 y186 bt189.1 bt189.2 bt193.1 bt193.2 bt197.1 bt197.2 (t172.length : Int) 0)))) = some true := by first | (rw [hy186]; with_reducible exact H) | (have H2_ := (Option.bind_some _ _).symm.trans H; rw [hy186]; with_reducible exact H2_) | (have H2_ := (Option.bind_some _ _).symm.trans H; with_reducible exact H2_) | with_reducible exact H | (rw [hy186]; exact H) | exact H
                have Ny186 := Aside0.mk hy186
                clear hy186
                replace H := Option.bind_eq_some_iff.mp H
                obtain ⟨⟨t189, t190⟩, A180, H⟩ := H
                replace H : ((load_Sub.f kj5 y186 t172).bind fun bt193 => ((load_Most.f kj5 y186 t172).bind fun bt197 => (haulierlaw09_LoadZero.l0 kj5 l0 (wrap64 (Int.tmod (IntKind.u64.wrap (a1)) 4)) t172 y186 t189 t190 bt193.1 bt193.2 bt197.1 bt197.2 (t172.length : Int) 0))) = some true := H
                have A18 := Aside0.mk A180
                clear A180
                replace H := Option.bind_eq_some_iff.mp H
                obtain ⟨⟨t193, t194⟩, A190, H⟩ := H
                replace H : ((load_Most.f kj5 y186 t172).bind fun bt197 => (haulierlaw09_LoadZero.l0 kj5 l0 (wrap64 (Int.tmod (IntKind.u64.wrap (a1)) 4)) t172 y186 t189 t190 t193 t194 bt197.1 bt197.2 (t172.length : Int) 0)) = some true := H
                have A19 := Aside0.mk A190
                clear A190
                replace H := Option.bind_eq_some_iff.mp H
                obtain ⟨⟨t197, t198⟩, A200, H⟩ := H
                replace H : (haulierlaw09_LoadZero.l0 kj5 l0 (wrap64 (Int.tmod (IntKind.u64.wrap (a1)) 4)) t172 y186 t189 t190 t193 t194 t197 t198 (t172.length : Int) 0) = some true := H
                have A20 := Aside0.mk A200
                clear A200
                have H' := Aside0.mk H
                clear H
                go_wp2_with (first | ((with_reducible refine gate_dst (N := 33) rfl ?_); (try (refine gate_guard (by rfl) ?_; dsimp only)); refine Kd.R_lit (Kd.int .i64) _ 3 ?hg (N := 33) ?hd (xs := ([] : List Int)) (inner := []) (ok := fun _ => True) (okp := fun _ => True) ?hr ?hp (fun _ hk => hk) trivial (Below.refl _ _) (Nat.le_refl _) (by simp) ?_; (case hd => rfl); (case hg => rfl); (case hr => first | (go_simp; done) | (go_simp; rfl)); (case hp => exact (Reps.none _ _)); intro v177 w21 ho22 hb hg_ hnew_; clear hg_ hnew_; (first | rw [← Ny176.out] at ho22 | (simp only [Int.reduceToNat] at ho22; rw [← Ny176.out] at ho22)); have n0_ := Aside0.mk (Kd.R_elder' (by (with_reducible repeat (first | apply Kd.R_alloc | apply Kd.R_drewN | apply Kd.R_drew)); exact HO_5.out) (Kd.R_base ho22) hb); have n1_ := Aside0.mk (Kd.R_lower (Kd.R_new' ho22 (Kd.R_lt (by (with_reducible repeat (first | apply Kd.R_alloc | apply Kd.R_drewN | apply Kd.R_drew)); exact HO_5.out))) (below_size (by repeat (first | (with_reducible first | exact HB.out | apply below_alloc | apply pw_below_drewN | apply below_drew1) | exact HB.out)))); have n2_ := Aside0.mk (below_step (by repeat (first | (with_reducible first | exact HB.out | apply below_alloc | apply pw_below_drewN | apply below_drew1) | exact HB.out)) hb); clear HO_5; clear HB; have HO_5 := n0_; have HO178 := n1_; have HB := n2_; clear n0_ n1_ n2_; clear hb ho22) | ((with_reducible refine gate_builtin (b := .append) (xs := #[.tmp 33, .tmp 34]) rfl ?_); (try (refine gate_guard (by rfl) ?_; dsimp only)); at_builtin; refine Kd.R_append_rows (Kd.int .i64) (w0 := w) w.heap.size rfl (.tmp 33) (.tmp 34) 22 3 (.int .i64 0) 8 rfl Try.underlying22 info3 rfl (by decide) (by omega) v177 y176 l0 _ _ _ (fun k_ => some k_ ≠ (v173 : Value).ownBlock) (fun _ => False) rfl rfl ?aO ?aR (fun _ _ h => h) (fun _ h => h.elim) ?aF ?aB ?aS ?aL ?_; (case aR => repeat (first | exact (Kd.C_below HR0.out HB.out) | (with_reducible refine Kd.C_alloc ?_ _) | (with_reducible refine Kd.C_drewN ?_ _) | (with_reducible refine Kd.C_drew ?_))); (case aB => exact (by repeat (first | (with_reducible first | exact HB.out | apply below_alloc | apply pw_below_drewN | apply below_drew1) | exact HB.out))); (case aF => exact (fun k_ hk => Kd.fresh' (Kd.R_lt (by (with_reducible repeat (first | apply Kd.R_alloc | apply Kd.R_drewN | apply Kd.R_drew)); exact HO_5.out)) k_ hk)); (case aO => exact (by (with_reducible repeat (first | apply Kd.R_alloc | apply Kd.R_drewN | apply Kd.R_drew)); exact Kd.R_mono HO178.out (fun _ hk => hk.2))); (case aS => exact (below_size (by repeat (first | (with_reducible first | exact HB.out | apply below_alloc | apply pw_below_drewN | apply below_drew1) | exact HB.out)))); (case aL => have := LMc14.out; omega); intro v180 w23 ho hb hg hat; rw [← Ny179.out] at ho; have n0_ := Aside0.mk (Kd.R_after (ok := (fun _ => True)) (by (with_reducible repeat (first | apply Kd.R_alloc | apply Kd.R_drewN | apply Kd.R_drew)); exact HO_5.out) hg hat); have n1_ := Aside0.mk (hb); have n2_ := Aside0.mk (ho); clear HO_5; clear HB; clear HO178; have HO_5 := n0_; have HB := n1_; have HO181 := n2_; clear n0_ n1_ n2_; clear ho hb hg hat; obtain ⟨Ao24, co24, eo24⟩ := Kd.R_slice HO181.out; subst eo24) | ((with_reducible refine gate_callee (f := 18) rfl ?_); refine goesL_ (some 37) rfl rfl Try.func18 (by kernel_rfl) rfl #[.slice Ao24 y179.length co24, .int .i64 (wrap64 (Int.tmod (IntKind.u64.wrap (a1)) 4))] rfl (by (try simp only [List.map_toArray, List.map_cons, List.map_nil]); first | done | rfl | (simp only [List.length_drop, List.length_take]; rfl)) ?_; (with_reducible refine (load_Check.calls kj5 _ _ y179 (wrap64 (Int.tmod (IntKind.u64.wrap (a1)) 4)) t182 _ ?side1 ?side2 A15.out).mono ?_); (case side1 => repeat (first | exact (Kd.R_reads' HO181.out).2.2 | (with_reducible refine Kd.C_alloc ?_ _) | (with_reducible refine Kd.C_drewN ?_ _) | (with_reducible refine Kd.C_drew ?_))); (case side2 => exact (Kd.R_reads' HO181.out).2.1); rintro e w' ⟨rfl, ⟨nd, rfl⟩⟩; refine ⟨_, rfl, ?_⟩) | ((with_reducible refine gate_dst (N := 39) rfl ?_); (try (refine gate_guard (by rfl) ?_; dsimp only)); refine Kd.R_lit (Kd.int .i64) _ 3 ?hg (N := 39) ?hd (xs := ([] : List Int)) (inner := []) (ok := fun _ => True) (okp := fun _ => True) ?hr ?hp (fun _ hk => hk) trivial (Below.refl _ _) (Nat.le_refl _) (by simp) ?_; (case hd => rfl); (case hg => rfl); (case hr => first | (go_simp; done) | (go_simp; rfl)); (case hp => exact (Reps.none _ _)); intro v184 w25 ho26 hb hg_ hnew_; clear hg_ hnew_; (first | rw [← Ny183.out] at ho26 | (simp only [Int.reduceToNat] at ho26; rw [← Ny183.out] at ho26)); have n0_ := Aside0.mk (Kd.R_elder' (by (with_reducible repeat (first | apply Kd.R_alloc | apply Kd.R_drewN | apply Kd.R_drew)); exact HO_5.out) (Kd.R_base ho26) hb); have n1_ := Aside0.mk (Kd.R_elder' (by (with_reducible repeat (first | apply Kd.R_alloc | apply Kd.R_drewN | apply Kd.R_drew)); exact HO181.out) (Kd.R_base ho26) hb); have n2_ := Aside0.mk (Kd.R_lower (Kd.R_new' (Kd.R_new' ho26 (Kd.R_lt (by (with_reducible repeat (first | apply Kd.R_alloc | apply Kd.R_drewN | apply Kd.R_drew)); exact HO_5.out))) (Kd.R_lt (by (with_reducible repeat (first | apply Kd.R_alloc | apply Kd.R_drewN | apply Kd.R_drew)); exact HO181.out))) (below_size (by repeat (first | (with_reducible first | exact HB.out | apply below_alloc | apply pw_below_drewN | apply below_drew1) | exact HB.out)))); have n3_ := Aside0.mk (below_step (by repeat (first | (with_reducible first | exact HB.out | apply below_alloc | apply pw_below_drewN | apply below_drew1) | exact HB.out)) hb); clear HO_5; clear HO181; clear HB; have HO_5 := n0_; have HO181 := n1_; have HO185 := n2_; have HB := n3_; clear n0_ n1_ n2_ n3_; clear hb ho26) | ((with_reducible refine gate_builtin (b := .append) (xs := #[.tmp 39, .tmp 40]) rfl ?_); (try (refine gate_guard (by rfl) ?_; dsimp only)); at_builtin; refine Kd.R_append_rows (Kd.int .i64) (w0 := w) w.heap.size rfl (.tmp 39) (.tmp 40) 22 3 (.int .i64 0) 8 rfl Try.underlying22 info3 rfl (by decide) (by omega) v184 y183 l0 _ _ _ (fun k_ => some k_ ≠ (v173 : Value).ownBlock ∧ some k_ ≠ (.slice Ao24 y179.length co24 : Value).ownBlock) (fun _ => False) rfl rfl ?aO ?aR (fun _ _ h => h) (fun _ h => h.elim) ?aF ?aB ?aS ?aL ?_; (case aR => repeat (first | exact (Kd.C_below HR0.out HB.out) | (with_reducible refine Kd.C_alloc ?_ _) | (with_reducible refine Kd.C_drewN ?_ _) | (with_reducible refine Kd.C_drew ?_))); (case aB => exact (by repeat (first | (with_reducible first | exact HB.out | apply below_alloc | apply pw_below_drewN | apply below_drew1) | exact HB.out))); (case aF => exact (fun k_ hk => ⟨Kd.fresh' (Kd.R_lt (by (with_reducible repeat (first | apply Kd.R_alloc | apply Kd.R_drewN | apply Kd.R_drew)); exact HO_5.out)) k_ hk, Kd.fresh' (Kd.R_lt (by (with_reducible repeat (first | apply Kd.R_alloc | apply Kd.R_drewN | apply Kd.R_drew)); exact HO181.out)) k_ hk⟩)); (case aO => exact (by (with_reducible repeat (first | apply Kd.R_alloc | apply Kd.R_drewN | apply Kd.R_drew)); exact Kd.R_mono HO185.out (fun _ hk => ⟨hk.1.2, hk.2⟩))); (case aS => exact (below_size (by repeat (first | (with_reducible first | exact HB.out | apply below_alloc | apply pw_below_drewN | apply below_drew1) | exact HB.out)))); (case aL => have := LMc17.out; omega); intro v187 w27 ho hb hg hat; rw [← Ny186.out] at ho; have n0_ := Aside0.mk (Kd.R_after (ok := (fun k_ => some k_ ≠ (.slice Ao24 y179.length co24 : Value).ownBlock)) (by (with_reducible repeat (first | apply Kd.R_alloc | apply Kd.R_drewN | apply Kd.R_drew)); exact Kd.R_mono HO_5.out (fun _ hk => ⟨hk.1.2, hk.2⟩)) hg hat); have n1_ := Aside0.mk (Kd.R_after (ok := (fun k_ => some k_ ≠ (v173 : Value).ownBlock)) (by (with_reducible repeat (first | apply Kd.R_alloc | apply Kd.R_drewN | apply Kd.R_drew)); exact HO181.out) hg hat); have n2_ := Aside0.mk (hb); have n3_ := Aside0.mk (ho); clear HO_5; clear HO181; clear HB; clear HO185; have HO_5 := n0_; have HO181 := n1_; have HB := n2_; have HO188 := n3_; clear n0_ n1_ n2_ n3_; clear ho hb hg hat; obtain ⟨Ao28, co28, eo28⟩ := Kd.R_slice HO188.out; subst eo28; obtain ⟨Ao29, co29, eo29⟩ := Kd.R_slice HO_5.out; subst eo29) | ((with_reducible refine gate_callee (f := 10) rfl ?_); refine goesL_ (some 45) rfl rfl Try.func10 (by kernel_rfl) rfl #[.slice Ao28 y186.length co28, .slice Ao29 t172.length co29] rfl (by (try simp only [List.map_toArray, List.map_cons, List.map_nil]); first | done | rfl | (simp only [List.length_drop, List.length_take]; rfl)) ?_; (with_reducible refine (load_Add.calls kj5 _ _ y186 _ _ t172 t189 t190 _ ?side1 ?side2 ?side3 ?side4 A18.out).mono ?_); (case side1 => repeat (first | exact (Kd.R_reads' HO188.out).2.2 | (with_reducible refine Kd.C_alloc ?_ _) | (with_reducible refine Kd.C_drewN ?_ _) | (with_reducible refine Kd.C_drew ?_))); (case side2 => exact (Kd.R_reads' HO188.out).2.1); (case side3 => repeat (first | exact (Kd.R_reads' HO_5.out).2.2 | (with_reducible refine Kd.C_alloc ?_ _) | (with_reducible refine Kd.C_drewN ?_ _) | (with_reducible refine Kd.C_drew ?_))); (case side4 => exact (Kd.R_reads' HO_5.out).2.1); rintro e w30 ⟨v191, rfl, ho0, hb⟩; refine ⟨_, rfl, ?_⟩; have n0_ := Aside0.mk (Kd.R_elder' (by (with_reducible repeat (first | apply Kd.R_alloc | apply Kd.R_drewN | apply Kd.R_drew)); exact HO_5.out) (Kd.R_base ho0) hb); have n1_ := Aside0.mk (Kd.R_elder' (by (with_reducible repeat (first | apply Kd.R_alloc | apply Kd.R_drewN | apply Kd.R_drew)); exact HO181.out) (Kd.R_base ho0) hb); have n2_ := Aside0.mk (Kd.R_elder' (by (with_reducible repeat (first | apply Kd.R_alloc | apply Kd.R_drewN | apply Kd.R_drew)); exact HO188.out) (Kd.R_base ho0) hb); have n3_ := Aside0.mk (Kd.R_lower (Kd.R_new' (Kd.R_new' (Kd.R_new' ho0 (Kd.R_lt (by (with_reducible repeat (first | apply Kd.R_alloc | apply Kd.R_drewN | apply Kd.R_drew)); exact HO_5.out))) (Kd.R_lt (by (with_reducible repeat (first | apply Kd.R_alloc | apply Kd.R_drewN | apply Kd.R_drew)); exact HO181.out))) (Kd.R_lt (by (with_reducible repeat (first | apply Kd.R_alloc | apply Kd.R_drewN | apply Kd.R_drew)); exact HO188.out))) (below_size (by repeat (first | (with_reducible first | exact HB.out | apply below_alloc | apply pw_below_drewN | apply below_drew1) | exact HB.out)))); have n4_ := Aside0.mk (below_step (by repeat (first | (with_reducible first | exact HB.out | apply below_alloc | apply pw_below_drewN | apply below_drew1) | exact HB.out)) hb); clear HO_5; clear HO181; clear HO188; clear HB; have HO_5 := n0_; have HO181 := n1_; have HO188 := n2_; have HO192 := n3_; have HB := n4_; clear n0_ n1_ n2_ n3_ n4_; (try clear hb); (try clear hb2); (try clear hk); (try clear hi); (try clear ho0)) | ((with_reducible refine gate_callee (f := 12) rfl ?_); refine goesL_ (some 51) rfl rfl Try.func12 (by kernel_rfl) rfl #[.slice Ao28 y186.length co28, .slice Ao29 t172.length co29] rfl (by (try simp only [List.map_toArray, List.map_cons, List.map_nil]); first | done | rfl | (simp only [List.length_drop, List.length_take]; rfl)) ?_; (with_reducible refine (load_Sub.calls kj5 _ _ y186 _ _ t172 t193 t194 _ ?side1 ?side2 ?side3 ?side4 A19.out).mono ?_); (case side1 => repeat (first | exact (Kd.R_reads' HO188.out).2.2 | (with_reducible refine Kd.C_alloc ?_ _) | (with_reducible refine Kd.C_drewN ?_ _) | (with_reducible refine Kd.C_drew ?_))); (case side2 => exact (Kd.R_reads' HO188.out).2.1); (case side3 => repeat (first | exact (Kd.R_reads' HO_5.out).2.2 | (with_reducible refine Kd.C_alloc ?_ _) | (with_reducible refine Kd.C_drewN ?_ _) | (with_reducible refine Kd.C_drew ?_))); (case side4 => exact (Kd.R_reads' HO_5.out).2.1); rintro e w31 ⟨v195, rfl, ho0, hb⟩; refine ⟨_, rfl, ?_⟩; have n0_ := Aside0.mk (Kd.R_elder' (by (with_reducible repeat (first | apply Kd.R_alloc | apply Kd.R_drewN | apply Kd.R_drew)); exact HO_5.out) (Kd.R_base ho0) hb); have n1_ := Aside0.mk (Kd.R_elder' (by (with_reducible repeat (first | apply Kd.R_alloc | apply Kd.R_drewN | apply Kd.R_drew)); exact HO181.out) (Kd.R_base ho0) hb); have n2_ := Aside0.mk (Kd.R_elder' (by (with_reducible repeat (first | apply Kd.R_alloc | apply Kd.R_drewN | apply Kd.R_drew)); exact HO188.out) (Kd.R_base ho0) hb); have n3_ := Aside0.mk (Kd.R_elder' (by (with_reducible repeat (first | apply Kd.R_alloc | apply Kd.R_drewN | apply Kd.R_drew)); exact HO192.out) (Kd.R_base ho0) hb); have n4_ := Aside0.mk (Kd.R_lower (Kd.R_new' (Kd.R_new' (Kd.R_new' (Kd.R_new' ho0 (Kd.R_lt (by (with_reducible repeat (first | apply Kd.R_alloc | apply Kd.R_drewN | apply Kd.R_drew)); exact HO_5.out))) (Kd.R_lt (by (with_reducible repeat (first | apply Kd.R_alloc | apply Kd.R_drewN | apply Kd.R_drew)); exact HO181.out))) (Kd.R_lt (by (with_reducible repeat (first | apply Kd.R_alloc | apply Kd.R_drewN | apply Kd.R_drew)); exact HO188.out))) (Kd.R_lt (by (with_reducible repeat (first | apply Kd.R_alloc | apply Kd.R_drewN | apply Kd.R_drew)); exact HO192.out))) (below_size (by repeat (first | (with_reducible first | exact HB.out | apply below_alloc | apply pw_below_drewN | apply below_drew1) | exact HB.out)))); have n5_ := Aside0.mk (below_step (by repeat (first | (with_reducible first | exact HB.out | apply below_alloc | apply pw_below_drewN | apply below_drew1) | exact HB.out)) hb); clear HO_5; clear HO181; clear HO188; clear HO192; clear HB; have HO_5 := n0_; have HO181 := n1_; have HO188 := n2_; have HO192 := n3_; have HO196 := n4_; have HB := n5_; clear n0_ n1_ n2_ n3_ n4_ n5_; (try clear hb); (try clear hb2); (try clear hk); (try clear hi); (try clear ho0)) | ((with_reducible refine gate_callee (f := 8) rfl ?_); refine goesL_ (some 57) rfl rfl Try.func8 (by kernel_rfl) rfl #[.slice Ao28 y186.length co28, .slice Ao29 t172.length co29] rfl (by (try simp only [List.map_toArray, List.map_cons, List.map_nil]); first | done | rfl | (simp only [List.length_drop, List.length_take]; rfl)) ?_; (with_reducible refine (load_Most.calls kj5 _ _ y186 _ _ t172 t197 t198 _ ?side1 ?side2 ?side3 ?side4 A20.out).mono ?_); (case side1 => repeat (first | exact (Kd.R_reads' HO188.out).2.2 | (with_reducible refine Kd.C_alloc ?_ _) | (with_reducible refine Kd.C_drewN ?_ _) | (with_reducible refine Kd.C_drew ?_))); (case side2 => exact (Kd.R_reads' HO188.out).2.1); (case side3 => repeat (first | exact (Kd.R_reads' HO_5.out).2.2 | (with_reducible refine Kd.C_alloc ?_ _) | (with_reducible refine Kd.C_drewN ?_ _) | (with_reducible refine Kd.C_drew ?_))); (case side4 => exact (Kd.R_reads' HO_5.out).2.1); rintro e w32 ⟨v199, rfl, ho0, hb⟩; refine ⟨_, rfl, ?_⟩; have n0_ := Aside0.mk (Kd.R_elder' (by (with_reducible repeat (first | apply Kd.R_alloc | apply Kd.R_drewN | apply Kd.R_drew)); exact HO_5.out) (Kd.R_base ho0) hb); have n1_ := Aside0.mk (Kd.R_elder' (by (with_reducible repeat (first | apply Kd.R_alloc | apply Kd.R_drewN | apply Kd.R_drew)); exact HO181.out) (Kd.R_base ho0) hb); have n2_ := Aside0.mk (Kd.R_elder' (by (with_reducible repeat (first | apply Kd.R_alloc | apply Kd.R_drewN | apply Kd.R_drew)); exact HO188.out) (Kd.R_base ho0) hb); have n3_ := Aside0.mk (Kd.R_elder' (by (with_reducible repeat (first | apply Kd.R_alloc | apply Kd.R_drewN | apply Kd.R_drew)); exact HO192.out) (Kd.R_base ho0) hb); have n4_ := Aside0.mk (Kd.R_elder' (by (with_reducible repeat (first | apply Kd.R_alloc | apply Kd.R_drewN | apply Kd.R_drew)); exact HO196.out) (Kd.R_base ho0) hb); have n5_ := Aside0.mk (Kd.R_lower (Kd.R_new' (Kd.R_new' (Kd.R_new' (Kd.R_new' (Kd.R_new' ho0 (Kd.R_lt (by (with_reducible repeat (first | apply Kd.R_alloc | apply Kd.R_drewN | apply Kd.R_drew)); exact HO_5.out))) (Kd.R_lt (by (with_reducible repeat (first | apply Kd.R_alloc | apply Kd.R_drewN | apply Kd.R_drew)); exact HO181.out))) (Kd.R_lt (by (with_reducible repeat (first | apply Kd.R_alloc | apply Kd.R_drewN | apply Kd.R_drew)); exact HO188.out))) (Kd.R_lt (by (with_reducible repeat (first | apply Kd.R_alloc | apply Kd.R_drewN | apply Kd.R_drew)); exact HO192.out))) (Kd.R_lt (by (with_reducible repeat (first | apply Kd.R_alloc | apply Kd.R_drewN | apply Kd.R_drew)); exact HO196.out))) (below_size (by repeat (first | (with_reducible first | exact HB.out | apply below_alloc | apply pw_below_drewN | apply below_drew1) | exact HB.out)))); have n6_ := Aside0.mk (below_step (by repeat (first | (with_reducible first | exact HB.out | apply below_alloc | apply pw_below_drewN | apply below_drew1) | exact HB.out)) hb); clear HO_5; clear HO181; clear HO188; clear HO192; clear HO196; clear HB; have HO_5 := n0_; have HO181 := n1_; have HO188 := n2_; have HO192 := n3_; have HO196 := n4_; have HO200 := n5_; have HB := n6_; clear n0_ n1_ n2_ n3_ n4_ n5_ n6_; (try clear hb); (try clear hb2); (try clear hk); (try clear hi); (try clear ho0)))
                go_loopg [62] kj5 (fun kq v62 w' => ∃ (x5_2 : List Int) (x62_2 : Int), v62 = .int .i64 x62_2 ∧ Aside0 (haulierlaw09_LoadZero.l0 kq l0 (wrap64 (Int.tmod (IntKind.u64.wrap (a1)) 4)) x5_2 y186 t189 t190 t193 t194 t197 t198 (t172.length : Int) x62_2 = some true) ∧ Aside0 (kq ≤ kj5) ∧ Aside0 (Kd.R (Kd.int .i64) 3 w' w.heap.size (fun k_ => some k_ ≠ ((.slice Ao28 y186.length co28) : Value).ownBlock ∧ some k_ ≠ (v191 : Value).ownBlock ∧ some k_ ≠ (v195 : Value).ownBlock ∧ some k_ ≠ (v199 : Value).ownBlock) (.slice Ao29 t172.length co29) x5_2) ∧ Aside0 (Kd.R (Kd.int .i64) 3 w' w.heap.size (fun k_ => some k_ ≠ ((.slice Ao29 t172.length co29) : Value).ownBlock ∧ some k_ ≠ (v191 : Value).ownBlock ∧ some k_ ≠ (v195 : Value).ownBlock ∧ some k_ ≠ (v199 : Value).ownBlock) (.slice Ao28 y186.length co28) y186) ∧ Aside0 (Kd.R (Kd.int .i64) 3 w' w.heap.size (fun k_ => some k_ ≠ ((.slice Ao29 t172.length co29) : Value).ownBlock ∧ some k_ ≠ ((.slice Ao28 y186.length co28) : Value).ownBlock ∧ some k_ ≠ (v195 : Value).ownBlock ∧ some k_ ≠ (v199 : Value).ownBlock) v191 t189) ∧ Aside0 (Kd.R (Kd.int .i64) 3 w' w.heap.size (fun k_ => some k_ ≠ ((.slice Ao29 t172.length co29) : Value).ownBlock ∧ some k_ ≠ ((.slice Ao28 y186.length co28) : Value).ownBlock ∧ some k_ ≠ (v191 : Value).ownBlock ∧ some k_ ≠ (v199 : Value).ownBlock) v195 t193) ∧ Aside0 (Kd.R (Kd.int .i64) 3 w' w.heap.size (fun k_ => some k_ ≠ ((.slice Ao29 t172.length co29) : Value).ownBlock ∧ some k_ ≠ ((.slice Ao28 y186.length co28) : Value).ownBlock ∧ some k_ ≠ (v191 : Value).ownBlock ∧ some k_ ≠ (v195 : Value).ownBlock) v199 t197) ∧ Aside0 (Below w.heap.size w w'))
                case atStart => exact ⟨(t172), (0), (by first | rfl | (simp; done) | (simp [*]; done)), H', ⟨Nat.le_refl _⟩, ⟨by (with_reducible repeat (first | apply Kd.R_alloc | apply Kd.R_drewN | apply Kd.R_drew)); exact Kd.R_mono HO_5.out (fun _ hk => ⟨hk.1.1.1.2, ⟨hk.1.1.2, ⟨hk.1.2, hk.2⟩⟩⟩)⟩, ⟨by (with_reducible repeat (first | apply Kd.R_alloc | apply Kd.R_drewN | apply Kd.R_drew)); exact Kd.R_mono HO188.out (fun _ hk => ⟨hk.1.1.1.1, ⟨hk.1.1.2, ⟨hk.1.2, hk.2⟩⟩⟩)⟩, ⟨by (with_reducible repeat (first | apply Kd.R_alloc | apply Kd.R_drewN | apply Kd.R_drew)); exact Kd.R_mono HO192.out (fun _ hk => ⟨hk.1.1.1.1.2, ⟨hk.1.1.2, ⟨hk.1.2, hk.2⟩⟩⟩)⟩, ⟨by (with_reducible repeat (first | apply Kd.R_alloc | apply Kd.R_drewN | apply Kd.R_drew)); exact Kd.R_mono HO196.out (fun _ hk => ⟨hk.1.1.1.1.2, ⟨hk.1.1.2, ⟨hk.1.2, hk.2⟩⟩⟩)⟩, ⟨by (with_reducible repeat (first | apply Kd.R_alloc | apply Kd.R_drewN | apply Kd.R_drew)); exact Kd.R_mono HO200.out (fun _ hk => ⟨hk.1.1.1.1.2, ⟨hk.1.1.2, ⟨hk.1.2, hk.2⟩⟩⟩)⟩, ⟨by repeat (first | (with_reducible first | exact HB.out | apply below_alloc | apply pw_below_drewN | apply below_drew1) | exact HB.out)⟩⟩
                case round =>
                  clear H'
                  try clear c1
                  try clear p2
                  try clear c4
                  try clear c6
                  try clear p6
                  try clear c7
                  try clear c8
                  try clear c10
                  try clear c10b0
                  try clear c10b1
                  try clear c12
                  try clear c13
                  try clear c14
                  try clear c16
                  try clear c16b0
                  try clear c16b1
                  try clear c17
                  try clear c18
                  try clear p2
                  try clear p6
                  obtain ⟨x5_2, x62_2, rfl, HA, HK2, HO_5, HO_6, HO_7, HO_9, HO_11, HB⟩ := hrel
                  have hl5_2 := (Kd.R_reads' HO_5.out).1
                  rw [hl5_2] at HO_5
                  (try simp only [hl5_2])
                  (try simp only [hl5_2] at HO_6)
                  (try simp only [hl5_2] at HO_7)
                  (try simp only [hl5_2] at HO_9)
                  (try simp only [hl5_2] at HO_11)
                  cases gk with
                  | zero => exact absurd HA.out (by simp [haulierlaw09_LoadZero.l0])
                  | succ k2 =>
                    have H := HA.out
                    clear HA
                    simp only [haulierlaw09_LoadZero.l0] at H
                    by_cases c33 : x62_2 < (t172.length : Int)
                    · rw [if_pos c33] at H
                      have c33b0 : decide (x62_2 < (t172.length : Int)) = true := decide_eq_true c33
                      (try (have c33b0_hl5_2 := c33b0; simp only [hl5_2] at c33b0_hl5_2))
                      clear c33
                      by_cases c34 : 0 ≤ x62_2
                      · rw [if_pos c34] at H
                        have c34b0 : decide (0 ≤ x62_2) = true := decide_eq_true c34
                        clear c34
                        by_cases c35 : x62_2 < (x5_2.length : Int)
                        · rw [if_pos c35] at H
                          have c35b0 : decide (x62_2 < (x5_2.length : Int)) = true := decide_eq_true c35
                          (try (have c35b0_hl5_2 := c35b0; simp only [hl5_2] at c35b0_hl5_2))
                          clear c35
                          obtain ⟨y201, hy201⟩ : ∃ y_ : List Int, y_ = (x5_2.set (x62_2 : Int).toNat 7) := ⟨_, rfl⟩
                          replace H : (haulierlaw09_LoadZero.l0 k2 l0 (wrap64 (Int.tmod (IntKind.u64.wrap (a1)) 4)) y201 y186 t189 t190 t193 t194 t197 t198 (t172.length : Int) (wrap64 (x62_2 + 1))) = some true := by first | (rw [hy201]; with_reducible exact H) | (have H2_ := (Option.bind_some _ _).symm.trans H; rw [hy201]; with_reducible exact H2_) | (have H2_ := (Option.bind_some _ _).symm.trans H; with_reducible exact H2_) | with_reducible exact H | (rw [hy201]; exact H) | exact H
                          have Ny201 := Aside0.mk hy201
                          clear hy201
                          have H' := Aside0.mk H
                          clear H
                          have p36 : 0 ≤ (x62_2 : Int) := of_decide_eq_true (by first | (with_reducible assumption) | assumption)
                          have q36 : (x62_2 : Int) < ((x5_2.length : Int) : Int) := of_decide_eq_true (by first | (with_reducible assumption) | assumption)
                          obtain ⟨go36, co36, eo36, gb36, gl36, cl36, HG36⟩ := Kd.R_form HO_5.out (by omega)
                          (first | cases eo36 | (injection eo36 with ea_ en_ ec_; (first | subst ea_ | (injection ea_ with ea_; subst ea_)); subst ec_; clear en_))
                          have GB36 := Aside0.mk gb36
                          have GG36 := Aside0.mk HG36
                          clear gb36 gl36 HG36
                          obtain ⟨hx36_0, hf36_0⟩ := Kd.R_celln 0 HO_5.out (x62_2 : Int) p36 q36
                          replace p36 := eq_true p36
                          replace q36 := eq_true q36
                          have HP37 := Kd.R_putg HO_5.out (x62_2 : Int) 7
                          go_wp2_with (first | ((with_reducible refine gate_store (t := 3) (p := 67) rfl ?_); refine store_event (t := 3) (p := 67) (v := ?vo_w38) (w1 := (wr.setCell ⟨go36, (x62_2 : Int).toNat, none⟩ (.int .i64 7))) ?hg ?ho ?hn ?hr ?_; (case ho => rfl); (case hg => rfl); (case hn => rfl); (case hr => first | (go_simp; done) | (go_simp; rfl)); intro w38 hw; have hg : wr.grownBy w38 (some go36) := (by rw [hw]; exact HP37.2); have hp_ : Kd.R (Kd.int .i64) 3 w38 w.heap.size (fun k_ => some k_ ≠ (.slice Ao28 y186.length co28 : Value).ownBlock ∧ some k_ ≠ (v191 : Value).ownBlock ∧ some k_ ≠ (v195 : Value).ownBlock ∧ some k_ ≠ (v199 : Value).ownBlock) (.slice (some ⟨go36, 0, none⟩) x5_2.length co29) y201 := (by rw [hw, Ny201.out]; exact HP37.1); clear HP37; have n0_ := Aside0.mk (hp_); have n1_ := Aside0.mk (Kd.R_after (v := (.slice (some ⟨go36, 0, none⟩) x5_2.length co29)) (v1 := (.slice (some ⟨go36, 0, none⟩) x5_2.length co29)) (ok := (fun k_ => some k_ ≠ (v191 : Value).ownBlock ∧ some k_ ≠ (v195 : Value).ownBlock ∧ some k_ ≠ (v199 : Value).ownBlock)) (by (with_reducible repeat (first | apply Kd.R_alloc | apply Kd.R_drewN | apply Kd.R_drew)); exact Kd.R_mono HO_6.out (fun _ hk => ⟨⟨hk.2.1, ⟨hk.2.2.1, hk.2.2.2⟩⟩, hk.1⟩)) hg (.inl rfl)); have n2_ := Aside0.mk (Kd.R_after (v := (.slice (some ⟨go36, 0, none⟩) x5_2.length co29)) (v1 := (.slice (some ⟨go36, 0, none⟩) x5_2.length co29)) (ok := (fun k_ => some k_ ≠ (.slice Ao28 y186.length co28 : Value).ownBlock ∧ some k_ ≠ (v195 : Value).ownBlock ∧ some k_ ≠ (v199 : Value).ownBlock)) (by (with_reducible repeat (first | apply Kd.R_alloc | apply Kd.R_drewN | apply Kd.R_drew)); exact Kd.R_mono HO_7.out (fun _ hk => ⟨⟨hk.2.1, ⟨hk.2.2.1, hk.2.2.2⟩⟩, hk.1⟩)) hg (.inl rfl)); have n3_ := Aside0.mk (Kd.R_after (v := (.slice (some ⟨go36, 0, none⟩) x5_2.length co29)) (v1 := (.slice (some ⟨go36, 0, none⟩) x5_2.length co29)) (ok := (fun k_ => some k_ ≠ (.slice Ao28 y186.length co28 : Value).ownBlock ∧ some k_ ≠ (v191 : Value).ownBlock ∧ some k_ ≠ (v199 : Value).ownBlock)) (by (with_reducible repeat (first | apply Kd.R_alloc | apply Kd.R_drewN | apply Kd.R_drew)); exact Kd.R_mono HO_9.out (fun _ hk => ⟨⟨hk.2.1, ⟨hk.2.2.1, hk.2.2.2⟩⟩, hk.1⟩)) hg (.inl rfl)); have n4_ := Aside0.mk (Kd.R_after (v := (.slice (some ⟨go36, 0, none⟩) x5_2.length co29)) (v1 := (.slice (some ⟨go36, 0, none⟩) x5_2.length co29)) (ok := (fun k_ => some k_ ≠ (.slice Ao28 y186.length co28 : Value).ownBlock ∧ some k_ ≠ (v191 : Value).ownBlock ∧ some k_ ≠ (v195 : Value).ownBlock)) (by (with_reducible repeat (first | apply Kd.R_alloc | apply Kd.R_drewN | apply Kd.R_drew)); exact Kd.R_mono HO_11.out (fun _ hk => ⟨⟨hk.2.1, ⟨hk.2.2.1, hk.2.2.2⟩⟩, hk.1⟩)) hg (.inl rfl)); have n5_ := Aside0.mk ((by rw [hw]; exact below_set (HB.out) GB36.out : Below w.heap.size w w38)); clear HO_5; clear HO_6; clear HO_7; clear HO_9; clear HO_11; clear HB; have HO_5 := n0_; have HO_6 := n1_; have HO_7 := n2_; have HO_9 := n3_; have HO_11 := n4_; have HB := n5_; clear n0_ n1_ n2_ n3_ n4_ n5_; clear hg hw hp_))
                          (try simp only [← hl5_2])
                          go_roundg k2
                          case measure => have := HJ5.out; have := HK2.out; omega
                          case rel => exact ⟨(y201), (wrap64 (x62_2 + 1)), (by first | rfl | (simp; done) | (simp [*]; done)), H', ⟨by have := HJ5.out; have := HK2.out; omega⟩, ⟨by (try simp only [hl5_2]); (with_reducible repeat (first | apply Kd.R_alloc | apply Kd.R_drewN | apply Kd.R_drew)); exact HO_5.out⟩, ⟨by (try simp only [hl5_2]); (with_reducible repeat (first | apply Kd.R_alloc | apply Kd.R_drewN | apply Kd.R_drew)); exact Kd.R_mono HO_6.out (fun _ hk => ⟨hk.2, ⟨hk.1.1, ⟨hk.1.2.1, hk.1.2.2⟩⟩⟩)⟩, ⟨by (try simp only [hl5_2]); (with_reducible repeat (first | apply Kd.R_alloc | apply Kd.R_drewN | apply Kd.R_drew)); exact Kd.R_mono HO_7.out (fun _ hk => ⟨hk.2, ⟨hk.1.1, ⟨hk.1.2.1, hk.1.2.2⟩⟩⟩)⟩, ⟨by (try simp only [hl5_2]); (with_reducible repeat (first | apply Kd.R_alloc | apply Kd.R_drewN | apply Kd.R_drew)); exact Kd.R_mono HO_9.out (fun _ hk => ⟨hk.2, ⟨hk.1.1, ⟨hk.1.2.1, hk.1.2.2⟩⟩⟩)⟩, ⟨by (try simp only [hl5_2]); (with_reducible repeat (first | apply Kd.R_alloc | apply Kd.R_drewN | apply Kd.R_drew)); exact Kd.R_mono HO_11.out (fun _ hk => ⟨hk.2, ⟨hk.1.1, ⟨hk.1.2.1, hk.1.2.2⟩⟩⟩)⟩, ⟨by repeat (first | (with_reducible first | exact HB.out | apply below_alloc | apply pw_below_drewN | apply below_drew1) | exact HB.out)⟩⟩
                        · rw [if_neg c35] at H
                          exact absurd H (by simp)
                      · rw [if_neg c34] at H
                        exact absurd H (by simp)
                    · rw [if_neg c33] at H
                      have c33b0 : decide (x62_2 < (t172.length : Int)) = false := decide_eq_false c33
                      (try (have c33b0_hl5_2 := c33b0; simp only [hl5_2] at c33b0_hl5_2))
                      clear c33
                      have HC39 := Aside0.mk H
                      clear H
                      go_upto_region 18 with (fail)
                      go_cut [96] (fun v96 wc => ∃ (kq : Nat) (x96_38 : Bool), v96 = .bool x96_38 ∧ Aside0 (haulierlaw09_LoadZero.j2 kq l0 (wrap64 (Int.tmod (IntKind.u64.wrap (a1)) 4)) y186 t189 t193 t197 x96_38 = some true) ∧ Aside0 (kq ≤ k2) ∧ Aside0 (Kd.R (Kd.int .i64) 3 wc w.heap.size (fun k_ => some k_ ≠ (v191 : Value).ownBlock ∧ some k_ ≠ (v195 : Value).ownBlock ∧ some k_ ≠ (v199 : Value).ownBlock) (.slice Ao28 y186.length co28) y186) ∧ Aside0 (Kd.R (Kd.int .i64) 3 wc w.heap.size (fun k_ => some k_ ≠ ((.slice Ao28 y186.length co28) : Value).ownBlock ∧ some k_ ≠ (v195 : Value).ownBlock ∧ some k_ ≠ (v199 : Value).ownBlock) v191 t189) ∧ Aside0 (Kd.R (Kd.int .i64) 3 wc w.heap.size (fun k_ => some k_ ≠ ((.slice Ao28 y186.length co28) : Value).ownBlock ∧ some k_ ≠ (v191 : Value).ownBlock ∧ some k_ ≠ (v199 : Value).ownBlock) v195 t193) ∧ Aside0 (Kd.R (Kd.int .i64) 3 wc w.heap.size (fun k_ => some k_ ≠ ((.slice Ao28 y186.length co28) : Value).ownBlock ∧ some k_ ≠ (v191 : Value).ownBlock ∧ some k_ ≠ (v195 : Value).ownBlock) v199 t197) ∧ Aside0 (Below w.heap.size w wc))
                      case first =>
                        have H := HC39.out
                        clear HC39
                        by_cases c40 : t190 = 0
                        · rw [if_pos c40] at H
                          have c40b0 : (t190 == 0) = true := beq_iff_eq.mpr c40
                          have c40b1 : (t190 != 0) = false := bne_eq_false_iff_eq.mpr c40
                          clear c40
                          (first | rw [c40b0] | (simp only [i64_w, i32_w]; rw [c40b0]) | skip)
                          by_cases c41 : t194 = 0
                          · rw [if_pos c41] at H
                            have c41b0 : (t194 == 0) = true := beq_iff_eq.mpr c41
                            have c41b1 : (t194 != 0) = false := bne_eq_false_iff_eq.mpr c41
                            clear c41
                            by_cases c42 : t198 = 0
                            · rw [if_pos c42] at H
                              have c42b0 : (t198 == 0) = true := beq_iff_eq.mpr c42
                              have c42b1 : (t198 != 0) = false := bne_eq_false_iff_eq.mpr c42
                              clear c42
                              replace H := Option.bind_eq_some_iff.mp H
                              obtain ⟨t202, A430, H⟩ := H
                              replace H : (if t202 = true then ((load_Same.f k2 t193 l0).bind fun t203 => (if t203 = true then ((load_Same.f k2 t197 l0).bind fun t204 => (haulierlaw09_LoadZero.j2 k2 l0 (wrap64 (Int.tmod (IntKind.u64.wrap (a1)) 4)) y186 t189 t193 t197 (!t204))) else (haulierlaw09_LoadZero.j2 k2 l0 (wrap64 (Int.tmod (IntKind.u64.wrap (a1)) 4)) y186 t189 t193 t197 true))) else (haulierlaw09_LoadZero.j2 k2 l0 (wrap64 (Int.tmod (IntKind.u64.wrap (a1)) 4)) y186 t189 t193 t197 true)) = some true := H
                              have A43 := Aside0.mk A430
                              clear A430
                              by_cases c44 : t202 = true
                              · subst c44
                                have H1 : ((load_Same.f k2 t193 l0).bind fun t203 => (if t203 = true then ((load_Same.f k2 t197 l0).bind fun t204 => (haulierlaw09_LoadZero.j2 k2 l0 (wrap64 (Int.tmod (IntKind.u64.wrap (a1)) 4)) y186 t189 t193 t197 (!t204))) else (haulierlaw09_LoadZero.j2 k2 l0 (wrap64 (Int.tmod (IntKind.u64.wrap (a1)) 4)) y186 t189 t193 t197 true))) = some true := by rw [if_pos rfl] at H; exact H
                                clear H
                                have H := H1
                                clear H1
                                replace H := Option.bind_eq_some_iff.mp H
                                obtain ⟨t203, A450, H⟩ := H
                                replace H : (if t203 = true then ((load_Same.f k2 t197 l0).bind fun t204 => (haulierlaw09_LoadZero.j2 k2 l0 (wrap64 (Int.tmod (IntKind.u64.wrap (a1)) 4)) y186 t189 t193 t197 (!t204))) else (haulierlaw09_LoadZero.j2 k2 l0 (wrap64 (Int.tmod (IntKind.u64.wrap (a1)) 4)) y186 t189 t193 t197 true)) = some true := H
                                have A45 := Aside0.mk A450
                                clear A450
                                by_cases c46 : t203 = true
                                · subst c46
                                  have H1 : ((load_Same.f k2 t197 l0).bind fun t204 => (haulierlaw09_LoadZero.j2 k2 l0 (wrap64 (Int.tmod (IntKind.u64.wrap (a1)) 4)) y186 t189 t193 t197 (!t204))) = some true := by rw [if_pos rfl] at H; exact H
                                  clear H
                                  have H := H1
                                  clear H1
                                  replace H := Option.bind_eq_some_iff.mp H
                                  obtain ⟨t204, A470, H⟩ := H
                                  replace H : (haulierlaw09_LoadZero.j2 k2 l0 (wrap64 (Int.tmod (IntKind.u64.wrap (a1)) 4)) y186 t189 t193 t197 (!t204)) = some true := H
                                  have A47 := Aside0.mk A470
                                  clear A470
                                  have H' := Aside0.mk H
                                  clear H
                                  obtain ⟨Ao48, co48, eo48⟩ := Kd.R_slice HO_7.out
                                  subst eo48
                                  go_wp2_with (first | (go_at_call 11; (with_reducible refine (load_Same.calls k2 _ _ t189 _ _ l0 true _ ?side1 ?side2 ?side3 ?side4 A43.out).mono ?_); (case side1 => repeat (first | exact (Kd.R_reads' HO_7.out).2.2 | (with_reducible refine Kd.C_alloc ?_ _) | (with_reducible refine Kd.C_drewN ?_ _) | (with_reducible refine Kd.C_drew ?_))); (case side2 => exact (Kd.R_reads' HO_7.out).2.1); (case side3 => repeat (first | exact (Kd.C_below HR0.out HB.out) | (with_reducible refine Kd.C_alloc ?_ _) | (with_reducible refine Kd.C_drewN ?_ _) | (with_reducible refine Kd.C_drew ?_))); (case side4 => exact HC0.out); rintro e w' ⟨rfl, ⟨nd, rfl⟩⟩; obtain ⟨Ao49, co49, eo49⟩ := Kd.R_slice HO_9.out; subst eo49) | (go_at_call 11; (with_reducible refine (load_Same.calls k2 _ _ t193 _ _ l0 true _ ?side1 ?side2 ?side3 ?side4 A45.out).mono ?_); (case side1 => repeat (first | exact (Kd.R_reads' HO_9.out).2.2 | (with_reducible refine Kd.C_alloc ?_ _) | (with_reducible refine Kd.C_drewN ?_ _) | (with_reducible refine Kd.C_drew ?_))); (case side2 => exact (Kd.R_reads' HO_9.out).2.1); (case side3 => repeat (first | exact (Kd.C_below HR0.out (by repeat (first | (with_reducible first | exact HB.out | apply below_alloc | apply pw_below_drewN | apply below_drew1) | exact HB.out))) | (with_reducible refine Kd.C_alloc ?_ _) | (with_reducible refine Kd.C_drewN ?_ _) | (with_reducible refine Kd.C_drew ?_))); (case side4 => exact HC0.out); rintro e w' ⟨rfl, ⟨nd, rfl⟩⟩; obtain ⟨Ao50, co50, eo50⟩ := Kd.R_slice HO_11.out; subst eo50) | (go_at_call 11; (with_reducible refine (load_Same.calls k2 _ _ t197 _ _ l0 t204 _ ?side1 ?side2 ?side3 ?side4 A47.out).mono ?_); (case side1 => repeat (first | exact (Kd.R_reads' HO_11.out).2.2 | (with_reducible refine Kd.C_alloc ?_ _) | (with_reducible refine Kd.C_drewN ?_ _) | (with_reducible refine Kd.C_drew ?_))); (case side2 => exact (Kd.R_reads' HO_11.out).2.1); (case side3 => repeat (first | exact (Kd.C_below HR0.out (by repeat (first | (with_reducible first | exact HB.out | apply below_alloc | apply pw_below_drewN | apply below_drew1) | exact HB.out))) | (with_reducible refine Kd.C_alloc ?_ _) | (with_reducible refine Kd.C_drewN ?_ _) | (with_reducible refine Kd.C_drew ?_))); (case side4 => exact HC0.out); rintro e w' ⟨rfl, ⟨nd, rfl⟩⟩))
                                  go_meet
                                  case rel => exact ⟨_, (!t204), (by first | rfl | (simp; done) | (simp [*]; done)), H', ⟨by have := HJ5.out; have := HK2.out; first | omega | exact Nat.le_refl _⟩, ⟨by (try simp only [hl5_2]); (with_reducible repeat (first | apply Kd.R_alloc | apply Kd.R_drewN | apply Kd.R_drew)); exact Kd.R_mono HO_6.out (fun _ hk => ⟨hk.2.1, ⟨hk.2.2.1, hk.2.2.2⟩⟩)⟩, ⟨by (try simp only [hl5_2]); (with_reducible repeat (first | apply Kd.R_alloc | apply Kd.R_drewN | apply Kd.R_drew)); exact Kd.R_mono HO_7.out (fun _ hk => ⟨hk.2.1, ⟨hk.2.2.1, hk.2.2.2⟩⟩)⟩, ⟨by (try simp only [hl5_2]); (with_reducible repeat (first | apply Kd.R_alloc | apply Kd.R_drewN | apply Kd.R_drew)); exact Kd.R_mono HO_9.out (fun _ hk => ⟨hk.2.1, ⟨hk.2.2.1, hk.2.2.2⟩⟩)⟩, ⟨by (try simp only [hl5_2]); (with_reducible repeat (first | apply Kd.R_alloc | apply Kd.R_drewN | apply Kd.R_drew)); exact Kd.R_mono HO_11.out (fun _ hk => ⟨hk.2.1, ⟨hk.2.2.1, hk.2.2.2⟩⟩)⟩, ⟨by repeat (first | (with_reducible first | exact HB.out | apply below_alloc | apply pw_below_drewN | apply below_drew1) | exact HB.out)⟩⟩
                                · replace c46 := Bool.eq_false_iff.mpr c46
                                  subst c46
                                  have H1 : (haulierlaw09_LoadZero.j2 k2 l0 (wrap64 (Int.tmod (IntKind.u64.wrap (a1)) 4)) y186 t189 t193 t197 true) = some true := by rw [if_neg (show ¬ (false = true) by decide)] at H; exact H
                                  clear H
                                  have H := H1
                                  clear H1
                                  have H' := Aside0.mk H
                                  clear H
                                  obtain ⟨Ao51, co51, eo51⟩ := Kd.R_slice HO_7.out
                                  subst eo51
                                  go_wp2_with (first | (go_at_call 11; (with_reducible refine (load_Same.calls k2 _ _ t189 _ _ l0 true _ ?side1 ?side2 ?side3 ?side4 A43.out).mono ?_); (case side1 => repeat (first | exact (Kd.R_reads' HO_7.out).2.2 | (with_reducible refine Kd.C_alloc ?_ _) | (with_reducible refine Kd.C_drewN ?_ _) | (with_reducible refine Kd.C_drew ?_))); (case side2 => exact (Kd.R_reads' HO_7.out).2.1); (case side3 => repeat (first | exact (Kd.C_below HR0.out HB.out) | (with_reducible refine Kd.C_alloc ?_ _) | (with_reducible refine Kd.C_drewN ?_ _) | (with_reducible refine Kd.C_drew ?_))); (case side4 => exact HC0.out); rintro e w' ⟨rfl, ⟨nd, rfl⟩⟩; obtain ⟨Ao52, co52, eo52⟩ := Kd.R_slice HO_9.out; subst eo52) | (go_at_call 11; (with_reducible refine (load_Same.calls k2 _ _ t193 _ _ l0 false _ ?side1 ?side2 ?side3 ?side4 A45.out).mono ?_); (case side1 => repeat (first | exact (Kd.R_reads' HO_9.out).2.2 | (with_reducible refine Kd.C_alloc ?_ _) | (with_reducible refine Kd.C_drewN ?_ _) | (with_reducible refine Kd.C_drew ?_))); (case side2 => exact (Kd.R_reads' HO_9.out).2.1); (case side3 => repeat (first | exact (Kd.C_below HR0.out (by repeat (first | (with_reducible first | exact HB.out | apply below_alloc | apply pw_below_drewN | apply below_drew1) | exact HB.out))) | (with_reducible refine Kd.C_alloc ?_ _) | (with_reducible refine Kd.C_drewN ?_ _) | (with_reducible refine Kd.C_drew ?_))); (case side4 => exact HC0.out); rintro e w' ⟨rfl, ⟨nd, rfl⟩⟩))
                                  go_meet
                                  case rel => exact ⟨_, (true), (by first | rfl | (simp; done) | (simp [*]; done)), H', ⟨by have := HJ5.out; have := HK2.out; first | omega | exact Nat.le_refl _⟩, ⟨by (try simp only [hl5_2]); (with_reducible repeat (first | apply Kd.R_alloc | apply Kd.R_drewN | apply Kd.R_drew)); exact Kd.R_mono HO_6.out (fun _ hk => ⟨hk.2.1, ⟨hk.2.2.1, hk.2.2.2⟩⟩)⟩, ⟨by (try simp only [hl5_2]); (with_reducible repeat (first | apply Kd.R_alloc | apply Kd.R_drewN | apply Kd.R_drew)); exact Kd.R_mono HO_7.out (fun _ hk => ⟨hk.2.1, ⟨hk.2.2.1, hk.2.2.2⟩⟩)⟩, ⟨by (try simp only [hl5_2]); (with_reducible repeat (first | apply Kd.R_alloc | apply Kd.R_drewN | apply Kd.R_drew)); exact Kd.R_mono HO_9.out (fun _ hk => ⟨hk.2.1, ⟨hk.2.2.1, hk.2.2.2⟩⟩)⟩, ⟨by (try simp only [hl5_2]); (with_reducible repeat (first | apply Kd.R_alloc | apply Kd.R_drewN | apply Kd.R_drew)); exact Kd.R_mono HO_11.out (fun _ hk => ⟨hk.2.1, ⟨hk.2.2.1, hk.2.2.2⟩⟩)⟩, ⟨by repeat (first | (with_reducible first | exact HB.out | apply below_alloc | apply pw_below_drewN | apply below_drew1) | exact HB.out)⟩⟩
                              · replace c44 := Bool.eq_false_iff.mpr c44
                                subst c44
                                have H1 : (haulierlaw09_LoadZero.j2 k2 l0 (wrap64 (Int.tmod (IntKind.u64.wrap (a1)) 4)) y186 t189 t193 t197 true) = some true := by rw [if_neg (show ¬ (false = true) by decide)] at H; exact H
                                clear H
                                have H := H1
                                clear H1
                                have H' := Aside0.mk H
                                clear H
                                obtain ⟨Ao53, co53, eo53⟩ := Kd.R_slice HO_7.out
                                subst eo53
                                go_wp2_with (first | (go_at_call 11; (with_reducible refine (load_Same.calls k2 _ _ t189 _ _ l0 false _ ?side1 ?side2 ?side3 ?side4 A43.out).mono ?_); (case side1 => repeat (first | exact (Kd.R_reads' HO_7.out).2.2 | (with_reducible refine Kd.C_alloc ?_ _) | (with_reducible refine Kd.C_drewN ?_ _) | (with_reducible refine Kd.C_drew ?_))); (case side2 => exact (Kd.R_reads' HO_7.out).2.1); (case side3 => repeat (first | exact (Kd.C_below HR0.out HB.out) | (with_reducible refine Kd.C_alloc ?_ _) | (with_reducible refine Kd.C_drewN ?_ _) | (with_reducible refine Kd.C_drew ?_))); (case side4 => exact HC0.out); rintro e w' ⟨rfl, ⟨nd, rfl⟩⟩))
                                go_meet
                                case rel => exact ⟨_, (true), (by first | rfl | (simp; done) | (simp [*]; done)), H', ⟨by have := HJ5.out; have := HK2.out; first | omega | exact Nat.le_refl _⟩, ⟨by (try simp only [hl5_2]); (with_reducible repeat (first | apply Kd.R_alloc | apply Kd.R_drewN | apply Kd.R_drew)); exact Kd.R_mono HO_6.out (fun _ hk => ⟨hk.2.1, ⟨hk.2.2.1, hk.2.2.2⟩⟩)⟩, ⟨by (try simp only [hl5_2]); (with_reducible repeat (first | apply Kd.R_alloc | apply Kd.R_drewN | apply Kd.R_drew)); exact Kd.R_mono HO_7.out (fun _ hk => ⟨hk.2.1, ⟨hk.2.2.1, hk.2.2.2⟩⟩)⟩, ⟨by (try simp only [hl5_2]); (with_reducible repeat (first | apply Kd.R_alloc | apply Kd.R_drewN | apply Kd.R_drew)); exact Kd.R_mono HO_9.out (fun _ hk => ⟨hk.2.1, ⟨hk.2.2.1, hk.2.2.2⟩⟩)⟩, ⟨by (try simp only [hl5_2]); (with_reducible repeat (first | apply Kd.R_alloc | apply Kd.R_drewN | apply Kd.R_drew)); exact Kd.R_mono HO_11.out (fun _ hk => ⟨hk.2.1, ⟨hk.2.2.1, hk.2.2.2⟩⟩)⟩, ⟨by repeat (first | (with_reducible first | exact HB.out | apply below_alloc | apply pw_below_drewN | apply below_drew1) | exact HB.out)⟩⟩
                            · rw [if_neg c42] at H
                              have c42b0 : (t198 == 0) = false := beq_eq_false_iff_ne.mpr c42
                              have c42b1 : (t198 != 0) = true := bne_iff_ne.mpr c42
                              have H' := Aside0.mk H
                              clear H
                              go_wp2
                              go_meet
                              case rel => exact ⟨_, (true), (by first | rfl | (simp; done) | (simp [*]; done)), H', ⟨by have := HJ5.out; have := HK2.out; first | omega | exact Nat.le_refl _⟩, ⟨by (try simp only [hl5_2]); (with_reducible repeat (first | apply Kd.R_alloc | apply Kd.R_drewN | apply Kd.R_drew)); exact Kd.R_mono HO_6.out (fun _ hk => ⟨hk.2.1, ⟨hk.2.2.1, hk.2.2.2⟩⟩)⟩, ⟨by (try simp only [hl5_2]); (with_reducible repeat (first | apply Kd.R_alloc | apply Kd.R_drewN | apply Kd.R_drew)); exact Kd.R_mono HO_7.out (fun _ hk => ⟨hk.2.1, ⟨hk.2.2.1, hk.2.2.2⟩⟩)⟩, ⟨by (try simp only [hl5_2]); (with_reducible repeat (first | apply Kd.R_alloc | apply Kd.R_drewN | apply Kd.R_drew)); exact Kd.R_mono HO_9.out (fun _ hk => ⟨hk.2.1, ⟨hk.2.2.1, hk.2.2.2⟩⟩)⟩, ⟨by (try simp only [hl5_2]); (with_reducible repeat (first | apply Kd.R_alloc | apply Kd.R_drewN | apply Kd.R_drew)); exact Kd.R_mono HO_11.out (fun _ hk => ⟨hk.2.1, ⟨hk.2.2.1, hk.2.2.2⟩⟩)⟩, ⟨by repeat (first | (with_reducible first | exact HB.out | apply below_alloc | apply pw_below_drewN | apply below_drew1) | exact HB.out)⟩⟩
                          · rw [if_neg c41] at H
                            have c41b0 : (t194 == 0) = false := beq_eq_false_iff_ne.mpr c41
                            have c41b1 : (t194 != 0) = true := bne_iff_ne.mpr c41
                            have H' := Aside0.mk H
                            clear H
                            go_wp2
                            go_meet
                            case rel => exact ⟨_, (true), (by first | rfl | (simp; done) | (simp [*]; done)), H', ⟨by have := HJ5.out; have := HK2.out; first | omega | exact Nat.le_refl _⟩, ⟨by (try simp only [hl5_2]); (with_reducible repeat (first | apply Kd.R_alloc | apply Kd.R_drewN | apply Kd.R_drew)); exact Kd.R_mono HO_6.out (fun _ hk => ⟨hk.2.1, ⟨hk.2.2.1, hk.2.2.2⟩⟩)⟩, ⟨by (try simp only [hl5_2]); (with_reducible repeat (first | apply Kd.R_alloc | apply Kd.R_drewN | apply Kd.R_drew)); exact Kd.R_mono HO_7.out (fun _ hk => ⟨hk.2.1, ⟨hk.2.2.1, hk.2.2.2⟩⟩)⟩, ⟨by (try simp only [hl5_2]); (with_reducible repeat (first | apply Kd.R_alloc | apply Kd.R_drewN | apply Kd.R_drew)); exact Kd.R_mono HO_9.out (fun _ hk => ⟨hk.2.1, ⟨hk.2.2.1, hk.2.2.2⟩⟩)⟩, ⟨by (try simp only [hl5_2]); (with_reducible repeat (first | apply Kd.R_alloc | apply Kd.R_drewN | apply Kd.R_drew)); exact Kd.R_mono HO_11.out (fun _ hk => ⟨hk.2.1, ⟨hk.2.2.1, hk.2.2.2⟩⟩)⟩, ⟨by repeat (first | (with_reducible first | exact HB.out | apply below_alloc | apply pw_below_drewN | apply below_drew1) | exact HB.out)⟩⟩
                        · rw [if_neg c40] at H
                          have c40b0 : (t190 == 0) = false := beq_eq_false_iff_ne.mpr c40
                          have c40b1 : (t190 != 0) = true := bne_iff_ne.mpr c40
                          (first | rw [c40b0] | (simp only [i64_w, i32_w]; rw [c40b0]) | skip)
                          have H' := Aside0.mk H
                          clear H
                          go_wp2
                          go_meet
                          case rel => exact ⟨_, (true), (by first | rfl | (simp; done) | (simp [*]; done)), H', ⟨by have := HJ5.out; have := HK2.out; first | omega | exact Nat.le_refl _⟩, ⟨by (try simp only [hl5_2]); (with_reducible repeat (first | apply Kd.R_alloc | apply Kd.R_drewN | apply Kd.R_drew)); exact Kd.R_mono HO_6.out (fun _ hk => ⟨hk.2.1, ⟨hk.2.2.1, hk.2.2.2⟩⟩)⟩, ⟨by (try simp only [hl5_2]); (with_reducible repeat (first | apply Kd.R_alloc | apply Kd.R_drewN | apply Kd.R_drew)); exact Kd.R_mono HO_7.out (fun _ hk => ⟨hk.2.1, ⟨hk.2.2.1, hk.2.2.2⟩⟩)⟩, ⟨by (try simp only [hl5_2]); (with_reducible repeat (first | apply Kd.R_alloc | apply Kd.R_drewN | apply Kd.R_drew)); exact Kd.R_mono HO_9.out (fun _ hk => ⟨hk.2.1, ⟨hk.2.2.1, hk.2.2.2⟩⟩)⟩, ⟨by (try simp only [hl5_2]); (with_reducible repeat (first | apply Kd.R_alloc | apply Kd.R_drewN | apply Kd.R_drew)); exact Kd.R_mono HO_11.out (fun _ hk => ⟨hk.2.1, ⟨hk.2.2.1, hk.2.2.2⟩⟩)⟩, ⟨by repeat (first | (with_reducible first | exact HB.out | apply below_alloc | apply pw_below_drewN | apply below_drew1) | exact HB.out)⟩⟩
                      case rest =>
                        clear HC39
                        try clear c1
                        try clear p2
                        try clear c3
                        try clear p3
                        try clear q3
                        try clear hx3
                        try clear hf3
                        try clear c4
                        try clear c6
                        try clear p6
                        try clear c7
                        try clear c8
                        try clear c10
                        try clear c10b0
                        try clear c10b1
                        try clear c12
                        try clear c13
                        try clear c14
                        try clear c16
                        try clear c16b0
                        try clear c16b1
                        try clear c17
                        try clear c18
                        try clear c33
                        try clear c33b0
                        try clear c34
                        try clear c34b0
                        try clear c35
                        try clear c35b0
                        try clear p36
                        try clear q36
                        try clear hx36
                        try clear hf36
                        try clear c40
                        try clear c40b0
                        try clear c40b1
                        try clear c41
                        try clear c41b0
                        try clear c41b1
                        try clear c42
                        try clear c42b0
                        try clear c42b1
                        try clear c44
                        try clear c46
                        try clear hx36_0
                        try clear p2
                        try clear p36
                        try clear p6
                        try clear q36
                        obtain ⟨kq, x96_38, rfl, HA, HJ38, HO_6, HO_7, HO_9, HO_11, HB⟩ := hcut
                        cases kq with
                        | zero => exact absurd HA.out (by simp [haulierlaw09_LoadZero.j2])
                        | succ kj38 =>
                          have H := HA.out
                          clear HA
                          simp only [haulierlaw09_LoadZero.j2] at H
                          by_cases c54 : x96_38 = true
                          · subst c54
                            have H1 : (some false) = some true := by rw [if_pos rfl] at H; exact H
                            clear H
                            have H := H1
                            clear H1
                            exact absurd H (by simp)
                          · replace c54 := Bool.eq_false_iff.mpr c54
                            subst c54
                            have H1 : (haulierlaw09_LoadZero.l1 kj38 l0 (wrap64 (Int.tmod (IntKind.u64.wrap (a1)) 4)) y186 t189 t193 t197 (t189.length : Int) 0) = some true := by rw [if_neg (show ¬ (false = true) by decide)] at H; exact H
                            clear H
                            have H := H1
                            clear H1
                            have H' := Aside0.mk H
                            clear H
                            obtain ⟨Ao55, co55, eo55⟩ := Kd.R_slice HO_7.out
                            subst eo55
                            go_wp2
                            go_loopg [99] kj38 (fun kq v99 w' => ∃ (x7_4 : List Int) (x9_4 : List Int) (x11_4 : List Int) (x99_4 : Int), v99 = .int .i64 x99_4 ∧ Aside0 (haulierlaw09_LoadZero.l1 kq l0 (wrap64 (Int.tmod (IntKind.u64.wrap (a1)) 4)) y186 x7_4 x9_4 x11_4 (t189.length : Int) x99_4 = some true) ∧ Aside0 (kq ≤ kj38) ∧ Aside0 (Kd.R (Kd.int .i64) 3 w' w.heap.size (fun k_ => some k_ ≠ ((.slice Ao55 t189.length co55) : Value).ownBlock ∧ some k_ ≠ (v195 : Value).ownBlock ∧ some k_ ≠ (v199 : Value).ownBlock) (.slice Ao28 y186.length co28) y186) ∧ Aside0 (Kd.R (Kd.int .i64) 3 w' w.heap.size (fun k_ => some k_ ≠ ((.slice Ao28 y186.length co28) : Value).ownBlock ∧ some k_ ≠ (v195 : Value).ownBlock ∧ some k_ ≠ (v199 : Value).ownBlock) (.slice Ao55 t189.length co55) x7_4) ∧ Aside0 (Kd.R (Kd.int .i64) 3 w' w.heap.size (fun k_ => some k_ ≠ ((.slice Ao28 y186.length co28) : Value).ownBlock ∧ some k_ ≠ ((.slice Ao55 t189.length co55) : Value).ownBlock ∧ some k_ ≠ (v199 : Value).ownBlock) v195 x9_4) ∧ Aside0 (Kd.R (Kd.int .i64) 3 w' w.heap.size (fun k_ => some k_ ≠ ((.slice Ao28 y186.length co28) : Value).ownBlock ∧ some k_ ≠ ((.slice Ao55 t189.length co55) : Value).ownBlock ∧ some k_ ≠ (v195 : Value).ownBlock) v199 x11_4) ∧ Aside0 (Below w.heap.size w w'))
                            case atStart => exact ⟨(t189), (t193), (t197), (0), (by first | rfl | (simp; done) | (simp [*]; done)), H', ⟨Nat.le_refl _⟩, ⟨by (try simp only [hl5_2]); (with_reducible repeat (first | apply Kd.R_alloc | apply Kd.R_drewN | apply Kd.R_drew)); exact HO_6.out⟩, ⟨by (try simp only [hl5_2]); (with_reducible repeat (first | apply Kd.R_alloc | apply Kd.R_drewN | apply Kd.R_drew)); exact HO_7.out⟩, ⟨by (try simp only [hl5_2]); (with_reducible repeat (first | apply Kd.R_alloc | apply Kd.R_drewN | apply Kd.R_drew)); exact HO_9.out⟩, ⟨by (try simp only [hl5_2]); (with_reducible repeat (first | apply Kd.R_alloc | apply Kd.R_drewN | apply Kd.R_drew)); exact HO_11.out⟩, ⟨by repeat (first | (with_reducible first | exact HB.out | apply below_alloc | apply pw_below_drewN | apply below_drew1) | exact HB.out)⟩⟩
                            case round =>
                              clear H'
                              try clear c1
                              try clear p2
                              try clear c3
                              try clear p3
                              try clear q3
                              try clear hx3
                              try clear hf3
                              try clear c4
                              try clear c5
                              try clear c6
                              try clear p6
                              try clear c7
                              try clear c8
                              try clear c10
                              try clear c10b0
                              try clear c10b1
                              try clear c12
                              try clear c13
                              try clear c14
                              try clear c16
                              try clear c16b0
                              try clear c16b1
                              try clear c17
                              try clear c18
                              try clear c33
                              try clear c33b0
                              try clear c34
                              try clear c34b0
                              try clear c35
                              try clear c35b0
                              try clear p36
                              try clear q36
                              try clear hx36
                              try clear hf36
                              try clear c40
                              try clear c40b0
                              try clear c40b1
                              try clear c41
                              try clear c41b0
                              try clear c41b1
                              try clear c42
                              try clear c42b0
                              try clear c42b1
                              try clear c44
                              try clear c46
                              try clear c54
                              try clear hx36_0
                              try clear p2
                              try clear p3
                              try clear p36
                              try clear p6
                              try clear q3
                              try clear q36
                              obtain ⟨x7_4, x9_4, x11_4, x99_4, rfl, HA, HK4, HO_6, HO_7, HO_9, HO_11, HB⟩ := hrel
                              have hl7_4 := (Kd.R_reads' HO_7.out).1
                              rw [hl7_4] at HO_7
                              (try simp only [hl7_4])
                              (try simp only [hl7_4] at HO_6)
                              (try simp only [hl7_4] at HO_9)
                              (try simp only [hl7_4] at HO_11)
                              cases gk with
                              | zero => exact absurd HA.out (by simp [haulierlaw09_LoadZero.l1])
                              | succ k4 =>
                                have H := HA.out
                                clear HA
                                simp only [haulierlaw09_LoadZero.l1] at H
                                by_cases c56 : x99_4 < (t189.length : Int)
                                · rw [if_pos c56] at H
                                  have c56b0 : decide (x99_4 < (t189.length : Int)) = true := decide_eq_true c56
                                  (try (have c56b0_hl5_2 := c56b0; simp only [hl5_2] at c56b0_hl5_2))
                                  (try (have c56b0_hl7_4 := c56b0; simp only [hl7_4] at c56b0_hl7_4))
                                  clear c56
                                  by_cases c57 : 0 ≤ x99_4
                                  · rw [if_pos c57] at H
                                    have c57b0 : decide (0 ≤ x99_4) = true := decide_eq_true c57
                                    clear c57
                                    by_cases c58 : x99_4 < (x7_4.length : Int)
                                    · rw [if_pos c58] at H
                                      have c58b0 : decide (x99_4 < (x7_4.length : Int)) = true := decide_eq_true c58
                                      (try (have c58b0_hl5_2 := c58b0; simp only [hl5_2] at c58b0_hl5_2))
                                      (try (have c58b0_hl7_4 := c58b0; simp only [hl7_4] at c58b0_hl7_4))
                                      clear c58
                                      obtain ⟨y205, hy205⟩ : ∃ y_ : List Int, y_ = (x7_4.set (x99_4 : Int).toNat (-1)) := ⟨_, rfl⟩
                                      replace H : (if x99_4 < (x9_4.length : Int) then (if x99_4 < (x11_4.length : Int) then (haulierlaw09_LoadZero.l1 k4 l0 (wrap64 (Int.tmod (IntKind.u64.wrap (a1)) 4)) y186 y205 (x9_4.set (x99_4 : Int).toNat (-2)) (x11_4.set (x99_4 : Int).toNat (-3)) (t189.length : Int) (wrap64 (x99_4 + 1))) else (none)) else (none)) = some true := by first | (rw [hy205]; with_reducible exact H) | (have H2_ := (Option.bind_some _ _).symm.trans H; rw [hy205]; with_reducible exact H2_) | (have H2_ := (Option.bind_some _ _).symm.trans H; with_reducible exact H2_) | with_reducible exact H | (rw [hy205]; exact H) | exact H
                                      have Ny205 := Aside0.mk hy205
                                      clear hy205
                                      by_cases c60 : x99_4 < (x9_4.length : Int)
                                      · rw [if_pos c60] at H
                                        have c60b0 : decide (x99_4 < (x9_4.length : Int)) = true := decide_eq_true c60
                                        (try (have c60b0_hl5_2 := c60b0; simp only [hl5_2] at c60b0_hl5_2))
                                        (try (have c60b0_hl7_4 := c60b0; simp only [hl7_4] at c60b0_hl7_4))
                                        clear c60
                                        obtain ⟨y206, hy206⟩ : ∃ y_ : List Int, y_ = (x9_4.set (x99_4 : Int).toNat (-2)) := ⟨_, rfl⟩
                                        replace H : (if x99_4 < (x11_4.length : Int) then (haulierlaw09_LoadZero.l1 k4 l0 (wrap64 (Int.tmod (IntKind.u64.wrap (a1)) 4)) y186 y205 y206 (x11_4.set (x99_4 : Int).toNat (-3)) (t189.length : Int) (wrap64 (x99_4 + 1))) else (none)) = some true := by first | (rw [hy206]; with_reducible exact H) | (have H2_ := (Option.bind_some _ _).symm.trans H; rw [hy206]; with_reducible exact H2_) | (have H2_ := (Option.bind_some _ _).symm.trans H; with_reducible exact H2_) | with_reducible exact H | (rw [hy206]; exact H) | exact H
                                        have Ny206 := Aside0.mk hy206
                                        clear hy206
                                        by_cases c62 : x99_4 < (x11_4.length : Int)
                                        · rw [if_pos c62] at H
                                          have c62b0 : decide (x99_4 < (x11_4.length : Int)) = true := decide_eq_true c62
                                          (try (have c62b0_hl5_2 := c62b0; simp only [hl5_2] at c62b0_hl5_2))
                                          (try (have c62b0_hl7_4 := c62b0; simp only [hl7_4] at c62b0_hl7_4))
                                          clear c62
                                          obtain ⟨y207, hy207⟩ : ∃ y_ : List Int, y_ = (x11_4.set (x99_4 : Int).toNat (-3)) := ⟨_, rfl⟩
                                          replace H : (haulierlaw09_LoadZero.l1 k4 l0 (wrap64 (Int.tmod (IntKind.u64.wrap (a1)) 4)) y186 y205 y206 y207 (t189.length : Int) (wrap64 (x99_4 + 1))) = some true := by first | (rw [hy207]; with_reducible exact H) | (have H2_ := (Option.bind_some _ _).symm.trans H; rw [hy207]; with_reducible exact H2_) | (have H2_ := (Option.bind_some _ _).symm.trans H; with_reducible exact H2_) | with_reducible exact H | (rw [hy207]; exact H) | exact H
                                          have Ny207 := Aside0.mk hy207
                                          clear hy207
                                          have H' := Aside0.mk H
                                          clear H
                                          have p59 : 0 ≤ (x99_4 : Int) := of_decide_eq_true (by first | (with_reducible assumption) | assumption)
                                          have q59 : (x99_4 : Int) < ((x7_4.length : Int) : Int) := of_decide_eq_true (by first | (with_reducible assumption) | assumption)
                                          obtain ⟨go59, co59, eo59, gb59, gl59, cl59, HG59⟩ := Kd.R_form HO_7.out (by omega)
                                          (first | cases eo59 | (injection eo59 with ea_ en_ ec_; (first | subst ea_ | (injection ea_ with ea_; subst ea_)); subst ec_; clear en_))
                                          have GB59 := Aside0.mk gb59
                                          have GG59 := Aside0.mk HG59
                                          clear gb59 gl59 HG59
                                          obtain ⟨hx59_0, hf59_0⟩ := Kd.R_celln 0 HO_7.out (x99_4 : Int) p59 q59
                                          replace p59 := eq_true p59
                                          replace q59 := eq_true q59
                                          have HP64 := Kd.R_putg HO_7.out (x99_4 : Int) (-1)
                                          go_wp2_with (first | ((with_reducible refine gate_store (t := 3) (p := 108) rfl ?_); refine store_event (t := 3) (p := 108) (v := ?vo_w65) (w1 := (wr.setCell ⟨go59, (x99_4 : Int).toNat, none⟩ (.int .i64 (-1)))) ?hg ?ho ?hn ?hr ?_; (case ho => rfl); (case hg => rfl); (case hn => rfl); (case hr => first | (go_simp; done) | (go_simp; rfl)); intro w65 hw; have hg : wr.grownBy w65 (some go59) := (by rw [hw]; exact HP64.2); have hp_ : Kd.R (Kd.int .i64) 3 w65 w.heap.size (fun k_ => some k_ ≠ (.slice Ao28 y186.length co28 : Value).ownBlock ∧ some k_ ≠ (v195 : Value).ownBlock ∧ some k_ ≠ (v199 : Value).ownBlock) (.slice (some ⟨go59, 0, none⟩) x7_4.length co55) y205 := (by rw [hw, Ny205.out]; exact HP64.1); clear HP64; have n0_ := Aside0.mk (Kd.R_after (v := (.slice (some ⟨go59, 0, none⟩) x7_4.length co55)) (v1 := (.slice (some ⟨go59, 0, none⟩) x7_4.length co55)) (ok := (fun k_ => some k_ ≠ (v195 : Value).ownBlock ∧ some k_ ≠ (v199 : Value).ownBlock)) (by (with_reducible repeat (first | apply Kd.R_alloc | apply Kd.R_drewN | apply Kd.R_drew)); exact Kd.R_mono HO_6.out (fun _ hk => ⟨⟨hk.2.1, hk.2.2⟩, hk.1⟩)) hg (.inl rfl)); have n1_ := Aside0.mk (hp_); have n2_ := Aside0.mk (Kd.R_after (v := (.slice (some ⟨go59, 0, none⟩) x7_4.length co55)) (v1 := (.slice (some ⟨go59, 0, none⟩) x7_4.length co55)) (ok := (fun k_ => some k_ ≠ (.slice Ao28 y186.length co28 : Value).ownBlock ∧ some k_ ≠ (v199 : Value).ownBlock)) (by (with_reducible repeat (first | apply Kd.R_alloc | apply Kd.R_drewN | apply Kd.R_drew)); exact Kd.R_mono HO_9.out (fun _ hk => ⟨⟨hk.1, hk.2.2⟩, hk.2.1⟩)) hg (.inl rfl)); have n3_ := Aside0.mk (Kd.R_after (v := (.slice (some ⟨go59, 0, none⟩) x7_4.length co55)) (v1 := (.slice (some ⟨go59, 0, none⟩) x7_4.length co55)) (ok := (fun k_ => some k_ ≠ (.slice Ao28 y186.length co28 : Value).ownBlock ∧ some k_ ≠ (v195 : Value).ownBlock)) (by (with_reducible repeat (first | apply Kd.R_alloc | apply Kd.R_drewN | apply Kd.R_drew)); exact Kd.R_mono HO_11.out (fun _ hk => ⟨⟨hk.1, hk.2.2⟩, hk.2.1⟩)) hg (.inl rfl)); have n4_ := Aside0.mk ((by rw [hw]; exact below_set (HB.out) GB59.out : Below w.heap.size w w65)); clear HO_6; clear HO_7; clear HO_9; clear HO_11; clear HB; have HO_6 := n0_; have HO_7 := n1_; have HO_9 := n2_; have HO_11 := n3_; have HB := n4_; clear n0_ n1_ n2_ n3_ n4_; clear hg hw hp_; have p61 : 0 ≤ (x99_4 : Int) := of_decide_eq_true (by first | (with_reducible assumption) | assumption); have q61 : (x99_4 : Int) < ((x9_4.length : Int) : Int) := of_decide_eq_true (by first | (with_reducible assumption) | assumption); obtain ⟨go61, co61, eo61, gb61, gl61, cl61, HG61⟩ := Kd.R_form HO_9.out (by omega); (first | cases eo61 | (injection eo61 with ea_ en_ ec_; (first | subst ea_ | (injection ea_ with ea_; subst ea_)); subst ec_; clear en_)); have GB61 := Aside0.mk gb61; have GG61 := Aside0.mk HG61; clear gb61 gl61 HG61; obtain ⟨hx61_0, hf61_0⟩ := Kd.R_celln 0 HO_9.out (x99_4 : Int) p61 q61; replace p61 := eq_true p61; replace q61 := eq_true q61; have n_ := Aside0.mk (Kd.R_mono (ok' := (fun k_ => some k_ ≠ (.slice Ao28 y186.length co28 : Value).ownBlock ∧ some k_ ≠ (.slice (some ⟨go59, 0, none⟩) x7_4.length co55 : Value).ownBlock ∧ some k_ ≠ (v199 : Value).ownBlock)) HO_9.out (fun k_ hk => ⟨hk.1.1, ⟨hk.2, hk.1.2⟩⟩)); clear HO_9; have HO_9 := n_; clear n_; obtain ⟨hy66_, hz66_⟩ := Kd.R_celln 0 HO_9.out (x99_4 : Int) (of_decide_eq_true (by first | (with_reducible assumption) | assumption)) (of_decide_eq_true (by first | (with_reducible assumption) | assumption)); have HP66 := Kd.R_putg HO_9.out (x99_4 : Int) (-2)) | ((with_reducible refine gate_store (t := 3) (p := 109) rfl ?_); refine store_event (t := 3) (p := 109) (v := ?vo_w67) (w1 := (w65.setCell ⟨go61, (x99_4 : Int).toNat, none⟩ (.int .i64 (-2)))) ?hg ?ho ?hn ?hr ?_; (case ho => rfl); (case hg => rfl); (case hn => rfl); (case hr => first | (go_simp; done) | (go_simp; rfl)); intro w67 hw; have hg : w65.grownBy w67 (some go61) := (by rw [hw]; exact HP66.2); have hp_ : Kd.R (Kd.int .i64) 3 w67 w.heap.size (fun k_ => some k_ ≠ (.slice Ao28 y186.length co28 : Value).ownBlock ∧ some k_ ≠ (.slice (some ⟨go59, 0, none⟩) x7_4.length co55 : Value).ownBlock ∧ some k_ ≠ (v199 : Value).ownBlock) (.slice (some ⟨go61, 0, none⟩) x9_4.length co61) y206 := (by rw [hw, Ny206.out]; exact HP66.1); clear HP66; have n0_ := Aside0.mk (Kd.R_after (v := (.slice (some ⟨go61, 0, none⟩) x9_4.length co61)) (v1 := (.slice (some ⟨go61, 0, none⟩) x9_4.length co61)) (ok := (fun k_ => some k_ ≠ (.slice (some ⟨go59, 0, none⟩) x7_4.length co55 : Value).ownBlock ∧ some k_ ≠ (v199 : Value).ownBlock)) (by (with_reducible repeat (first | apply Kd.R_alloc | apply Kd.R_drewN | apply Kd.R_drew)); exact Kd.R_mono HO_6.out (fun _ hk => ⟨⟨hk.2, hk.1.2⟩, hk.1.1⟩)) hg (.inl rfl)); have n1_ := Aside0.mk (Kd.R_after (v := (.slice (some ⟨go61, 0, none⟩) x9_4.length co61)) (v1 := (.slice (some ⟨go61, 0, none⟩) x9_4.length co61)) (ok := (fun k_ => some k_ ≠ (.slice Ao28 y186.length co28 : Value).ownBlock ∧ some k_ ≠ (v199 : Value).ownBlock)) (by (with_reducible repeat (first | apply Kd.R_alloc | apply Kd.R_drewN | apply Kd.R_drew)); exact Kd.R_mono HO_7.out (fun _ hk => ⟨⟨hk.1, hk.2.2⟩, hk.2.1⟩)) hg (.inl rfl)); have n2_ := Aside0.mk (hp_); have n3_ := Aside0.mk (Kd.R_after (v := (.slice (some ⟨go61, 0, none⟩) x9_4.length co61)) (v1 := (.slice (some ⟨go61, 0, none⟩) x9_4.length co61)) (ok := (fun k_ => some k_ ≠ (.slice Ao28 y186.length co28 : Value).ownBlock ∧ some k_ ≠ (.slice (some ⟨go59, 0, none⟩) x7_4.length co55 : Value).ownBlock)) (by (with_reducible repeat (first | apply Kd.R_alloc | apply Kd.R_drewN | apply Kd.R_drew)); exact Kd.R_mono HO_11.out (fun _ hk => ⟨⟨hk.1.1, hk.2⟩, hk.1.2⟩)) hg (.inl rfl)); have n4_ := Aside0.mk ((by rw [hw]; exact below_set (HB.out) GB61.out : Below w.heap.size w w67)); clear HO_6; clear HO_7; clear HO_9; clear HO_11; clear HB; have HO_6 := n0_; have HO_7 := n1_; have HO_9 := n2_; have HO_11 := n3_; have HB := n4_; clear n0_ n1_ n2_ n3_ n4_; clear hg hw hp_; have p63 : 0 ≤ (x99_4 : Int) := of_decide_eq_true (by first | (with_reducible assumption) | assumption); have q63 : (x99_4 : Int) < ((x11_4.length : Int) : Int) := of_decide_eq_true (by first | (with_reducible assumption) | assumption); obtain ⟨go63, co63, eo63, gb63, gl63, cl63, HG63⟩ := Kd.R_form HO_11.out (by omega); (first | cases eo63 | (injection eo63 with ea_ en_ ec_; (first | subst ea_ | (injection ea_ with ea_; subst ea_)); subst ec_; clear en_)); have GB63 := Aside0.mk gb63; have GG63 := Aside0.mk HG63; clear gb63 gl63 HG63; obtain ⟨hx63_0, hf63_0⟩ := Kd.R_celln 0 HO_11.out (x99_4 : Int) p63 q63; replace p63 := eq_true p63; replace q63 := eq_true q63; have n_ := Aside0.mk (Kd.R_mono (ok' := (fun k_ => some k_ ≠ (.slice Ao28 y186.length co28 : Value).ownBlock ∧ some k_ ≠ (.slice (some ⟨go59, 0, none⟩) x7_4.length co55 : Value).ownBlock ∧ some k_ ≠ (.slice (some ⟨go61, 0, none⟩) x9_4.length co61 : Value).ownBlock)) HO_11.out (fun k_ hk => ⟨hk.1.1, ⟨hk.1.2, hk.2⟩⟩)); clear HO_11; have HO_11 := n_; clear n_; obtain ⟨hy68_, hz68_⟩ := Kd.R_celln 0 HO_11.out (x99_4 : Int) (of_decide_eq_true (by first | (with_reducible assumption) | assumption)) (of_decide_eq_true (by first | (with_reducible assumption) | assumption)); have HP68 := Kd.R_putg HO_11.out (x99_4 : Int) (-3)) | ((with_reducible refine gate_store (t := 3) (p := 110) rfl ?_); refine store_event (t := 3) (p := 110) (v := ?vo_w69) (w1 := (w67.setCell ⟨go63, (x99_4 : Int).toNat, none⟩ (.int .i64 (-3)))) ?hg ?ho ?hn ?hr ?_; (case ho => rfl); (case hg => rfl); (case hn => rfl); (case hr => first | (go_simp; done) | (go_simp; rfl)); intro w69 hw; have hg : w67.grownBy w69 (some go63) := (by rw [hw]; exact HP68.2); have hp_ : Kd.R (Kd.int .i64) 3 w69 w.heap.size (fun k_ => some k_ ≠ (.slice Ao28 y186.length co28 : Value).ownBlock ∧ some k_ ≠ (.slice (some ⟨go59, 0, none⟩) x7_4.length co55 : Value).ownBlock ∧ some k_ ≠ (.slice (some ⟨go61, 0, none⟩) x9_4.length co61 : Value).ownBlock) (.slice (some ⟨go63, 0, none⟩) x11_4.length co63) y207 := (by rw [hw, Ny207.out]; exact HP68.1); clear HP68; have n0_ := Aside0.mk (Kd.R_after (v := (.slice (some ⟨go63, 0, none⟩) x11_4.length co63)) (v1 := (.slice (some ⟨go63, 0, none⟩) x11_4.length co63)) (ok := (fun k_ => some k_ ≠ (.slice (some ⟨go59, 0, none⟩) x7_4.length co55 : Value).ownBlock ∧ some k_ ≠ (.slice (some ⟨go61, 0, none⟩) x9_4.length co61 : Value).ownBlock)) (by (with_reducible repeat (first | apply Kd.R_alloc | apply Kd.R_drewN | apply Kd.R_drew)); exact Kd.R_mono HO_6.out (fun _ hk => ⟨⟨hk.1.1, hk.2⟩, hk.1.2⟩)) hg (.inl rfl)); have n1_ := Aside0.mk (Kd.R_after (v := (.slice (some ⟨go63, 0, none⟩) x11_4.length co63)) (v1 := (.slice (some ⟨go63, 0, none⟩) x11_4.length co63)) (ok := (fun k_ => some k_ ≠ (.slice Ao28 y186.length co28 : Value).ownBlock ∧ some k_ ≠ (.slice (some ⟨go61, 0, none⟩) x9_4.length co61 : Value).ownBlock)) (by (with_reducible repeat (first | apply Kd.R_alloc | apply Kd.R_drewN | apply Kd.R_drew)); exact Kd.R_mono HO_7.out (fun _ hk => ⟨⟨hk.1.1, hk.2⟩, hk.1.2⟩)) hg (.inl rfl)); have n2_ := Aside0.mk (Kd.R_after (v := (.slice (some ⟨go63, 0, none⟩) x11_4.length co63)) (v1 := (.slice (some ⟨go63, 0, none⟩) x11_4.length co63)) (ok := (fun k_ => some k_ ≠ (.slice Ao28 y186.length co28 : Value).ownBlock ∧ some k_ ≠ (.slice (some ⟨go59, 0, none⟩) x7_4.length co55 : Value).ownBlock)) (by (with_reducible repeat (first | apply Kd.R_alloc | apply Kd.R_drewN | apply Kd.R_drew)); exact Kd.R_mono HO_9.out (fun _ hk => ⟨⟨hk.1, hk.2.1⟩, hk.2.2⟩)) hg (.inl rfl)); have n3_ := Aside0.mk (hp_); have n4_ := Aside0.mk ((by rw [hw]; exact below_set (HB.out) GB63.out : Below w.heap.size w w69)); clear HO_6; clear HO_7; clear HO_9; clear HO_11; clear HB; have HO_6 := n0_; have HO_7 := n1_; have HO_9 := n2_; have HO_11 := n3_; have HB := n4_; clear n0_ n1_ n2_ n3_ n4_; clear hg hw hp_))
                                          (try simp only [← hl7_4])
                                          go_roundg k4
                                          case measure => have := HJ5.out; have := HK2.out; have := HJ38.out; have := HK4.out; omega
                                          case rel => exact ⟨(y205), (y206), (y207), (wrap64 (x99_4 + 1)), (by first | rfl | (simp; done) | (simp [*]; done)), H', ⟨by have := HJ5.out; have := HK2.out; have := HJ38.out; have := HK4.out; omega⟩, ⟨by (try simp only [hl5_2]); (try simp only [hl7_4]); (with_reducible repeat (first | apply Kd.R_alloc | apply Kd.R_drewN | apply Kd.R_drew)); exact Kd.R_mono HO_6.out (fun _ hk => ⟨hk.1.1, ⟨hk.1.2, hk.2⟩⟩)⟩, ⟨by (try simp only [hl5_2]); (try simp only [hl7_4]); (with_reducible repeat (first | apply Kd.R_alloc | apply Kd.R_drewN | apply Kd.R_drew)); exact Kd.R_mono HO_7.out (fun _ hk => ⟨hk.1.1, ⟨hk.1.2, hk.2⟩⟩)⟩, ⟨by (try simp only [hl5_2]); (try simp only [hl7_4]); (with_reducible repeat (first | apply Kd.R_alloc | apply Kd.R_drewN | apply Kd.R_drew)); exact Kd.R_mono HO_9.out (fun _ hk => ⟨hk.1.1, ⟨hk.1.2, hk.2⟩⟩)⟩, ⟨by (try simp only [hl5_2]); (try simp only [hl7_4]); (with_reducible repeat (first | apply Kd.R_alloc | apply Kd.R_drewN | apply Kd.R_drew)); exact HO_11.out⟩, ⟨by repeat (first | (with_reducible first | exact HB.out | apply below_alloc | apply pw_below_drewN | apply below_drew1) | exact HB.out)⟩⟩
                                        · rw [if_neg c62] at H
                                          exact absurd H (by simp)
                                      · rw [if_neg c60] at H
                                        exact absurd H (by simp)
                                    · rw [if_neg c58] at H
                                      exact absurd H (by simp)
                                  · rw [if_neg c57] at H
                                    exact absurd H (by simp)
                                · rw [if_neg c56] at H
                                  have c56b0 : decide (x99_4 < (t189.length : Int)) = false := decide_eq_false c56
                                  (try (have c56b0_hl5_2 := c56b0; simp only [hl5_2] at c56b0_hl5_2))
                                  (try (have c56b0_hl7_4 := c56b0; simp only [hl7_4] at c56b0_hl7_4))
                                  clear c56
                                  replace H := Option.bind_eq_some_iff.mp H
                                  obtain ⟨t208, A700, H⟩ := H
                                  replace H : (if t208 = true then ((load_Zero.f (wrap64 (Int.tmod (IntKind.u64.wrap (a1)) 4))).bind fun t209 => (if 0 ≤ (wrap64 (Int.tmod (IntKind.u64.wrap (a1)) 4)) then (if ((wrap64 (Int.tmod (IntKind.u64.wrap (a1)) 4)) : Int).toNat ≤ 35184372088832 then ((load_Same.f k4 t209 (List.replicate ((wrap64 (Int.tmod (IntKind.u64.wrap (a1)) 4)) : Int).toNat 0)).bind fun t215 => (some t215)) else (none)) else (none))) else (some false)) = some true := H
                                  have A70 := Aside0.mk A700
                                  clear A700
                                  by_cases c71 : t208 = true
                                  · subst c71
                                    have H1 : ((load_Zero.f (wrap64 (Int.tmod (IntKind.u64.wrap (a1)) 4))).bind fun t209 => (if 0 ≤ (wrap64 (Int.tmod (IntKind.u64.wrap (a1)) 4)) then (if ((wrap64 (Int.tmod (IntKind.u64.wrap (a1)) 4)) : Int).toNat ≤ 35184372088832 then ((load_Same.f k4 t209 (List.replicate ((wrap64 (Int.tmod (IntKind.u64.wrap (a1)) 4)) : Int).toNat 0)).bind fun t215 => (some t215)) else (none)) else (none))) = some true := by rw [if_pos rfl] at H; exact H
                                    clear H
                                    have H := H1
                                    clear H1
                                    replace H := Option.bind_eq_some_iff.mp H
                                    obtain ⟨t209, A720, H⟩ := H
                                    replace H : (if 0 ≤ (wrap64 (Int.tmod (IntKind.u64.wrap (a1)) 4)) then (if ((wrap64 (Int.tmod (IntKind.u64.wrap (a1)) 4)) : Int).toNat ≤ 35184372088832 then ((load_Same.f k4 t209 (List.replicate ((wrap64 (Int.tmod (IntKind.u64.wrap (a1)) 4)) : Int).toNat 0)).bind fun t215 => (some t215)) else (none)) else (none)) = some true := H
                                    have A72 := Aside0.mk A720
                                    clear A720
                                    obtain ⟨ji73, hji73⟩ : ∃ j_ : Int, (wrap64 (Int.tmod (IntKind.u64.wrap (a1)) 4)) = j_ := ⟨_, rfl⟩
                                    replace H : (if 0 ≤ (ji73) then (if ((ji73) : Int).toNat ≤ 35184372088832 then ((load_Same.f k4 t209 (List.replicate ((ji73) : Int).toNat 0)).bind fun t215 => (some t215)) else (none)) else (none)) = some true := by first | (rw [hji73] at H; exact H) | (simp only [hji73] at H ⊢; exact H)
                                    (try rw [hji73] at A70)
                                    (try rw [hji73] at A72)
                                    have hji73w : (IntKind.i64.wrap (Int.tmod (IntKind.u64.wrap (a1)) 4)) = ji73 := (i64_w _).trans hji73
                                    by_cases c74 : 0 ≤ (ji73)
                                    · rw [if_pos c74] at H
                                      have c74b0 := eq_true c74
                                      have c74b1 : decide (0 ≤ (ji73)) = true := decide_eq_true c74
                                      clear c74
                                      by_cases c75 : ((ji73) : Int).toNat ≤ 35184372088832
                                      · rw [if_pos c75] at H
                                        have c75b0 := eq_true c75
                                        have c75b1 : decide (((ji73) : Int).toNat ≤ 35184372088832) = true := decide_eq_true c75
                                        clear c75
                                        obtain ⟨y212, hy212⟩ : ∃ y_ : List Int, y_ = (List.replicate ((ji73) : Int).toNat 0) := ⟨_, rfl⟩
                                        replace H : ((load_Same.f k4 t209 y212).bind fun t215 => (some t215)) = some true := by first | (rw [hy212]; with_reducible exact H) | (have H2_ := (Option.bind_some _ _).symm.trans H; rw [hy212]; with_reducible exact H2_) | (have H2_ := (Option.bind_some _ _).symm.trans H; with_reducible exact H2_) | with_reducible exact H | (rw [hy212]; exact H) | exact H
                                        have Ny212 := Aside0.mk hy212
                                        clear hy212
                                        replace H := Option.bind_eq_some_iff.mp H
                                        obtain ⟨t215, A760, H⟩ := H
                                        replace H : (some t215) = some true := H
                                        have A76 := Aside0.mk A760
                                        clear A760
                                        have H0 := Aside0.mk (Option.some.inj H)
                                        clear H
                                        try go_wp2
                                        have n0_ := Aside0.mk (Kd.R_drew HO_6.out)
                                        have n1_ := Aside0.mk (Kd.R_drew HO_7.out)
                                        have n2_ := Aside0.mk (Kd.R_drew HO_9.out)
                                        have n3_ := Aside0.mk (Kd.R_drew HO_11.out)
                                        have n4_ := Aside0.mk (below_drew1 HB.out)
                                        clear HO_6
                                        clear HO_7
                                        clear HO_9
                                        clear HO_11
                                        clear HB
                                        have HO_6 := n0_
                                        have HO_7 := n1_
                                        have HO_9 := n2_
                                        have HO_11 := n3_
                                        have HB := n4_
                                        clear n0_ n1_ n2_ n3_ n4_
                                        refine start_ (n := 11) (S := fun w' => True) (ds := []) #[false, false, false, false, false, false, false, false, false, false, false] (by kernel_rfl) rfl rfl trivial (fun hHeld => ?_); refine with_tabW haulierlaw09_LoadZero.tab25 haulierlaw09_LoadZero.bits25 (fun HT_ HW_ => ?_)
                                        generalize wr.drew = w77 at HO_6 HO_7 HO_9 HO_11 HB hHeld ⊢
                                        refine pure_ (i := 0) (N := some 112) (v := ?_) (a' := ?_) #[true, false, false, false, false, false, false, false, false, false, false] rfl rfl (any_of HT_.out (by kernel_rfl)) (fun _ _ _ h => h) (Or.inl ⟨by rfl, ?_⟩) ?_ ?_
                                        rotate_left
                                        · intro w'
                                          go_simp
                                          with_reducible rfl
                                        rotate_left
                                        · simp only [Act.put, List.setIfInBounds_toArray, List.set_cons_zero, List.set_cons_succ, i64_w, i32_w]
                                          rfl
                                        refine pure_ (i := 1) (N := some 113) (v := ?_) (a' := ?_) #[true, true, false, false, false, false, false, false, false, false, false] rfl rfl (any_of HT_.out (by kernel_rfl)) (fun _ _ _ h => h) (Or.inl ⟨by rfl, ?_⟩) ?_ ?_
                                        rotate_left
                                        · intro w'
                                          go_simp
                                          with_reducible rfl
                                        rotate_left
                                        · simp only [Act.put, List.setIfInBounds_toArray, List.set_cons_zero, List.set_cons_succ, i64_w, i32_w]
                                          rfl
                                        refine one_ (i := 2) (N := some 114) #[true, true, true, false, false, false, false, false, false, false, false] rfl rfl (one_of HT_.out (by kernel_rfl)) (by decide) (fun K hK => ?_)
                                        refine goes_ Try.func11 (by kernel_rfl) rfl #[.slice Ao28 y186.length co28, .slice A0 l0.length c0] (by rfl) rfl rfl (by (try simp only [List.map_toArray, List.map_cons, List.map_nil]); first | done | rfl | (simp only [List.length_drop, List.length_take]; rfl)) ?_
                                        with_reducible refine (load_Same.calls k4 _ _ y186 _ _ l0 true _ ?side1 ?side2 ?side3 ?side4 A70.out).mono ?_
                                        (case side1 => repeat (first | exact (Kd.R_reads' HO_6.out).2.2 | (with_reducible refine Kd.C_alloc ?_ _) | (with_reducible refine Kd.C_drewN ?_ _) | (with_reducible refine Kd.C_drew ?_)))
                                        (case side2 => exact (Kd.R_reads' HO_6.out).2.1)
                                        (case side3 => repeat (first | exact (Kd.C_below HR0.out HB.out) | (with_reducible refine Kd.C_alloc ?_ _) | (with_reducible refine Kd.C_drewN ?_ _) | (with_reducible refine Kd.C_drew ?_)))
                                        (case side4 => exact HC0.out)
                                        rintro e w' ⟨rfl, ⟨nd, rfl⟩⟩
                                        refine ⟨_, rfl, ?_⟩
                                        refine hK.out _ _ trivial (fun hHeld => ?_)
                                        clear hK K
                                        refine norm_ (a' := ?_) ?_ ?_
                                        rotate_left
                                        · show Act.put _ (some 114) _ = _
                                          simp only [Act.put, List.setIfInBounds_toArray, List.set_cons_zero, List.set_cons_succ, i64_w, i32_w]
                                          rfl
                                        refine pure_ (i := 3) (N := some 115) (v := ?_) (a' := ?_) #[true, true, true, true, false, false, false, false, false, false, false] rfl rfl (any_of HT_.out (by kernel_rfl)) (fun _ _ _ h => h) (Or.inl ⟨by rfl, ?_⟩) ?_ ?_
                                        rotate_left
                                        · intro w'
                                          go_simp
                                          with_reducible rfl
                                        rotate_left
                                        · simp only [Act.put, List.setIfInBounds_toArray, List.set_cons_zero, List.set_cons_succ, i64_w, i32_w]
                                          rfl
                                        refine pure_ (i := 4) (N := some 116) (v := ?_) (a' := ?_) #[true, true, true, true, true, false, false, false, false, false, false] rfl rfl (any_of HT_.out (by kernel_rfl)) (fun _ _ _ h => h) (Or.inl ⟨by rfl, ?_⟩) ?_ ?_
                                        rotate_left
                                        · intro w'
                                          go_simp
                                          with_reducible rfl
                                        rotate_left
                                        · simp only [Act.put, List.setIfInBounds_toArray, List.set_cons_zero, List.set_cons_succ, i64_w, i32_w]
                                          rfl
                                        refine pure_ (i := 6) (N := some 118) (v := ?_) (a' := ?_) #[true, true, true, true, true, false, true, false, false, false, false] rfl rfl (any_of HT_.out (by kernel_rfl)) (fun _ _ _ h => h) (Or.inl ⟨by rfl, ?_⟩) ?_ ?_
                                        rotate_left
                                        · intro w'
                                          go_simp
                                          with_reducible rfl
                                        rotate_left
                                        · simp only [Act.put, List.setIfInBounds_toArray, List.set_cons_zero, List.set_cons_succ, i64_w, i32_w]
                                          rfl
                                        refine join_ (σ := Value × Value) 3 #[true, true, true, true, true, true, true, true, false, false, false] (fun s_ => [(117, s_.1), (119, s_.2)]) (fun s_ w' => (Kd.R (Kd.int .i64) 3 w' w.heap.size (fun k_ => some k_ ≠ (s_.2 : Value).ownBlock ∧ some k_ ≠ (v199 : Value).ownBlock ∧ some k_ ≠ (.slice Ao28 y186.length co28 : Value).ownBlock ∧ some k_ ≠ (.slice Ao55 x7_4.length co55 : Value).ownBlock ∧ some k_ ≠ (v195 : Value).ownBlock) s_.1 t209) ∧ (Kd.R (Kd.int .i64) 3 w' w.heap.size (fun k_ => some k_ ≠ (s_.1 : Value).ownBlock ∧ some k_ ≠ (v199 : Value).ownBlock ∧ some k_ ≠ (.slice Ao28 y186.length co28 : Value).ownBlock ∧ some k_ ≠ (.slice Ao55 x7_4.length co55 : Value).ownBlock ∧ some k_ ≠ (v195 : Value).ownBlock) s_.2 y212) ∧ (Kd.R (Kd.int .i64) 3 w' w.heap.size (fun k_ => some k_ ≠ (s_.1 : Value).ownBlock ∧ some k_ ≠ (s_.2 : Value).ownBlock ∧ some k_ ≠ (.slice Ao28 y186.length co28 : Value).ownBlock ∧ some k_ ≠ (.slice Ao55 x7_4.length co55 : Value).ownBlock ∧ some k_ ≠ (v195 : Value).ownBlock) v199 x11_4) ∧ (Kd.R (Kd.int .i64) 3 w' w.heap.size (fun k_ => some k_ ≠ (s_.1 : Value).ownBlock ∧ some k_ ≠ (s_.2 : Value).ownBlock ∧ some k_ ≠ (v199 : Value).ownBlock ∧ some k_ ≠ (.slice Ao55 x7_4.length co55 : Value).ownBlock ∧ some k_ ≠ (v195 : Value).ownBlock) (.slice Ao28 y186.length co28) y186) ∧ (Kd.R (Kd.int .i64) 3 w' w.heap.size (fun k_ => some k_ ≠ (s_.1 : Value).ownBlock ∧ some k_ ≠ (s_.2 : Value).ownBlock ∧ some k_ ≠ (v199 : Value).ownBlock ∧ some k_ ≠ (.slice Ao28 y186.length co28 : Value).ownBlock ∧ some k_ ≠ (v195 : Value).ownBlock) (.slice Ao55 x7_4.length co55) x7_4) ∧ (Kd.R (Kd.int .i64) 3 w' w.heap.size (fun k_ => some k_ ≠ (s_.1 : Value).ownBlock ∧ some k_ ≠ (s_.2 : Value).ownBlock ∧ some k_ ≠ (v199 : Value).ownBlock ∧ some k_ ≠ (.slice Ao28 y186.length co28 : Value).ownBlock ∧ some k_ ≠ (.slice Ao55 x7_4.length co55 : Value).ownBlock) v195 x9_4) ∧ (Below w.heap.size w w')) ?_ ?_
                                        rotate_left
                                        · intro hCont
                                          refine two_ (i := 5) (j := 7) (Ni := some 117) (Nj := some 119) #[true, true, true, true, true, true, true, false, false, false, false] #[true, true, true, true, true, false, true, true, false, false, false] rfl rfl rfl rfl (two_of HT_.out (by kernel_rfl)) (by decide) (by decide) (fun K hK => ?_) (fun K hK => ?_)
                                          · skip
                                            refine goes_ Try.func17 (by kernel_rfl) rfl #[.int .i64 (ji73)] (by rfl) rfl rfl (by (try simp only [List.map_toArray, List.map_cons, List.map_nil]); first | done | (simp only [hji73]; rfl) | rfl | (simp only [List.length_drop, List.length_take]; rfl)) ?_
                                            with_reducible refine (load_Zero.calls (ji73) t209 _ A72.out).mono ?_
                                            rintro e w78 ⟨v210, rfl, ho0, hb⟩
                                            refine ⟨_, rfl, ?_⟩
                                            have n0_ := Aside0.mk (Kd.R_elder' (by (with_reducible repeat (first | apply Kd.R_alloc | apply Kd.R_drewN | apply Kd.R_drew)); exact HO_6.out) (Kd.R_base ho0) hb)
                                            have n1_ := Aside0.mk (Kd.R_elder' (by (with_reducible repeat (first | apply Kd.R_alloc | apply Kd.R_drewN | apply Kd.R_drew)); exact HO_7.out) (Kd.R_base ho0) hb)
                                            have n2_ := Aside0.mk (Kd.R_elder' (by (with_reducible repeat (first | apply Kd.R_alloc | apply Kd.R_drewN | apply Kd.R_drew)); exact HO_9.out) (Kd.R_base ho0) hb)
                                            have n3_ := Aside0.mk (Kd.R_elder' (by (with_reducible repeat (first | apply Kd.R_alloc | apply Kd.R_drewN | apply Kd.R_drew)); exact HO_11.out) (Kd.R_base ho0) hb)
                                            have n4_ := Aside0.mk (Kd.R_lower (Kd.R_new' (Kd.R_new' (Kd.R_new' (Kd.R_new' ho0 (Kd.R_lt (by (with_reducible repeat (first | apply Kd.R_alloc | apply Kd.R_drewN | apply Kd.R_drew)); exact HO_6.out))) (Kd.R_lt (by (with_reducible repeat (first | apply Kd.R_alloc | apply Kd.R_drewN | apply Kd.R_drew)); exact HO_7.out))) (Kd.R_lt (by (with_reducible repeat (first | apply Kd.R_alloc | apply Kd.R_drewN | apply Kd.R_drew)); exact HO_9.out))) (Kd.R_lt (by (with_reducible repeat (first | apply Kd.R_alloc | apply Kd.R_drewN | apply Kd.R_drew)); exact HO_11.out))) (below_size (by repeat (first | (with_reducible first | exact HB.out | apply below_alloc | apply pw_below_drewN | apply below_drew1) | exact HB.out))))
                                            have n5_ := Aside0.mk (below_step (by repeat (first | (with_reducible first | exact HB.out | apply below_alloc | apply pw_below_drewN | apply below_drew1) | exact HB.out)) hb)
                                            clear HO_6
                                            clear HO_7
                                            clear HO_9
                                            clear HO_11
                                            clear HB
                                            have HO_6 := n0_
                                            have HO_7 := n1_
                                            have HO_9 := n2_
                                            have HO_11 := n3_
                                            have HO211 := n4_
                                            have HB := n5_
                                            clear n0_ n1_ n2_ n3_ n4_ n5_
                                            (try clear hb)
                                            (try clear hb2)
                                            (try clear hk)
                                            (try clear hi)
                                            (try clear ho0)
                                            refine hK.out _ _ trivial (fun hHeld => ?_)
                                            clear hK K
                                            refine norm_ (a' := ?_) ?_ ?_
                                            rotate_left
                                            · show Act.put _ (some 117) _ = _
                                              simp only [Act.put, List.setIfInBounds_toArray, List.set_cons_zero, List.set_cons_succ, i64_w, i32_w]
                                              rfl
                                            refine one_ (i := 7) (N := some 119) #[true, true, true, true, true, true, true, true, false, false, false] rfl rfl (one_of HT_.out (by kernel_rfl)) (by decide) (fun K hK => ?_)
                                            refine Kd.R_make_step (Kd.int .i64) _ 3 (by rfl) (N := 119) rfl 22 _ _ rfl (ji73) rfl rfl Try.underlying22 (.int .i64 0) 8 info3 rfl (by decide) (by omega) 0 (ok := fun _ => True) (okp := fun _ => True) rfl (fun _ hk => hk) trivial (of_decide_eq_true (by first | (with_reducible assumption) | assumption)) (Nat.le_trans (Nat.mul_le_mul_right _ (of_decide_eq_true (by first | (with_reducible assumption) | assumption) : (ji73).toNat ≤ 35184372088832)) (by omega)) (Below.refl _ _) (Nat.le_refl _) ?_
                                            intro v213 w79 ho80 hb hg_ hnew_
                                            clear hg_ hnew_
                                            (first | rw [← Ny212.out] at ho80 | (simp only [Int.reduceToNat] at ho80; rw [← Ny212.out] at ho80))
                                            have n0_ := Aside0.mk (Kd.R_elder' (by (with_reducible repeat (first | apply Kd.R_alloc | apply Kd.R_drewN | apply Kd.R_drew)); exact HO_6.out) (Kd.R_base ho80) hb)
                                            have n1_ := Aside0.mk (Kd.R_elder' (by (with_reducible repeat (first | apply Kd.R_alloc | apply Kd.R_drewN | apply Kd.R_drew)); exact HO_7.out) (Kd.R_base ho80) hb)
                                            have n2_ := Aside0.mk (Kd.R_elder' (by (with_reducible repeat (first | apply Kd.R_alloc | apply Kd.R_drewN | apply Kd.R_drew)); exact HO_9.out) (Kd.R_base ho80) hb)
                                            have n3_ := Aside0.mk (Kd.R_elder' (by (with_reducible repeat (first | apply Kd.R_alloc | apply Kd.R_drewN | apply Kd.R_drew)); exact HO_11.out) (Kd.R_base ho80) hb)
                                            have n4_ := Aside0.mk (Kd.R_elder' (by (with_reducible repeat (first | apply Kd.R_alloc | apply Kd.R_drewN | apply Kd.R_drew)); exact HO211.out) (Kd.R_base ho80) hb)
                                            have n5_ := Aside0.mk (Kd.R_lower (Kd.R_new' (Kd.R_new' (Kd.R_new' (Kd.R_new' (Kd.R_new' ho80 (Kd.R_lt (by (with_reducible repeat (first | apply Kd.R_alloc | apply Kd.R_drewN | apply Kd.R_drew)); exact HO_6.out))) (Kd.R_lt (by (with_reducible repeat (first | apply Kd.R_alloc | apply Kd.R_drewN | apply Kd.R_drew)); exact HO_7.out))) (Kd.R_lt (by (with_reducible repeat (first | apply Kd.R_alloc | apply Kd.R_drewN | apply Kd.R_drew)); exact HO_9.out))) (Kd.R_lt (by (with_reducible repeat (first | apply Kd.R_alloc | apply Kd.R_drewN | apply Kd.R_drew)); exact HO_11.out))) (Kd.R_lt (by (with_reducible repeat (first | apply Kd.R_alloc | apply Kd.R_drewN | apply Kd.R_drew)); exact HO211.out))) (below_size (by repeat (first | (with_reducible first | exact HB.out | apply below_alloc | apply pw_below_drewN | apply below_drew1) | exact HB.out))))
                                            have n6_ := Aside0.mk (below_step (by repeat (first | (with_reducible first | exact HB.out | apply below_alloc | apply pw_below_drewN | apply below_drew1) | exact HB.out)) hb)
                                            clear HO_6
                                            clear HO_7
                                            clear HO_9
                                            clear HO_11
                                            clear HO211
                                            clear HB
                                            have HO_6 := n0_
                                            have HO_7 := n1_
                                            have HO_9 := n2_
                                            have HO_11 := n3_
                                            have HO211 := n4_
                                            have HO214 := n5_
                                            have HB := n6_
                                            clear n0_ n1_ n2_ n3_ n4_ n5_ n6_
                                            clear hb ho80
                                            refine hK.out _ _ trivial (fun hHeld => ?_)
                                            clear hK K
                                            refine norm_ (a' := ?_) ?_ ?_
                                            rotate_left
                                            · show Act.put _ (some 119) _ = _
                                              simp only [Act.put, List.setIfInBounds_toArray, List.set_cons_zero, List.set_cons_succ, i64_w, i32_w]
                                              rfl
                                            exact norm_ (by simp only [putAll, Act.put, List.setIfInBounds_toArray, List.set_cons_zero, List.set_cons_succ]) (hCont (v210, v213) _ ⟨(by (with_reducible repeat (first | apply Kd.R_alloc | apply Kd.R_drewN | apply Kd.R_drew)); exact Kd.R_mono HO211.out (fun _ hk => ⟨hk.2, ⟨hk.1.2, ⟨hk.1.1.1.1.2, ⟨hk.1.1.1.2, hk.1.1.2⟩⟩⟩⟩)), (by (with_reducible repeat (first | apply Kd.R_alloc | apply Kd.R_drewN | apply Kd.R_drew)); exact Kd.R_mono HO214.out (fun _ hk => ⟨hk.2, ⟨hk.1.2, ⟨hk.1.1.1.1.2, ⟨hk.1.1.1.2, hk.1.1.2⟩⟩⟩⟩)), (by (with_reducible repeat (first | apply Kd.R_alloc | apply Kd.R_drewN | apply Kd.R_drew)); exact Kd.R_mono HO_11.out (fun _ hk => ⟨hk.1.2, ⟨hk.2, ⟨hk.1.1.1, ⟨hk.1.1.2.1, hk.1.1.2.2⟩⟩⟩⟩)), (by (with_reducible repeat (first | apply Kd.R_alloc | apply Kd.R_drewN | apply Kd.R_drew)); exact Kd.R_mono HO_6.out (fun _ hk => ⟨hk.1.2, ⟨hk.2, ⟨hk.1.1.2.2, ⟨hk.1.1.1, hk.1.1.2.1⟩⟩⟩⟩)), (by (with_reducible repeat (first | apply Kd.R_alloc | apply Kd.R_drewN | apply Kd.R_drew)); exact Kd.R_mono HO_7.out (fun _ hk => ⟨hk.1.2, ⟨hk.2, ⟨hk.1.1.2.2, ⟨hk.1.1.1, hk.1.1.2.1⟩⟩⟩⟩)), (by (with_reducible repeat (first | apply Kd.R_alloc | apply Kd.R_drewN | apply Kd.R_drew)); exact Kd.R_mono HO_9.out (fun _ hk => ⟨hk.1.2, ⟨hk.2, ⟨hk.1.1.2.2, ⟨hk.1.1.1, hk.1.1.2.1⟩⟩⟩⟩)), (by repeat (first | (with_reducible first | exact HB.out | apply below_alloc | apply pw_below_drewN | apply below_drew1) | exact HB.out))⟩)
                                          · skip
                                            refine Kd.R_make_step (Kd.int .i64) _ 3 (by rfl) (N := 119) rfl 22 _ _ rfl (ji73) rfl rfl Try.underlying22 (.int .i64 0) 8 info3 rfl (by decide) (by omega) 0 (ok := fun _ => True) (okp := fun _ => True) rfl (fun _ hk => hk) trivial (of_decide_eq_true (by first | (with_reducible assumption) | assumption)) (Nat.le_trans (Nat.mul_le_mul_right _ (of_decide_eq_true (by first | (with_reducible assumption) | assumption) : (ji73).toNat ≤ 35184372088832)) (by omega)) (Below.refl _ _) (Nat.le_refl _) ?_
                                            intro v213 w78 ho79 hb hg_ hnew_
                                            clear hg_ hnew_
                                            (first | rw [← Ny212.out] at ho79 | (simp only [Int.reduceToNat] at ho79; rw [← Ny212.out] at ho79))
                                            have n0_ := Aside0.mk (Kd.R_elder' (by (with_reducible repeat (first | apply Kd.R_alloc | apply Kd.R_drewN | apply Kd.R_drew)); exact HO_6.out) (Kd.R_base ho79) hb)
                                            have n1_ := Aside0.mk (Kd.R_elder' (by (with_reducible repeat (first | apply Kd.R_alloc | apply Kd.R_drewN | apply Kd.R_drew)); exact HO_7.out) (Kd.R_base ho79) hb)
                                            have n2_ := Aside0.mk (Kd.R_elder' (by (with_reducible repeat (first | apply Kd.R_alloc | apply Kd.R_drewN | apply Kd.R_drew)); exact HO_9.out) (Kd.R_base ho79) hb)
                                            have n3_ := Aside0.mk (Kd.R_elder' (by (with_reducible repeat (first | apply Kd.R_alloc | apply Kd.R_drewN | apply Kd.R_drew)); exact HO_11.out) (Kd.R_base ho79) hb)
                                            have n4_ := Aside0.mk (Kd.R_lower (Kd.R_new' (Kd.R_new' (Kd.R_new' (Kd.R_new' ho79 (Kd.R_lt (by (with_reducible repeat (first | apply Kd.R_alloc | apply Kd.R_drewN | apply Kd.R_drew)); exact HO_6.out))) (Kd.R_lt (by (with_reducible repeat (first | apply Kd.R_alloc | apply Kd.R_drewN | apply Kd.R_drew)); exact HO_7.out))) (Kd.R_lt (by (with_reducible repeat (first | apply Kd.R_alloc | apply Kd.R_drewN | apply Kd.R_drew)); exact HO_9.out))) (Kd.R_lt (by (with_reducible repeat (first | apply Kd.R_alloc | apply Kd.R_drewN | apply Kd.R_drew)); exact HO_11.out))) (below_size (by repeat (first | (with_reducible first | exact HB.out | apply below_alloc | apply pw_below_drewN | apply below_drew1) | exact HB.out))))
                                            have n5_ := Aside0.mk (below_step (by repeat (first | (with_reducible first | exact HB.out | apply below_alloc | apply pw_below_drewN | apply below_drew1) | exact HB.out)) hb)
                                            clear HO_6
                                            clear HO_7
                                            clear HO_9
                                            clear HO_11
                                            clear HB
                                            have HO_6 := n0_
                                            have HO_7 := n1_
                                            have HO_9 := n2_
                                            have HO_11 := n3_
                                            have HO214 := n4_
                                            have HB := n5_
                                            clear n0_ n1_ n2_ n3_ n4_ n5_
                                            clear hb ho79
                                            refine hK.out _ _ trivial (fun hHeld => ?_)
                                            clear hK K
                                            refine norm_ (a' := ?_) ?_ ?_
                                            rotate_left
                                            · show Act.put _ (some 119) _ = _
                                              simp only [Act.put, List.setIfInBounds_toArray, List.set_cons_zero, List.set_cons_succ, i64_w, i32_w]
                                              rfl
                                            refine one_ (i := 5) (N := some 117) #[true, true, true, true, true, true, true, true, false, false, false] rfl rfl (one_of HT_.out (by kernel_rfl)) (by decide) (fun K hK => ?_)
                                            refine goes_ Try.func17 (by kernel_rfl) rfl #[.int .i64 (ji73)] (by rfl) rfl rfl (by (try simp only [List.map_toArray, List.map_cons, List.map_nil]); first | done | (simp only [hji73]; rfl) | rfl | (simp only [List.length_drop, List.length_take]; rfl)) ?_
                                            with_reducible refine (load_Zero.calls (ji73) t209 _ A72.out).mono ?_
                                            rintro e w80 ⟨v210, rfl, ho0, hb⟩
                                            refine ⟨_, rfl, ?_⟩
                                            have n0_ := Aside0.mk (Kd.R_elder' (by (with_reducible repeat (first | apply Kd.R_alloc | apply Kd.R_drewN | apply Kd.R_drew)); exact HO_6.out) (Kd.R_base ho0) hb)
                                            have n1_ := Aside0.mk (Kd.R_elder' (by (with_reducible repeat (first | apply Kd.R_alloc | apply Kd.R_drewN | apply Kd.R_drew)); exact HO_7.out) (Kd.R_base ho0) hb)
                                            have n2_ := Aside0.mk (Kd.R_elder' (by (with_reducible repeat (first | apply Kd.R_alloc | apply Kd.R_drewN | apply Kd.R_drew)); exact HO_9.out) (Kd.R_base ho0) hb)
                                            have n3_ := Aside0.mk (Kd.R_elder' (by (with_reducible repeat (first | apply Kd.R_alloc | apply Kd.R_drewN | apply Kd.R_drew)); exact HO_11.out) (Kd.R_base ho0) hb)
                                            have n4_ := Aside0.mk (Kd.R_elder' (by (with_reducible repeat (first | apply Kd.R_alloc | apply Kd.R_drewN | apply Kd.R_drew)); exact HO214.out) (Kd.R_base ho0) hb)
                                            have n5_ := Aside0.mk (Kd.R_lower (Kd.R_new' (Kd.R_new' (Kd.R_new' (Kd.R_new' (Kd.R_new' ho0 (Kd.R_lt (by (with_reducible repeat (first | apply Kd.R_alloc | apply Kd.R_drewN | apply Kd.R_drew)); exact HO_6.out))) (Kd.R_lt (by (with_reducible repeat (first | apply Kd.R_alloc | apply Kd.R_drewN | apply Kd.R_drew)); exact HO_7.out))) (Kd.R_lt (by (with_reducible repeat (first | apply Kd.R_alloc | apply Kd.R_drewN | apply Kd.R_drew)); exact HO_9.out))) (Kd.R_lt (by (with_reducible repeat (first | apply Kd.R_alloc | apply Kd.R_drewN | apply Kd.R_drew)); exact HO_11.out))) (Kd.R_lt (by (with_reducible repeat (first | apply Kd.R_alloc | apply Kd.R_drewN | apply Kd.R_drew)); exact HO214.out))) (below_size (by repeat (first | (with_reducible first | exact HB.out | apply below_alloc | apply pw_below_drewN | apply below_drew1) | exact HB.out))))
                                            have n6_ := Aside0.mk (below_step (by repeat (first | (with_reducible first | exact HB.out | apply below_alloc | apply pw_below_drewN | apply below_drew1) | exact HB.out)) hb)
                                            clear HO_6
                                            clear HO_7
                                            clear HO_9
                                            clear HO_11
                                            clear HO214
                                            clear HB
                                            have HO_6 := n0_
                                            have HO_7 := n1_
                                            have HO_9 := n2_
                                            have HO_11 := n3_
                                            have HO214 := n4_
                                            have HO211 := n5_
                                            have HB := n6_
                                            clear n0_ n1_ n2_ n3_ n4_ n5_ n6_
                                            (try clear hb)
                                            (try clear hb2)
                                            (try clear hk)
                                            (try clear hi)
                                            (try clear ho0)
                                            refine hK.out _ _ trivial (fun hHeld => ?_)
                                            clear hK K
                                            refine norm_ (a' := ?_) ?_ ?_
                                            rotate_left
                                            · show Act.put _ (some 117) _ = _
                                              simp only [Act.put, List.setIfInBounds_toArray, List.set_cons_zero, List.set_cons_succ, i64_w, i32_w]
                                              rfl
                                            exact norm_ (by simp only [putAll, Act.put, List.setIfInBounds_toArray, List.set_cons_zero, List.set_cons_succ]) (hCont (v210, v213) _ ⟨(by (with_reducible repeat (first | apply Kd.R_alloc | apply Kd.R_drewN | apply Kd.R_drew)); exact Kd.R_mono HO211.out (fun _ hk => ⟨hk.2, ⟨hk.1.2, ⟨hk.1.1.1.1.2, ⟨hk.1.1.1.2, hk.1.1.2⟩⟩⟩⟩)), (by (with_reducible repeat (first | apply Kd.R_alloc | apply Kd.R_drewN | apply Kd.R_drew)); exact Kd.R_mono HO214.out (fun _ hk => ⟨hk.2, ⟨hk.1.2, ⟨hk.1.1.1.1.2, ⟨hk.1.1.1.2, hk.1.1.2⟩⟩⟩⟩)), (by (with_reducible repeat (first | apply Kd.R_alloc | apply Kd.R_drewN | apply Kd.R_drew)); exact Kd.R_mono HO_11.out (fun _ hk => ⟨hk.2, ⟨hk.1.2, ⟨hk.1.1.1, ⟨hk.1.1.2.1, hk.1.1.2.2⟩⟩⟩⟩)), (by (with_reducible repeat (first | apply Kd.R_alloc | apply Kd.R_drewN | apply Kd.R_drew)); exact Kd.R_mono HO_6.out (fun _ hk => ⟨hk.2, ⟨hk.1.2, ⟨hk.1.1.2.2, ⟨hk.1.1.1, hk.1.1.2.1⟩⟩⟩⟩)), (by (with_reducible repeat (first | apply Kd.R_alloc | apply Kd.R_drewN | apply Kd.R_drew)); exact Kd.R_mono HO_7.out (fun _ hk => ⟨hk.2, ⟨hk.1.2, ⟨hk.1.1.2.2, ⟨hk.1.1.1, hk.1.1.2.1⟩⟩⟩⟩)), (by (with_reducible repeat (first | apply Kd.R_alloc | apply Kd.R_drewN | apply Kd.R_drew)); exact Kd.R_mono HO_9.out (fun _ hk => ⟨hk.2, ⟨hk.1.2, ⟨hk.1.1.2.2, ⟨hk.1.1.1, hk.1.1.2.1⟩⟩⟩⟩)), (by repeat (first | (with_reducible first | exact HB.out | apply below_alloc | apply pw_below_drewN | apply below_drew1) | exact HB.out))⟩)
                                        rintro ⟨v210, v213⟩ w81 ⟨h0_, h1_, h2_, h3_, h4_, h5_, h6_⟩
                                        have n0_ : Aside0 (Kd.R (Kd.int .i64) 3 w81 w.heap.size (fun k_ => some k_ ≠ (v213 : Value).ownBlock ∧ some k_ ≠ (v199 : Value).ownBlock ∧ some k_ ≠ (.slice Ao28 y186.length co28 : Value).ownBlock ∧ some k_ ≠ (.slice Ao55 x7_4.length co55 : Value).ownBlock ∧ some k_ ≠ (v195 : Value).ownBlock) v210 t209) := ⟨h0_⟩
                                        have n1_ : Aside0 (Kd.R (Kd.int .i64) 3 w81 w.heap.size (fun k_ => some k_ ≠ (v210 : Value).ownBlock ∧ some k_ ≠ (v199 : Value).ownBlock ∧ some k_ ≠ (.slice Ao28 y186.length co28 : Value).ownBlock ∧ some k_ ≠ (.slice Ao55 x7_4.length co55 : Value).ownBlock ∧ some k_ ≠ (v195 : Value).ownBlock) v213 y212) := ⟨h1_⟩
                                        have n2_ : Aside0 (Kd.R (Kd.int .i64) 3 w81 w.heap.size (fun k_ => some k_ ≠ (v210 : Value).ownBlock ∧ some k_ ≠ (v213 : Value).ownBlock ∧ some k_ ≠ (.slice Ao28 y186.length co28 : Value).ownBlock ∧ some k_ ≠ (.slice Ao55 x7_4.length co55 : Value).ownBlock ∧ some k_ ≠ (v195 : Value).ownBlock) v199 x11_4) := ⟨h2_⟩
                                        have n3_ : Aside0 (Kd.R (Kd.int .i64) 3 w81 w.heap.size (fun k_ => some k_ ≠ (v210 : Value).ownBlock ∧ some k_ ≠ (v213 : Value).ownBlock ∧ some k_ ≠ (v199 : Value).ownBlock ∧ some k_ ≠ (.slice Ao55 x7_4.length co55 : Value).ownBlock ∧ some k_ ≠ (v195 : Value).ownBlock) (.slice Ao28 y186.length co28) y186) := ⟨h3_⟩
                                        have n4_ : Aside0 (Kd.R (Kd.int .i64) 3 w81 w.heap.size (fun k_ => some k_ ≠ (v210 : Value).ownBlock ∧ some k_ ≠ (v213 : Value).ownBlock ∧ some k_ ≠ (v199 : Value).ownBlock ∧ some k_ ≠ (.slice Ao28 y186.length co28 : Value).ownBlock ∧ some k_ ≠ (v195 : Value).ownBlock) (.slice Ao55 x7_4.length co55) x7_4) := ⟨h4_⟩
                                        have n5_ : Aside0 (Kd.R (Kd.int .i64) 3 w81 w.heap.size (fun k_ => some k_ ≠ (v210 : Value).ownBlock ∧ some k_ ≠ (v213 : Value).ownBlock ∧ some k_ ≠ (v199 : Value).ownBlock ∧ some k_ ≠ (.slice Ao28 y186.length co28 : Value).ownBlock ∧ some k_ ≠ (.slice Ao55 x7_4.length co55 : Value).ownBlock) v195 x9_4) := ⟨h5_⟩
                                        have n6_ : Aside0 (Below w.heap.size w w81) := ⟨h6_⟩
                                        clear HO_6
                                        clear HO_7
                                        clear HO_9
                                        clear HO_11
                                        clear HB
                                        clear h0_ h1_ h2_ h3_ h4_ h5_ h6_
                                        have HO211 := n0_
                                        have HO214 := n1_
                                        have HO_11 := n2_
                                        have HO_6 := n3_
                                        have HO_7 := n4_
                                        have HO_9 := n5_
                                        have HB := n6_
                                        clear n0_ n1_ n2_ n3_ n4_ n5_ n6_
                                        have hHeld := trivial
                                        obtain ⟨Ao82, co82, eo82⟩ := Kd.R_slice HO211.out
                                        (first | subst eo82 | (injection eo82 with f1_ f2_ f3_; have f4_ := f1_.symm; have f5_ := f3_.symm; clear f1_ f2_ f3_; subst f4_; subst f5_))
                                        obtain ⟨Ao83, co83, eo83⟩ := Kd.R_slice HO214.out
                                        (first | subst eo83 | (injection eo83 with f1_ f2_ f3_; have f4_ := f1_.symm; have f5_ := f3_.symm; clear f1_ f2_ f3_; subst f4_; subst f5_))
                                        refine norm_ (a' := ?_) ?_ ?_
                                        rotate_left
                                        · simp only [putAll, Act.put, List.setIfInBounds_toArray, List.set_cons_zero, List.set_cons_succ]
                                          rfl
                                        refine one_ (i := 8) (N := some 120) #[true, true, true, true, true, true, true, true, true, false, false] rfl rfl (one_of HT_.out (by kernel_rfl)) (by decide) (fun K hK => ?_)
                                        refine goes_ Try.func11 (by kernel_rfl) rfl #[.slice Ao82 t209.length co82, .slice Ao83 y212.length co83] (by rfl) rfl rfl (by (try simp only [List.map_toArray, List.map_cons, List.map_nil]); first | done | rfl | (simp only [List.length_drop, List.length_take]; rfl)) ?_
                                        with_reducible refine (load_Same.calls k4 _ _ t209 _ _ y212 t215 _ ?side1 ?side2 ?side3 ?side4 A76.out).mono ?_
                                        (case side1 => repeat (first | exact (Kd.R_reads' HO211.out).2.2 | (with_reducible refine Kd.C_alloc ?_ _) | (with_reducible refine Kd.C_drewN ?_ _) | (with_reducible refine Kd.C_drew ?_)))
                                        (case side2 => exact (Kd.R_reads' HO211.out).2.1)
                                        (case side3 => repeat (first | exact (Kd.R_reads' HO214.out).2.2 | (with_reducible refine Kd.C_alloc ?_ _) | (with_reducible refine Kd.C_drewN ?_ _) | (with_reducible refine Kd.C_drew ?_)))
                                        (case side4 => exact (Kd.R_reads' HO214.out).2.1)
                                        rintro e w' ⟨rfl, ⟨nd, rfl⟩⟩
                                        refine ⟨_, rfl, ?_⟩
                                        refine hK.out _ _ trivial (fun hHeld => ?_)
                                        clear hK K
                                        refine norm_ (a' := ?_) ?_ ?_
                                        rotate_left
                                        · show Act.put _ (some 120) _ = _
                                          simp only [Act.put, List.setIfInBounds_toArray, List.set_cons_zero, List.set_cons_succ, i64_w, i32_w]
                                          rfl
                                        refine pure_ (i := 9) (N := some 121) (v := ?_) (a' := ?_) #[true, true, true, true, true, true, true, true, true, true, false] rfl rfl (any_of HT_.out (by kernel_rfl)) (fun _ _ _ h => h) (Or.inl ⟨by rfl, ?_⟩) ?_ ?_
                                        rotate_left
                                        · intro w'
                                          go_simp
                                          with_reducible rfl
                                        rotate_left
                                        · simp only [Act.put, List.setIfInBounds_toArray, List.set_cons_zero, List.set_cons_succ, i64_w, i32_w]
                                          rfl
                                        refine pure_ (i := 10) (N := some 4) (v := ?_) (a' := ?_) #[true, true, true, true, true, true, true, true, true, true, true] rfl rfl (any_of HT_.out (by kernel_rfl)) (fun _ _ _ h => h) (Or.inl ⟨by rfl, ?_⟩) ?_ ?_
                                        rotate_left
                                        · intro w'
                                          go_simp
                                          with_reducible rfl
                                        rotate_left
                                        · simp only [Act.put, List.setIfInBounds_toArray, List.set_cons_zero, List.set_cons_succ, i64_w, i32_w]
                                          rfl
                                        refine done_ (done_of HT_.out (by kernel_rfl)) ?_
                                        try go_wp2
                                        go_ret
                                        exact ⟨by first | (exact congrArg (fun b_ => Ending.returned (Value.bool b_)) H0.out) |  rfl | (simp [errW_none, errW_some] <;> rfl) | (simp only [← hji73]; first | rfl | (simp [errW_none, errW_some] <;> rfl)) | (simp [*, errW_none, errW_some] <;> rfl), by repeat (first | (with_reducible first | exact HB.out | apply below_alloc | apply pw_below_drewN | apply below_drew1) | exact HB.out)⟩
                                      · rw [if_neg c75] at H
                                        exact absurd H (by simp)
                                    · rw [if_neg c74] at H
                                      exact absurd H (by simp)
                                  · replace c71 := Bool.eq_false_iff.mpr c71
                                    subst c71
                                    have H1 : (some false) = some true := by rw [if_neg (show ¬ (false = true) by decide)] at H; exact H
                                    clear H
                                    have H := H1
                                    clear H1
                                    exact absurd H (by simp)
              · rw [if_neg c17] at H
                exact absurd H (by simp)
            · rw [if_neg c16] at H
              have c16b0 : (t182 == 0) = false := beq_eq_false_iff_ne.mpr c16
              have c16b1 : (t182 != 0) = true := bne_iff_ne.mpr c16
              clear H
              go_wp2_with (first | ((with_reducible refine gate_dst (N := 33) rfl ?_); (try (refine gate_guard (by rfl) ?_; dsimp only)); refine Kd.R_lit (Kd.int .i64) _ 3 ?hg (N := 33) ?hd (xs := ([] : List Int)) (inner := []) (ok := fun _ => True) (okp := fun _ => True) ?hr ?hp (fun _ hk => hk) trivial (Below.refl _ _) (Nat.le_refl _) (by simp) ?_; (case hd => rfl); (case hg => rfl); (case hr => first | (go_simp; done) | (go_simp; rfl)); (case hp => exact (Reps.none _ _)); intro v177 w84 ho85 hb hg_ hnew_; clear hg_ hnew_; (first | rw [← Ny176.out] at ho85 | (simp only [Int.reduceToNat] at ho85; rw [← Ny176.out] at ho85)); have n0_ := Aside0.mk (Kd.R_elder' (by (with_reducible repeat (first | apply Kd.R_alloc | apply Kd.R_drewN | apply Kd.R_drew)); exact HO_5.out) (Kd.R_base ho85) hb); have n1_ := Aside0.mk (Kd.R_lower (Kd.R_new' ho85 (Kd.R_lt (by (with_reducible repeat (first | apply Kd.R_alloc | apply Kd.R_drewN | apply Kd.R_drew)); exact HO_5.out))) (below_size (by repeat (first | (with_reducible first | exact HB.out | apply below_alloc | apply pw_below_drewN | apply below_drew1) | exact HB.out)))); have n2_ := Aside0.mk (below_step (by repeat (first | (with_reducible first | exact HB.out | apply below_alloc | apply pw_below_drewN | apply below_drew1) | exact HB.out)) hb); clear HO_5; clear HB; have HO_5 := n0_; have HO178 := n1_; have HB := n2_; clear n0_ n1_ n2_; clear hb ho85) | ((with_reducible refine gate_builtin (b := .append) (xs := #[.tmp 33, .tmp 34]) rfl ?_); (try (refine gate_guard (by rfl) ?_; dsimp only)); at_builtin; refine Kd.R_append_rows (Kd.int .i64) (w0 := w) w.heap.size rfl (.tmp 33) (.tmp 34) 22 3 (.int .i64 0) 8 rfl Try.underlying22 info3 rfl (by decide) (by omega) v177 y176 l0 _ _ _ (fun k_ => some k_ ≠ (v173 : Value).ownBlock) (fun _ => False) rfl rfl ?aO ?aR (fun _ _ h => h) (fun _ h => h.elim) ?aF ?aB ?aS ?aL ?_; (case aR => repeat (first | exact (Kd.C_below HR0.out HB.out) | (with_reducible refine Kd.C_alloc ?_ _) | (with_reducible refine Kd.C_drewN ?_ _) | (with_reducible refine Kd.C_drew ?_))); (case aB => exact (by repeat (first | (with_reducible first | exact HB.out | apply below_alloc | apply pw_below_drewN | apply below_drew1) | exact HB.out))); (case aF => exact (fun k_ hk => Kd.fresh' (Kd.R_lt (by (with_reducible repeat (first | apply Kd.R_alloc | apply Kd.R_drewN | apply Kd.R_drew)); exact HO_5.out)) k_ hk)); (case aO => exact (by (with_reducible repeat (first | apply Kd.R_alloc | apply Kd.R_drewN | apply Kd.R_drew)); exact Kd.R_mono HO178.out (fun _ hk => hk.2))); (case aS => exact (below_size (by repeat (first | (with_reducible first | exact HB.out | apply below_alloc | apply pw_below_drewN | apply below_drew1) | exact HB.out)))); (case aL => have := LMc14.out; omega); intro v180 w86 ho hb hg hat; rw [← Ny179.out] at ho; have n0_ := Aside0.mk (Kd.R_after (ok := (fun _ => True)) (by (with_reducible repeat (first | apply Kd.R_alloc | apply Kd.R_drewN | apply Kd.R_drew)); exact HO_5.out) hg hat); have n1_ := Aside0.mk (hb); have n2_ := Aside0.mk (ho); clear HO_5; clear HB; clear HO178; have HO_5 := n0_; have HB := n1_; have HO181 := n2_; clear n0_ n1_ n2_; clear ho hb hg hat; obtain ⟨Ao87, co87, eo87⟩ := Kd.R_slice HO181.out; subst eo87) | ((with_reducible refine gate_callee (f := 18) rfl ?_); refine goesL_ (some 37) rfl rfl Try.func18 (by kernel_rfl) rfl #[.slice Ao87 y179.length co87, .int .i64 (wrap64 (Int.tmod (IntKind.u64.wrap (a1)) 4))] rfl (by (try simp only [List.map_toArray, List.map_cons, List.map_nil]); first | done | rfl | (simp only [List.length_drop, List.length_take]; rfl)) ?_; (with_reducible refine (load_Check.calls kj5 _ _ y179 (wrap64 (Int.tmod (IntKind.u64.wrap (a1)) 4)) t182 _ ?side1 ?side2 A15.out).mono ?_); (case side1 => repeat (first | exact (Kd.R_reads' HO181.out).2.2 | (with_reducible refine Kd.C_alloc ?_ _) | (with_reducible refine Kd.C_drewN ?_ _) | (with_reducible refine Kd.C_drew ?_))); (case side2 => exact (Kd.R_reads' HO181.out).2.1); rintro e w' ⟨rfl, ⟨nd, rfl⟩⟩; refine ⟨_, rfl, ?_⟩))
              go_ret
              exact ⟨by first |  rfl | (simp [errW_none, errW_some] <;> rfl) | (simp [*, errW_none, errW_some] <;> rfl), by repeat (first | (with_reducible first | exact HB.out | apply below_alloc | apply pw_below_drewN | apply below_drew1) | exact HB.out)⟩
          · rw [if_neg c14] at H
            exact absurd H (by simp)
  · replace c4 := Bool.eq_false_iff.mpr c4
    subst c4
    have H1 : (some false) = some true := by rw [if_neg (show ¬ (false = true) by decide)] at H; exact H
    clear H
    have H := H1
    clear H1
    exact absurd H (by simp)

/-- THE ONE PURE STATEMENT of haulierlaw09_LoadZero: yours. -/
def haulierlaw09_LoadZero.Pure : Prop := ∀ (l0 : List Int) (a1 : Int), l0.length ≤ maxLen → l0.length * 8 ≤ 140737488351232 → (∀ x ∈ l0, (Lit.int .i64 x).wf = true) → (Lit.int .i64 a1).wf = true → ∃ k, haulierlaw09_LoadZero.f k l0 a1 = some true
theorem haulierlaw09_LoadZero.walk (P : haulierlaw09_LoadZero.Pure) (a0 : Option Addr) (len0 cap0 : Nat) (z0 : List Int) (a1 : Int) (w : World) (w0 : (a0 = none ∧ len0 = 0 ∧ cap0 = 0 ∧ z0 = []) ∨ ∃ x, a0 = some x ∧ len0 ≤ cap0 ∧ cap0 ≤ maxLen ∧ z0.length = cap0 ∧ (∀ i, i < z0.length → w.cell? (x.add i) = some (.int .i64 (z0.getD i 0))) ∧ ∀ n ∈ z0, (Lit.int .i64 n).wf = true) (y0 : len0 * 8 ≤ 140737488351232) (w1 : (Lit.int .i64 a1).wf = true) :
    Calls Try.prog 6 #[.slice a0 len0 cap0, .int .i64 a1] w fun e w' => e = .returned (.bool true) ∧ Below w.heap.size w w' := by
  obtain ⟨l0, rfl, hr0, hm0, hw0, hc0⟩ := ReadsInt.ofRowC w0
  obtain ⟨k, h⟩ := P l0 a1 hm0 y0 hw0 w1
  refine (haulierlaw09_LoadZero.calls k _ _ l0 a1 true w (Kd.C_of_reads (d := (0 : Int)) (h1 := fun _ => rfl) hr0) hc0 h).mono ?_
  rintro e w' ⟨rfl, hd⟩
  exact ⟨rfl, hd⟩

end Go.Proofs.Ytfmdgekjmeohiaa.MLoadZero
