-- by the turned print: Ytfmdgekjmeohiaa
import Derived.Test.YtfmdgekjmeohiaaMLoadReckonsx0
import Derived.Test.YtfmdgekjmeohiaaMLoadReckonsx1
import Derived.Test.YtfmdgekjmeohiaaMLoadReckonsx2
import Derived.Test.YtfmdgekjmeohiaaMLoadReckonsx3
import Derived.Test.YtfmdgekjmeohiaaMLoadReckonsx4
namespace Go.Proofs.Ytfmdgekjmeohiaa.MLoadReckons
open Go.RowKit Go.Proofs.YtfmdgekjmeohiaaW.PrintWords Go.Proofs.YtfmdgekjmeohiaaW.PrintLast Go.Proofs.YtfmdgekjmeohiaaW.PrintMore
attribute [local go_sem] max2_int min2_int max_two min_two max_three min_three max_four min_four   -- for this text's walks alone
set_option linter.unusedVariables false
set_option linter.unusedSimpArgs false

/-! ### haulierlaw09_LoadReckons: function 5 -/
mutual
def haulierlaw09_LoadReckons.j0 : Nat → List Int → List Int → Int → Bool → Option (Bool)
  | 0, _, _, _, _ => none
  | k + 1, x0, x1, x2, x31 => if x31 = true then (some true) else ((some (([] : List Int) : List Int)).bind fun y209 => (if y209.length + x0.length < 17592186044416 then ((some (y209 ++ x0 : List Int)).bind fun y212 => ((some (([] : List Int) : List Int)).bind fun y215 => (if y215.length + x1.length < 17592186044416 then ((some (y215 ++ x1 : List Int)).bind fun y218 => ((load_Add.f k y212 y218).bind fun bt221 => ((haulierref09_Add.f k x0 x1 false).bind fun bt225 => ((haulierlaw09_sumError.f k x0 x1).bind fun t229 => (if t229 = 0 then ((haulierref05_SameInts.f k bt221.1 bt225.1).bind fun t230 => (if t230 = true then (if bt221.2 = bt225.2 then (haulierlaw09_LoadReckons.j1 k x0 x1 x2 y212 y218 false) else (haulierlaw09_LoadReckons.j1 k x0 x1 x2 y212 y218 true)) else (haulierlaw09_LoadReckons.j1 k x0 x1 x2 y212 y218 true))) else (if (bt221.1.length : Int) = 0 then (haulierlaw09_LoadReckons.j1 k x0 x1 x2 y212 y218 (bt221.2 != t229)) else (haulierlaw09_LoadReckons.j1 k x0 x1 x2 y212 y218 true))))))) else (none)))) else (none)))
def haulierlaw09_LoadReckons.j1 : Nat → List Int → List Int → Int → List Int → List Int → Bool → Option (Bool)
  | 0, _, _, _, _, _, _ => none
  | k + 1, x0, x1, x2, x7, x8, x82 => if x82 = true then (some false) else ((load_Sub.f k x7 x8).bind fun bt231 => ((haulierref09_Add.f k x0 x1 true).bind fun bt235 => ((load_Most.f k x7 x8).bind fun bt239 => ((haulierref09_Most.f k x0 x1).bind fun bt243 => ((load_Zero.f x2).bind fun t247 => (if x2 ≥ 0 then (if x2 ≤ 3 then (if 0 ≤ x2 then (if (x2 : Int).toNat ≤ 35184372088832 then ((haulierref05_SameInts.f k t247 (List.replicate (x2 : Int).toNat 0)).bind fun t253 => (if t253 = true then (if x2 < 0 then (haulierlaw09_LoadReckons.j2 k x0 x1 x2 x7 x8 bt231.1 bt231.2 bt235.1 bt235.2 bt239.1 bt239.2 bt243.1 bt243.2 ((t247.length : Int) != 0)) else (if x2 > 3 then (haulierlaw09_LoadReckons.j2 k x0 x1 x2 x7 x8 bt231.1 bt231.2 bt235.1 bt235.2 bt239.1 bt239.2 bt243.1 bt243.2 ((t247.length : Int) != 0)) else (haulierlaw09_LoadReckons.j2 k x0 x1 x2 x7 x8 bt231.1 bt231.2 bt235.1 bt235.2 bt239.1 bt239.2 bt243.1 bt243.2 false))) else (haulierlaw09_LoadReckons.j2 k x0 x1 x2 x7 x8 bt231.1 bt231.2 bt235.1 bt235.2 bt239.1 bt239.2 bt243.1 bt243.2 true))) else (none)) else (none)) else (if x2 < 0 then (haulierlaw09_LoadReckons.j2 k x0 x1 x2 x7 x8 bt231.1 bt231.2 bt235.1 bt235.2 bt239.1 bt239.2 bt243.1 bt243.2 ((t247.length : Int) != 0)) else (if x2 > 3 then (haulierlaw09_LoadReckons.j2 k x0 x1 x2 x7 x8 bt231.1 bt231.2 bt235.1 bt235.2 bt239.1 bt239.2 bt243.1 bt243.2 ((t247.length : Int) != 0)) else (haulierlaw09_LoadReckons.j2 k x0 x1 x2 x7 x8 bt231.1 bt231.2 bt235.1 bt235.2 bt239.1 bt239.2 bt243.1 bt243.2 false)))) else (if x2 < 0 then (haulierlaw09_LoadReckons.j2 k x0 x1 x2 x7 x8 bt231.1 bt231.2 bt235.1 bt235.2 bt239.1 bt239.2 bt243.1 bt243.2 ((t247.length : Int) != 0)) else (if x2 > 3 then (haulierlaw09_LoadReckons.j2 k x0 x1 x2 x7 x8 bt231.1 bt231.2 bt235.1 bt235.2 bt239.1 bt239.2 bt243.1 bt243.2 ((t247.length : Int) != 0)) else (haulierlaw09_LoadReckons.j2 k x0 x1 x2 x7 x8 bt231.1 bt231.2 bt235.1 bt235.2 bt239.1 bt239.2 bt243.1 bt243.2 false)))))))))
def haulierlaw09_LoadReckons.j2 : Nat → List Int → List Int → Int → List Int → List Int → List Int → Int → List Int → Int → List Int → Int → List Int → Int → Bool → Option (Bool)
  | 0, _, _, _, _, _, _, _, _, _, _, _, _, _, _ => none
  | k + 1, x0, x1, x2, x7, x8, x13, x14, x15, x16, x17, x18, x19, x20, x134 => if x134 = true then (some false) else ((haulierref05_SameInts.f k x13 x15).bind fun t254 => (if t254 = true then (if x14 = x16 then ((haulierref05_SameInts.f k x17 x19).bind fun t255 => (if t255 = true then (if x18 = x20 then ((load_Check.f k x7 x2).bind fun t256 => ((haulierref09_Check.f k x0 x2).bind fun t257 => (if t256 = t257 then ((load_Under.f k x7 x8).bind fun t258 => ((haulierref09_Under.f k x0 x1).bind fun t259 => (if (t258 == t259) = true then ((load_Same.f k x7 x8).bind fun t260 => ((haulierref05_SameInts.f k x0 x1).bind fun t261 => (if (t260 == t261) = true then ((haulierref05_SameInts.f k x7 x0).bind fun t262 => (if t262 = true then ((haulierref05_SameInts.f k x8 x1).bind fun t263 => (some t263)) else (some false))) else (some false)))) else (some false)))) else (some false)))) else (some false)) else (some false))) else (some false)) else (some false)))
end
def haulierlaw09_LoadReckons.f (k : Nat) (l0 : List Int) (l1 : List Int) (a2 : Int) : Option (Bool) := (haulierlaw09_Awake.f k).bind fun t208 => (if t208 = true then (if (l0.length : Int) > 1000 then (haulierlaw09_LoadReckons.j0 k l0 l1 a2 true) else (haulierlaw09_LoadReckons.j0 k l0 l1 a2 (decide ((l1.length : Int) > 1000)))) else (some false))
theorem haulierlaw09_LoadReckons.mono_l : ∀ k, (∀ y0 y1 y2 y3, LeO (haulierlaw09_LoadReckons.j0 k y0 y1 y2 y3) (haulierlaw09_LoadReckons.j0 (k + 1) y0 y1 y2 y3)) ∧ (∀ y0 y1 y2 y3 y4 y5, LeO (haulierlaw09_LoadReckons.j1 k y0 y1 y2 y3 y4 y5) (haulierlaw09_LoadReckons.j1 (k + 1) y0 y1 y2 y3 y4 y5)) ∧ (∀ y0 y1 y2 y3 y4 y5 y6 y7 y8 y9 y10 y11 y12 y13, LeO (haulierlaw09_LoadReckons.j2 k y0 y1 y2 y3 y4 y5 y6 y7 y8 y9 y10 y11 y12 y13) (haulierlaw09_LoadReckons.j2 (k + 1) y0 y1 y2 y3 y4 y5 y6 y7 y8 y9 y10 y11 y12 y13))
  | 0 => ⟨fun _ _ _ _ r h => by simp [haulierlaw09_LoadReckons.j0] at h, fun _ _ _ _ _ _ r h => by simp [haulierlaw09_LoadReckons.j1] at h, fun _ _ _ _ _ _ _ _ _ _ _ _ _ _ r h => by simp [haulierlaw09_LoadReckons.j2] at h⟩
  | k + 1 => by
    obtain ⟨ih0, ih1, ih2⟩ := haulierlaw09_LoadReckons.mono_l k
    refine ⟨?_, ?_, ?_⟩
    · intro y0 y1 y2 y3
      unfold haulierlaw09_LoadReckons.j0
      repeat' first
      | (with_reducible exact ih0 _ _ _ _)
      | (with_reducible exact ih1 _ _ _ _ _ _)
      | (with_reducible exact ih2 _ _ _ _ _ _ _ _ _ _ _ _ _ _)
      | (with_reducible exact haulierlaw09_Awake.mono _)
      | (with_reducible exact haulierlaw09_sumError.mono _ _ _)
      | (with_reducible exact haulierref05_SameInts.mono _ _ _)
      | (with_reducible exact haulierref09_Add.mono _ _ _ _)
      | (with_reducible exact haulierref09_Check.mono _ _ _)
      | (with_reducible exact haulierref09_Most.mono _ _ _)
      | (with_reducible exact haulierref09_Under.mono _ _ _)
      | (with_reducible exact load_Add.mono _ _ _)
      | (with_reducible exact load_Check.mono _ _ _)
      | (with_reducible exact load_Most.mono _ _ _)
      | (with_reducible exact load_Same.mono _ _ _)
      | (with_reducible exact load_Sub.mono _ _ _)
      | (with_reducible exact load_Under.mono _ _ _)
      | (with_reducible exact LeO.refl _)
      | (with_reducible exact LeO.none _)
      | (with_reducible refine LeO.ite ?_ ?_)
      | (with_reducible refine LeO.bind ?_ (fun _ => ?_))
      | exact ih0 _ _ _ _
      | exact ih1 _ _ _ _ _ _
      | exact ih2 _ _ _ _ _ _ _ _ _ _ _ _ _ _
      | exact haulierlaw09_Awake.mono _
      | exact haulierlaw09_sumError.mono _ _ _
      | exact haulierref05_SameInts.mono _ _ _
      | exact haulierref09_Add.mono _ _ _ _
      | exact haulierref09_Check.mono _ _ _
      | exact haulierref09_Most.mono _ _ _
      | exact haulierref09_Under.mono _ _ _
      | exact load_Add.mono _ _ _
      | exact load_Check.mono _ _ _
      | exact load_Most.mono _ _ _
      | exact load_Same.mono _ _ _
      | exact load_Sub.mono _ _ _
      | exact load_Under.mono _ _ _
      | exact LeO.none _
      | refine LeO.ite ?_ ?_
      | refine LeO.bind ?_ (fun _ => ?_)
    · intro y0 y1 y2 y3 y4 y5
      unfold haulierlaw09_LoadReckons.j1
      repeat' first
      | (with_reducible exact ih0 _ _ _ _)
      | (with_reducible exact ih1 _ _ _ _ _ _)
      | (with_reducible exact ih2 _ _ _ _ _ _ _ _ _ _ _ _ _ _)
      | (with_reducible exact haulierlaw09_Awake.mono _)
      | (with_reducible exact haulierlaw09_sumError.mono _ _ _)
      | (with_reducible exact haulierref05_SameInts.mono _ _ _)
      | (with_reducible exact haulierref09_Add.mono _ _ _ _)
      | (with_reducible exact haulierref09_Check.mono _ _ _)
      | (with_reducible exact haulierref09_Most.mono _ _ _)
      | (with_reducible exact haulierref09_Under.mono _ _ _)
      | (with_reducible exact load_Add.mono _ _ _)
      | (with_reducible exact load_Check.mono _ _ _)
      | (with_reducible exact load_Most.mono _ _ _)
      | (with_reducible exact load_Same.mono _ _ _)
      | (with_reducible exact load_Sub.mono _ _ _)
      | (with_reducible exact load_Under.mono _ _ _)
      | (with_reducible exact LeO.refl _)
      | (with_reducible exact LeO.none _)
      | (with_reducible refine LeO.ite ?_ ?_)
      | (with_reducible refine LeO.bind ?_ (fun _ => ?_))
      | exact ih0 _ _ _ _
      | exact ih1 _ _ _ _ _ _
      | exact ih2 _ _ _ _ _ _ _ _ _ _ _ _ _ _
      | exact haulierlaw09_Awake.mono _
      | exact haulierlaw09_sumError.mono _ _ _
      | exact haulierref05_SameInts.mono _ _ _
      | exact haulierref09_Add.mono _ _ _ _
      | exact haulierref09_Check.mono _ _ _
      | exact haulierref09_Most.mono _ _ _
      | exact haulierref09_Under.mono _ _ _
      | exact load_Add.mono _ _ _
      | exact load_Check.mono _ _ _
      | exact load_Most.mono _ _ _
      | exact load_Same.mono _ _ _
      | exact load_Sub.mono _ _ _
      | exact load_Under.mono _ _ _
      | exact LeO.none _
      | refine LeO.ite ?_ ?_
      | refine LeO.bind ?_ (fun _ => ?_)
    · intro y0 y1 y2 y3 y4 y5 y6 y7 y8 y9 y10 y11 y12 y13
      unfold haulierlaw09_LoadReckons.j2
      repeat' first
      | (with_reducible exact ih0 _ _ _ _)
      | (with_reducible exact ih1 _ _ _ _ _ _)
      | (with_reducible exact ih2 _ _ _ _ _ _ _ _ _ _ _ _ _ _)
      | (with_reducible exact haulierlaw09_Awake.mono _)
      | (with_reducible exact haulierlaw09_sumError.mono _ _ _)
      | (with_reducible exact haulierref05_SameInts.mono _ _ _)
      | (with_reducible exact haulierref09_Add.mono _ _ _ _)
      | (with_reducible exact haulierref09_Check.mono _ _ _)
      | (with_reducible exact haulierref09_Most.mono _ _ _)
      | (with_reducible exact haulierref09_Under.mono _ _ _)
      | (with_reducible exact load_Add.mono _ _ _)
      | (with_reducible exact load_Check.mono _ _ _)
      | (with_reducible exact load_Most.mono _ _ _)
      | (with_reducible exact load_Same.mono _ _ _)
      | (with_reducible exact load_Sub.mono _ _ _)
      | (with_reducible exact load_Under.mono _ _ _)
      | (with_reducible exact LeO.refl _)
      | (with_reducible exact LeO.none _)
      | (with_reducible refine LeO.ite ?_ ?_)
      | (with_reducible refine LeO.bind ?_ (fun _ => ?_))
      | exact ih0 _ _ _ _
      | exact ih1 _ _ _ _ _ _
      | exact ih2 _ _ _ _ _ _ _ _ _ _ _ _ _ _
      | exact haulierlaw09_Awake.mono _
      | exact haulierlaw09_sumError.mono _ _ _
      | exact haulierref05_SameInts.mono _ _ _
      | exact haulierref09_Add.mono _ _ _ _
      | exact haulierref09_Check.mono _ _ _
      | exact haulierref09_Most.mono _ _ _
      | exact haulierref09_Under.mono _ _ _
      | exact load_Add.mono _ _ _
      | exact load_Check.mono _ _ _
      | exact load_Most.mono _ _ _
      | exact load_Same.mono _ _ _
      | exact load_Sub.mono _ _ _
      | exact load_Under.mono _ _ _
      | exact LeO.none _
      | refine LeO.ite ?_ ?_
      | refine LeO.bind ?_ (fun _ => ?_)
theorem haulierlaw09_LoadReckons.mono : ∀ a0 a1 a2 k, LeO (haulierlaw09_LoadReckons.f k a0 a1 a2) (haulierlaw09_LoadReckons.f (k + 1) a0 a1 a2) := by
  intro a0 a1 a2 k
  obtain ⟨ih0, ih1, ih2⟩ := haulierlaw09_LoadReckons.mono_l k
  unfold haulierlaw09_LoadReckons.f
  repeat' first
      | (with_reducible exact ih0 _ _ _ _)
      | (with_reducible exact ih1 _ _ _ _ _ _)
      | (with_reducible exact ih2 _ _ _ _ _ _ _ _ _ _ _ _ _ _)
      | (with_reducible exact haulierlaw09_Awake.mono _)
      | (with_reducible exact haulierlaw09_sumError.mono _ _ _)
      | (with_reducible exact haulierref05_SameInts.mono _ _ _)
      | (with_reducible exact haulierref09_Add.mono _ _ _ _)
      | (with_reducible exact haulierref09_Check.mono _ _ _)
      | (with_reducible exact haulierref09_Most.mono _ _ _)
      | (with_reducible exact haulierref09_Under.mono _ _ _)
      | (with_reducible exact load_Add.mono _ _ _)
      | (with_reducible exact load_Check.mono _ _ _)
      | (with_reducible exact load_Most.mono _ _ _)
      | (with_reducible exact load_Same.mono _ _ _)
      | (with_reducible exact load_Sub.mono _ _ _)
      | (with_reducible exact load_Under.mono _ _ _)
      | (with_reducible exact LeO.refl _)
      | (with_reducible exact LeO.none _)
      | (with_reducible refine LeO.ite ?_ ?_)
      | (with_reducible refine LeO.bind ?_ (fun _ => ?_))
      | exact ih0 _ _ _ _
      | exact ih1 _ _ _ _ _ _
      | exact ih2 _ _ _ _ _ _ _ _ _ _ _ _ _ _
      | exact haulierlaw09_Awake.mono _
      | exact haulierlaw09_sumError.mono _ _ _
      | exact haulierref05_SameInts.mono _ _ _
      | exact haulierref09_Add.mono _ _ _ _
      | exact haulierref09_Check.mono _ _ _
      | exact haulierref09_Most.mono _ _ _
      | exact haulierref09_Under.mono _ _ _
      | exact load_Add.mono _ _ _
      | exact load_Check.mono _ _ _
      | exact load_Most.mono _ _ _
      | exact load_Same.mono _ _ _
      | exact load_Sub.mono _ _ _
      | exact load_Under.mono _ _ _
      | exact LeO.none _
      | refine LeO.ite ?_ ?_
      | refine LeO.bind ?_ (fun _ => ?_)
set_option maxHeartbeats 8000000 in
set_option maxRecDepth 100000 in
theorem haulierlaw09_LoadReckons.calls (k : Nat) (A0 : Option Addr) (c0 : Nat) (l0 : List Int) (A1 : Option Addr) (c1 : Nat) (l1 : List Int) (a2 : Int) (r_ : Bool) (w : World) (hr0 : Kd.C (Kd.int .i64) w A0 l0.length l0) (hc0 : l0.length ≤ c0) (hr1 : Kd.C (Kd.int .i64) w A1 l1.length l1) (hc1 : l1.length ≤ c1) (h : haulierlaw09_LoadReckons.f k l0 l1 a2 = some true) :
    Calls Try.prog 5 #[.slice A0 l0.length c0, .slice A1 l1.length c1, .int .i64 a2] w fun e w' => e = .returned (.bool true) ∧ Below w.heap.size w w' := by
  have HR0 := Aside0.mk hr0
  have HC0 := Aside0.mk hc0
  clear hr0 hc0
  have HR1 := Aside0.mk hr1
  have HC1 := Aside0.mk hc1
  clear hr1 hc1
  have HB := Aside0.mk (Below.refl w.heap.size w)
  have H : ((haulierlaw09_Awake.f k).bind fun t208 => (if t208 = true then (if (l0.length : Int) > 1000 then (haulierlaw09_LoadReckons.j0 k l0 l1 a2 true) else (haulierlaw09_LoadReckons.j0 k l0 l1 a2 (decide ((l1.length : Int) > 1000)))) else (some false))) = some true := h
  clear h
  replace H := Option.bind_eq_some_iff.mp H
  obtain ⟨t208, A40, H⟩ := H
  replace H : (if t208 = true then (if (l0.length : Int) > 1000 then (haulierlaw09_LoadReckons.j0 k l0 l1 a2 true) else (haulierlaw09_LoadReckons.j0 k l0 l1 a2 (decide ((l1.length : Int) > 1000)))) else (some false)) = some true := H
  have A4 := Aside0.mk A40
  clear A40
  by_cases c5 : t208 = true
  · subst c5
    have H1 : (if (l0.length : Int) > 1000 then (haulierlaw09_LoadReckons.j0 k l0 l1 a2 true) else (haulierlaw09_LoadReckons.j0 k l0 l1 a2 (decide ((l1.length : Int) > 1000)))) = some true := by rw [if_pos rfl] at H; exact H
    clear H
    have H := H1
    clear H1
    have HC6 := Aside0.mk H
    clear H
    go_enter Try.func5, Try.ntmps5
    go_upto_region 3 with (first | ((with_reducible refine gate_callee (f := 7) rfl ?_); refine goesL_ (some 22) rfl rfl Try.func7 (by kernel_rfl) rfl #[] rfl (by (try simp only [List.map_toArray, List.map_cons, List.map_nil]); first | done | rfl | (simp only [List.length_drop, List.length_take]; rfl)) ?_; (with_reducible refine (haulierlaw09_Awake.calls k  true _ A4.out).mono ?_); rintro e w7 ⟨rfl, hb⟩; refine ⟨_, rfl, ?_⟩; have n0_ := Aside0.mk (below_step (by repeat (first | (with_reducible first | exact HB.out | apply below_alloc | apply pw_below_drewN | apply below_drew1) | exact HB.out)) hb); clear HB; have HB := n0_; clear n0_; (try clear hb); (try clear hb2); (try clear hk); (try clear hi)))
    (try simp only [Act.put, List.setIfInBounds_toArray, List.set_cons_zero, List.set_cons_succ])
    go_cut [31] (fun v31 wc => ∃ (kq : Nat) (x31_5 : Bool), v31 = .bool x31_5 ∧ Aside0 (haulierlaw09_LoadReckons.j0 kq l0 l1 a2 x31_5 = some true) ∧ Aside0 (kq ≤ k) ∧ Aside0 (Below w.heap.size w wc))
    case first =>
      have H := HC6.out
      clear HC6
      by_cases c8 : (l0.length : Int) > 1000
      · rw [if_pos c8] at H
        have c8b0 : decide (1000 < (l0.length : Int)) = true := decide_eq_true c8
        have c8b1 : decide (1000 < l0.length) = true := decide_eq_true (by omega)
        clear c8
        (first | rw [c8b0] | (simp only [i64_w, i32_w]; rw [c8b0]) | skip)
        have H' := Aside0.mk H
        clear H
        go_wp2
        go_meet
        case rel => exact ⟨_, (true), (by first | rfl | (simp; done) | (simp [*]; done)), H', ⟨by first | omega | exact Nat.le_refl _⟩, ⟨by repeat (first | (with_reducible first | exact HB.out | apply below_alloc | apply pw_below_drewN | apply below_drew1) | exact HB.out)⟩⟩
      · rw [if_neg c8] at H
        have c8b0 : decide (1000 < (l0.length : Int)) = false := decide_eq_false c8
        have c8b1 : decide (1000 < l0.length) = false := decide_eq_false (by omega)
        clear c8
        (first | rw [c8b0] | (simp only [i64_w, i32_w]; rw [c8b0]) | skip)
        have H' := Aside0.mk H
        clear H
        go_wp2
        go_meet
        case rel => exact ⟨_, (decide ((l1.length : Int) > 1000)), (by first | rfl | (simp; done) | (simp [*]; done)), H', ⟨by first | omega | exact Nat.le_refl _⟩, ⟨by repeat (first | (with_reducible first | exact HB.out | apply below_alloc | apply pw_below_drewN | apply below_drew1) | exact HB.out)⟩⟩
    case rest =>
      clear HC6
      try clear c1
      try clear p2
      try clear c5
      try clear c7
      try clear c8
      try clear c8b0
      try clear c8b1
      obtain ⟨kq, x31_5, rfl, HA, HJ5, HB⟩ := hcut
      cases kq with
      | zero => exact absurd HA.out (by simp [haulierlaw09_LoadReckons.j0])
      | succ kj5 =>
        have H := HA.out
        clear HA
        simp only [haulierlaw09_LoadReckons.j0] at H
        by_cases c9 : x31_5 = true
        · subst c9
          have H1 : (some true) = some true := rfl
          clear H
          have H := H1
          clear H1
          clear H
          go_wp2
          go_ret
          exact ⟨by first |  rfl | (simp [errW_none, errW_some] <;> rfl) | (simp [*, errW_none, errW_some] <;> rfl), by repeat (first | (with_reducible first | exact HB.out | apply below_alloc | apply pw_below_drewN | apply below_drew1) | exact HB.out)⟩
        · replace c9 := Bool.eq_false_iff.mpr c9
          subst c9
          have H1 : ((some (([] : List Int) : List Int)).bind fun y209 => (if y209.length + l0.length < 17592186044416 then ((some (y209 ++ l0 : List Int)).bind fun y212 => ((some (([] : List Int) : List Int)).bind fun y215 => (if y215.length + l1.length < 17592186044416 then ((some (y215 ++ l1 : List Int)).bind fun y218 => ((load_Add.f kj5 y212 y218).bind fun bt221 => ((haulierref09_Add.f kj5 l0 l1 false).bind fun bt225 => ((haulierlaw09_sumError.f kj5 l0 l1).bind fun t229 => (if t229 = 0 then ((haulierref05_SameInts.f kj5 bt221.1 bt225.1).bind fun t230 => (if t230 = true then (if bt221.2 = bt225.2 then (haulierlaw09_LoadReckons.j1 kj5 l0 l1 a2 y212 y218 false) else (haulierlaw09_LoadReckons.j1 kj5 l0 l1 a2 y212 y218 true)) else (haulierlaw09_LoadReckons.j1 kj5 l0 l1 a2 y212 y218 true))) else (if (bt221.1.length : Int) = 0 then (haulierlaw09_LoadReckons.j1 kj5 l0 l1 a2 y212 y218 (bt221.2 != t229)) else (haulierlaw09_LoadReckons.j1 kj5 l0 l1 a2 y212 y218 true))))))) else (none)))) else (none))) = some true := by rw [if_neg (show ¬ (false = true) by decide)] at H; exact H
          clear H
          have H := H1
          clear H1
          obtain ⟨y209, hy209⟩ : ∃ y_ : List Int, y_ = (([] : List Int)) := ⟨_, rfl⟩
          replace H : (if y209.length + l0.length < 17592186044416 then ((some (y209 ++ l0 : List Int)).bind fun y212 => ((some (([] : List Int) : List Int)).bind fun y215 => (if y215.length + l1.length < 17592186044416 then ((some (y215 ++ l1 : List Int)).bind fun y218 => ((load_Add.f kj5 y212 y218).bind fun bt221 => ((haulierref09_Add.f kj5 l0 l1 false).bind fun bt225 => ((haulierlaw09_sumError.f kj5 l0 l1).bind fun t229 => (if t229 = 0 then ((haulierref05_SameInts.f kj5 bt221.1 bt225.1).bind fun t230 => (if t230 = true then (if bt221.2 = bt225.2 then (haulierlaw09_LoadReckons.j1 kj5 l0 l1 a2 y212 y218 false) else (haulierlaw09_LoadReckons.j1 kj5 l0 l1 a2 y212 y218 true)) else (haulierlaw09_LoadReckons.j1 kj5 l0 l1 a2 y212 y218 true))) else (if (bt221.1.length : Int) = 0 then (haulierlaw09_LoadReckons.j1 kj5 l0 l1 a2 y212 y218 (bt221.2 != t229)) else (haulierlaw09_LoadReckons.j1 kj5 l0 l1 a2 y212 y218 true))))))) else (none)))) else (none)) = some true := by first | (rw [hy209]; with_reducible exact H) | (have H2_ := (Option.bind_some _ _).symm.trans H; rw [hy209]; with_reducible exact H2_) | (have H2_ := (Option.bind_some _ _).symm.trans H; with_reducible exact H2_) | with_reducible exact H | (rw [hy209]; exact H) | exact H
          have Ny209 := Aside0.mk hy209
          clear hy209
          by_cases c10 : y209.length + l0.length < 17592186044416
          · rw [if_pos c10] at H
            have LMc10 := Aside0.mk c10
            clear c10
            obtain ⟨y212, hy212⟩ : ∃ y_ : List Int, y_ = (y209 ++ l0) := ⟨_, rfl⟩
            replace H : ((some (([] : List Int) : List Int)).bind fun y215 => (if y215.length + l1.length < 17592186044416 then ((some (y215 ++ l1 : List Int)).bind fun y218 => ((load_Add.f kj5 y212 y218).bind fun bt221 => ((haulierref09_Add.f kj5 l0 l1 false).bind fun bt225 => ((haulierlaw09_sumError.f kj5 l0 l1).bind fun t229 => (if t229 = 0 then ((haulierref05_SameInts.f kj5 bt221.1 bt225.1).bind fun t230 => (if t230 = true then (if bt221.2 = bt225.2 then (haulierlaw09_LoadReckons.j1 kj5 l0 l1 a2 y212 y218 false) else (haulierlaw09_LoadReckons.j1 kj5 l0 l1 a2 y212 y218 true)) else (haulierlaw09_LoadReckons.j1 kj5 l0 l1 a2 y212 y218 true))) else (if (bt221.1.length : Int) = 0 then (haulierlaw09_LoadReckons.j1 kj5 l0 l1 a2 y212 y218 (bt221.2 != t229)) else (haulierlaw09_LoadReckons.j1 kj5 l0 l1 a2 y212 y218 true))))))) else (none))) = some true := by first | (rw [hy212]; with_reducible exact H) | (have H2_ := (Option.bind_some _ _).symm.trans H; rw [hy212]; with_reducible exact H2_) | (have H2_ := (Option.bind_some _ _).symm.trans H; with_reducible exact H2_) | with_reducible exact H | (rw [hy212]; exact H) | exact H
            have Ny212 := Aside0.mk hy212
            clear hy212
            obtain ⟨y215, hy215⟩ : ∃ y_ : List Int, y_ = (([] : List Int)) := ⟨_, rfl⟩
            replace H : (if y215.length + l1.length < 17592186044416 then ((some (y215 ++ l1 : List Int)).bind fun y218 => ((load_Add.f kj5 y212 y218).bind fun bt221 => ((haulierref09_Add.f kj5 l0 l1 false).bind fun bt225 => ((haulierlaw09_sumError.f kj5 l0 l1).bind fun t229 => (if t229 = 0 then ((haulierref05_SameInts.f kj5 bt221.1 bt225.1).bind fun t230 => (if t230 = true then (if bt221.2 = bt225.2 then (haulierlaw09_LoadReckons.j1 kj5 l0 l1 a2 y212 y218 false) else (haulierlaw09_LoadReckons.j1 kj5 l0 l1 a2 y212 y218 true)) else (haulierlaw09_LoadReckons.j1 kj5 l0 l1 a2 y212 y218 true))) else (if (bt221.1.length : Int) = 0 then (haulierlaw09_LoadReckons.j1 kj5 l0 l1 a2 y212 y218 (bt221.2 != t229)) else (haulierlaw09_LoadReckons.j1 kj5 l0 l1 a2 y212 y218 true))))))) else (none)) = some true := by first | (rw [hy215]; with_reducible exact H) | (have H2_ := (Option.bind_some _ _).symm.trans H; rw [hy215]; with_reducible exact H2_) | (have H2_ := (Option.bind_some _ _).symm.trans H; with_reducible exact H2_) | with_reducible exact H | (rw [hy215]; exact H) | exact H
            have Ny215 := Aside0.mk hy215
            clear hy215
            by_cases c11 : y215.length + l1.length < 17592186044416
            · rw [if_pos c11] at H
              have LMc11 := Aside0.mk c11
              clear c11
              obtain ⟨y218, hy218⟩ : ∃ y_ : List Int, y_ = (y215 ++ l1) := ⟨_, rfl⟩
              replace H : ((load_Add.f kj5 y212 y218).bind fun bt221 => ((haulierref09_Add.f kj5 l0 l1 false).bind fun bt225 => ((haulierlaw09_sumError.f kj5 l0 l1).bind fun t229 => (if t229 = 0 then ((haulierref05_SameInts.f kj5 bt221.1 bt225.1).bind fun t230 => (if t230 = true then (if bt221.2 = bt225.2 then (haulierlaw09_LoadReckons.j1 kj5 l0 l1 a2 y212 y218 false) else (haulierlaw09_LoadReckons.j1 kj5 l0 l1 a2 y212 y218 true)) else (haulierlaw09_LoadReckons.j1 kj5 l0 l1 a2 y212 y218 true))) else (if (bt221.1.length : Int) = 0 then (haulierlaw09_LoadReckons.j1 kj5 l0 l1 a2 y212 y218 (bt221.2 != t229)) else (haulierlaw09_LoadReckons.j1 kj5 l0 l1 a2 y212 y218 true)))))) = some true := by first | (rw [hy218]; with_reducible exact H) | (have H2_ := (Option.bind_some _ _).symm.trans H; rw [hy218]; with_reducible exact H2_) | (have H2_ := (Option.bind_some _ _).symm.trans H; with_reducible exact H2_) | with_reducible exact H | (rw [hy218]; exact H) | exact H
              have Ny218 := Aside0.mk hy218
              clear hy218
              replace H := Option.bind_eq_some_iff.mp H
              obtain ⟨⟨t221, t222⟩, A120, H⟩ := H
              replace H : ((haulierref09_Add.f kj5 l0 l1 false).bind fun bt225 => ((haulierlaw09_sumError.f kj5 l0 l1).bind fun t229 => (if t229 = 0 then ((haulierref05_SameInts.f kj5 t221 bt225.1).bind fun t230 => (if t230 = true then (if t222 = bt225.2 then (haulierlaw09_LoadReckons.j1 kj5 l0 l1 a2 y212 y218 false) else (haulierlaw09_LoadReckons.j1 kj5 l0 l1 a2 y212 y218 true)) else (haulierlaw09_LoadReckons.j1 kj5 l0 l1 a2 y212 y218 true))) else (if (t221.length : Int) = 0 then (haulierlaw09_LoadReckons.j1 kj5 l0 l1 a2 y212 y218 (t222 != t229)) else (haulierlaw09_LoadReckons.j1 kj5 l0 l1 a2 y212 y218 true))))) = some true := H
              have A12 := Aside0.mk A120
              clear A120
              replace H := Option.bind_eq_some_iff.mp H
              obtain ⟨⟨t225, t226⟩, A130, H⟩ := H
              replace H : ((haulierlaw09_sumError.f kj5 l0 l1).bind fun t229 => (if t229 = 0 then ((haulierref05_SameInts.f kj5 t221 t225).bind fun t230 => (if t230 = true then (if t222 = t226 then (haulierlaw09_LoadReckons.j1 kj5 l0 l1 a2 y212 y218 false) else (haulierlaw09_LoadReckons.j1 kj5 l0 l1 a2 y212 y218 true)) else (haulierlaw09_LoadReckons.j1 kj5 l0 l1 a2 y212 y218 true))) else (if (t221.length : Int) = 0 then (haulierlaw09_LoadReckons.j1 kj5 l0 l1 a2 y212 y218 (t222 != t229)) else (haulierlaw09_LoadReckons.j1 kj5 l0 l1 a2 y212 y218 true)))) = some true := H
              have A13 := Aside0.mk A130
              clear A130
              have HC14 := Aside0.mk H
              clear H
              go_upto_region 8 with (first | ((with_reducible refine gate_dst (N := 32) rfl ?_); (try (refine gate_guard (by rfl) ?_; dsimp only)); refine Kd.R_lit (Kd.int .i64) _ 3 ?hg (N := 32) ?hd (xs := ([] : List Int)) (inner := []) (ok := fun _ => True) (okp := fun _ => True) ?hr ?hp (fun _ hk => hk) trivial (Below.refl _ _) (Nat.le_refl _) (by simp) ?_; (case hd => rfl); (case hg => rfl); (case hr => first | (go_simp; done) | (go_simp; rfl)); (case hp => exact (Reps.none _ _)); intro v210 w15 ho16 hb hg_ hnew_; clear hg_ hnew_; (first | rw [← Ny209.out] at ho16 | (simp only [Int.reduceToNat] at ho16; rw [← Ny209.out] at ho16)); have n0_ := Aside0.mk (Kd.R_lower ho16 (below_size (by repeat (first | (with_reducible first | exact HB.out | apply below_alloc | apply pw_below_drewN | apply below_drew1) | exact HB.out)))); have n1_ := Aside0.mk (below_step (by repeat (first | (with_reducible first | exact HB.out | apply below_alloc | apply pw_below_drewN | apply below_drew1) | exact HB.out)) hb); clear HB; have HO211 := n0_; have HB := n1_; clear n0_ n1_; clear hb ho16) | ((with_reducible refine gate_builtin (b := .append) (xs := #[.tmp 32, .tmp 33]) rfl ?_); (try (refine gate_guard (by rfl) ?_; dsimp only)); at_builtin; refine Kd.R_append_rows (Kd.int .i64) (w0 := w) w.heap.size rfl (.tmp 32) (.tmp 33) 22 3 (.int .i64 0) 8 rfl Try.underlying22 info3 rfl (by decide) (by omega) v210 y209 l0 _ _ _ (fun _ => True) (fun _ => False) rfl rfl ?aO ?aR (fun _ _ h => h) (fun _ h => h.elim) ?aF ?aB ?aS ?aL ?_; (case aR => repeat (first | exact (Kd.C_below HR0.out HB.out) | (with_reducible refine Kd.C_alloc ?_ _) | (with_reducible refine Kd.C_drewN ?_ _) | (with_reducible refine Kd.C_drew ?_))); (case aB => exact (by repeat (first | (with_reducible first | exact HB.out | apply below_alloc | apply pw_below_drewN | apply below_drew1) | exact HB.out))); (case aF => exact (fun _ _ => trivial)); (case aO => exact (by (with_reducible repeat (first | apply Kd.R_alloc | apply Kd.R_drewN | apply Kd.R_drew)); exact HO211.out)); (case aS => exact (below_size (by repeat (first | (with_reducible first | exact HB.out | apply below_alloc | apply pw_below_drewN | apply below_drew1) | exact HB.out)))); (case aL => have := LMc10.out; omega); intro v213 w17 ho hb hg hat; rw [← Ny212.out] at ho; have n0_ := Aside0.mk (hb); have n1_ := Aside0.mk (ho); clear HB; clear HO211; have HB := n0_; have HO214 := n1_; clear n0_ n1_; clear ho hb hg hat) | ((with_reducible refine gate_dst (N := 35) rfl ?_); (try (refine gate_guard (by rfl) ?_; dsimp only)); refine Kd.R_lit (Kd.int .i64) _ 3 ?hg (N := 35) ?hd (xs := ([] : List Int)) (inner := []) (ok := fun _ => True) (okp := fun _ => True) ?hr ?hp (fun _ hk => hk) trivial (Below.refl _ _) (Nat.le_refl _) (by simp) ?_; (case hd => rfl); (case hg => rfl); (case hr => first | (go_simp; done) | (go_simp; rfl)); (case hp => exact (Reps.none _ _)); intro v216 w18 ho19 hb hg_ hnew_; clear hg_ hnew_; (first | rw [← Ny215.out] at ho19 | (simp only [Int.reduceToNat] at ho19; rw [← Ny215.out] at ho19)); have n0_ := Aside0.mk (Kd.R_elder' (by (with_reducible repeat (first | apply Kd.R_alloc | apply Kd.R_drewN | apply Kd.R_drew)); exact HO214.out) (Kd.R_base ho19) hb); have n1_ := Aside0.mk (Kd.R_lower (Kd.R_new' ho19 (Kd.R_lt (by (with_reducible repeat (first | apply Kd.R_alloc | apply Kd.R_drewN | apply Kd.R_drew)); exact HO214.out))) (below_size (by repeat (first | (with_reducible first | exact HB.out | apply below_alloc | apply pw_below_drewN | apply below_drew1) | exact HB.out)))); have n2_ := Aside0.mk (below_step (by repeat (first | (with_reducible first | exact HB.out | apply below_alloc | apply pw_below_drewN | apply below_drew1) | exact HB.out)) hb); clear HO214; clear HB; have HO214 := n0_; have HO217 := n1_; have HB := n2_; clear n0_ n1_ n2_; clear hb ho19) | ((with_reducible refine gate_builtin (b := .append) (xs := #[.tmp 35, .tmp 36]) rfl ?_); (try (refine gate_guard (by rfl) ?_; dsimp only)); at_builtin; refine Kd.R_append_rows (Kd.int .i64) (w0 := w) w.heap.size rfl (.tmp 35) (.tmp 36) 22 3 (.int .i64 0) 8 rfl Try.underlying22 info3 rfl (by decide) (by omega) v216 y215 l1 _ _ _ (fun k_ => some k_ ≠ (v213 : Value).ownBlock) (fun _ => False) rfl rfl ?aO ?aR (fun _ _ h => h) (fun _ h => h.elim) ?aF ?aB ?aS ?aL ?_; (case aR => repeat (first | exact (Kd.C_below HR1.out HB.out) | (with_reducible refine Kd.C_alloc ?_ _) | (with_reducible refine Kd.C_drewN ?_ _) | (with_reducible refine Kd.C_drew ?_))); (case aB => exact (by repeat (first | (with_reducible first | exact HB.out | apply below_alloc | apply pw_below_drewN | apply below_drew1) | exact HB.out))); (case aF => exact (fun k_ hk => Kd.fresh' (Kd.R_lt (by (with_reducible repeat (first | apply Kd.R_alloc | apply Kd.R_drewN | apply Kd.R_drew)); exact HO214.out)) k_ hk)); (case aO => exact (by (with_reducible repeat (first | apply Kd.R_alloc | apply Kd.R_drewN | apply Kd.R_drew)); exact Kd.R_mono HO217.out (fun _ hk => hk.2))); (case aS => exact (below_size (by repeat (first | (with_reducible first | exact HB.out | apply below_alloc | apply pw_below_drewN | apply below_drew1) | exact HB.out)))); (case aL => have := LMc11.out; omega); intro v219 w20 ho hb hg hat; rw [← Ny218.out] at ho; have n0_ := Aside0.mk (Kd.R_after (ok := (fun _ => True)) (by (with_reducible repeat (first | apply Kd.R_alloc | apply Kd.R_drewN | apply Kd.R_drew)); exact HO214.out) hg hat); have n1_ := Aside0.mk (hb); have n2_ := Aside0.mk (ho); clear HO214; clear HB; clear HO217; have HO214 := n0_; have HB := n1_; have HO220 := n2_; clear n0_ n1_ n2_; clear ho hb hg hat; obtain ⟨Ao21, co21, eo21⟩ := Kd.R_slice HO214.out; (first | subst eo21 | (injection eo21 with ea_ en_ ec_; (first | subst ea_ | (injection ea_ with ea_; subst ea_)); subst ec_; clear en_)); obtain ⟨Ao22, co22, eo22⟩ := Kd.R_slice HO220.out; (first | subst eo22 | (injection eo22 with ea_ en_ ec_; (first | subst ea_ | (injection ea_ with ea_; subst ea_)); subst ec_; clear en_))) | ((with_reducible refine gate_callee (f := 10) rfl ?_); refine goesL_ (some 41) rfl rfl Try.func10 (by kernel_rfl) rfl #[.slice Ao21 y212.length co21, .slice Ao22 y218.length co22] rfl (by (try simp only [List.map_toArray, List.map_cons, List.map_nil]); first | done | rfl | (simp only [List.length_drop, List.length_take]; rfl)) ?_; (with_reducible refine (load_Add.calls kj5 _ _ y212 _ _ y218 t221 t222 _ ?side1 ?side2 ?side3 ?side4 A12.out).mono ?_); (case side1 => repeat (first | exact (Kd.R_reads' HO214.out).2.2 | (with_reducible refine Kd.C_alloc ?_ _) | (with_reducible refine Kd.C_drewN ?_ _) | (with_reducible refine Kd.C_drew ?_))); (case side2 => exact (Kd.R_reads' HO214.out).2.1); (case side3 => repeat (first | exact (Kd.R_reads' HO220.out).2.2 | (with_reducible refine Kd.C_alloc ?_ _) | (with_reducible refine Kd.C_drewN ?_ _) | (with_reducible refine Kd.C_drew ?_))); (case side4 => exact (Kd.R_reads' HO220.out).2.1); rintro e w23 ⟨v223, rfl, ho0, hb⟩; refine ⟨_, rfl, ?_⟩; have n0_ := Aside0.mk (Kd.R_elder' (by (with_reducible repeat (first | apply Kd.R_alloc | apply Kd.R_drewN | apply Kd.R_drew)); exact HO214.out) (Kd.R_base ho0) hb); have n1_ := Aside0.mk (Kd.R_elder' (by (with_reducible repeat (first | apply Kd.R_alloc | apply Kd.R_drewN | apply Kd.R_drew)); exact HO220.out) (Kd.R_base ho0) hb); have n2_ := Aside0.mk (Kd.R_lower (Kd.R_new' (Kd.R_new' ho0 (Kd.R_lt (by (with_reducible repeat (first | apply Kd.R_alloc | apply Kd.R_drewN | apply Kd.R_drew)); exact HO214.out))) (Kd.R_lt (by (with_reducible repeat (first | apply Kd.R_alloc | apply Kd.R_drewN | apply Kd.R_drew)); exact HO220.out))) (below_size (by repeat (first | (with_reducible first | exact HB.out | apply below_alloc | apply pw_below_drewN | apply below_drew1) | exact HB.out)))); have n3_ := Aside0.mk (below_step (by repeat (first | (with_reducible first | exact HB.out | apply below_alloc | apply pw_below_drewN | apply below_drew1) | exact HB.out)) hb); clear HO214; clear HO220; clear HB; have HO214 := n0_; have HO220 := n1_; have HO224 := n2_; have HB := n3_; clear n0_ n1_ n2_ n3_; (try clear hb); (try clear hb2); (try clear hk); (try clear hi); (try clear ho0)) | ((with_reducible refine gate_callee (f := 14) rfl ?_); refine goesL_ (some 47) rfl rfl Try.func14 (by kernel_rfl) rfl #[.slice A0 l0.length c0, .slice A1 l1.length c1, .bool false] rfl (by (try simp only [List.map_toArray, List.map_cons, List.map_nil]); first | done | rfl | (simp only [List.length_drop, List.length_take]; rfl)) ?_; (with_reducible refine (haulierref09_Add.calls kj5 _ _ l0 _ _ l1 false t225 t226 _ ?side1 ?side2 ?side3 ?side4 A13.out).mono ?_); (case side1 => repeat (first | exact (Kd.C_below HR0.out HB.out) | (with_reducible refine Kd.C_alloc ?_ _) | (with_reducible refine Kd.C_drewN ?_ _) | (with_reducible refine Kd.C_drew ?_))); (case side2 => exact HC0.out); (case side3 => repeat (first | exact (Kd.C_below HR1.out HB.out) | (with_reducible refine Kd.C_alloc ?_ _) | (with_reducible refine Kd.C_drewN ?_ _) | (with_reducible refine Kd.C_drew ?_))); (case side4 => exact HC1.out); rintro e w24 ⟨v227, rfl, ho0, hb⟩; refine ⟨_, rfl, ?_⟩; have n0_ := Aside0.mk (Kd.R_elder' (by (with_reducible repeat (first | apply Kd.R_alloc | apply Kd.R_drewN | apply Kd.R_drew)); exact HO214.out) (Kd.R_base ho0) hb); have n1_ := Aside0.mk (Kd.R_elder' (by (with_reducible repeat (first | apply Kd.R_alloc | apply Kd.R_drewN | apply Kd.R_drew)); exact HO220.out) (Kd.R_base ho0) hb); have n2_ := Aside0.mk (Kd.R_elder' (by (with_reducible repeat (first | apply Kd.R_alloc | apply Kd.R_drewN | apply Kd.R_drew)); exact HO224.out) (Kd.R_base ho0) hb); have n3_ := Aside0.mk (Kd.R_lower (Kd.R_new' (Kd.R_new' (Kd.R_new' ho0 (Kd.R_lt (by (with_reducible repeat (first | apply Kd.R_alloc | apply Kd.R_drewN | apply Kd.R_drew)); exact HO214.out))) (Kd.R_lt (by (with_reducible repeat (first | apply Kd.R_alloc | apply Kd.R_drewN | apply Kd.R_drew)); exact HO220.out))) (Kd.R_lt (by (with_reducible repeat (first | apply Kd.R_alloc | apply Kd.R_drewN | apply Kd.R_drew)); exact HO224.out))) (below_size (by repeat (first | (with_reducible first | exact HB.out | apply below_alloc | apply pw_below_drewN | apply below_drew1) | exact HB.out)))); have n4_ := Aside0.mk (below_step (by repeat (first | (with_reducible first | exact HB.out | apply below_alloc | apply pw_below_drewN | apply below_drew1) | exact HB.out)) hb); clear HO214; clear HO220; clear HO224; clear HB; have HO214 := n0_; have HO220 := n1_; have HO224 := n2_; have HO228 := n3_; have HB := n4_; clear n0_ n1_ n2_ n3_ n4_; (try clear hb); (try clear hb2); (try clear hk); (try clear hi); (try clear ho0)))
              (try simp only [Act.put, List.setIfInBounds_toArray, List.set_cons_zero, List.set_cons_succ])
              go_cut [82] (fun v82 wc => ∃ (kq : Nat) (x82_13 : Bool), v82 = .bool x82_13 ∧ Aside0 (haulierlaw09_LoadReckons.j1 kq l0 l1 a2 y212 y218 x82_13 = some true) ∧ Aside0 (kq ≤ kj5) ∧ Aside0 (Kd.R (Kd.int .i64) 3 wc w.heap.size (fun k_ => some k_ ≠ ((.slice Ao22 y218.length co22) : Value).ownBlock) (.slice Ao21 y212.length co21) y212) ∧ Aside0 (Kd.R (Kd.int .i64) 3 wc w.heap.size (fun k_ => some k_ ≠ ((.slice Ao21 y212.length co21) : Value).ownBlock) (.slice Ao22 y218.length co22) y218) ∧ Aside0 (Below w.heap.size w wc))
              case first =>
                have H := HC14.out
                clear HC14
                replace H := Option.bind_eq_some_iff.mp H
                obtain ⟨t229, A250, H⟩ := H
                replace H : (if t229 = 0 then ((haulierref05_SameInts.f kj5 t221 t225).bind fun t230 => (if t230 = true then (if t222 = t226 then (haulierlaw09_LoadReckons.j1 kj5 l0 l1 a2 y212 y218 false) else (haulierlaw09_LoadReckons.j1 kj5 l0 l1 a2 y212 y218 true)) else (haulierlaw09_LoadReckons.j1 kj5 l0 l1 a2 y212 y218 true))) else (if (t221.length : Int) = 0 then (haulierlaw09_LoadReckons.j1 kj5 l0 l1 a2 y212 y218 (t222 != t229)) else (haulierlaw09_LoadReckons.j1 kj5 l0 l1 a2 y212 y218 true))) = some true := H
                have A25 := Aside0.mk A250
                clear A250
                by_cases c26 : t229 = 0
                · rw [if_pos c26] at H
                  have c26b0 : (t229 == 0) = true := beq_iff_eq.mpr c26
                  have c26b1 : (t229 != 0) = false := bne_eq_false_iff_eq.mpr c26
                  clear c26
                  (first | rw [c26b0] | (simp only [i64_w, i32_w]; rw [c26b0]) | skip)
                  replace H := Option.bind_eq_some_iff.mp H
                  obtain ⟨t230, A270, H⟩ := H
                  replace H : (if t230 = true then (if t222 = t226 then (haulierlaw09_LoadReckons.j1 kj5 l0 l1 a2 y212 y218 false) else (haulierlaw09_LoadReckons.j1 kj5 l0 l1 a2 y212 y218 true)) else (haulierlaw09_LoadReckons.j1 kj5 l0 l1 a2 y212 y218 true)) = some true := H
                  have A27 := Aside0.mk A270
                  clear A270
                  by_cases c28 : t230 = true
                  · subst c28
                    have H1 : (if t222 = t226 then (haulierlaw09_LoadReckons.j1 kj5 l0 l1 a2 y212 y218 false) else (haulierlaw09_LoadReckons.j1 kj5 l0 l1 a2 y212 y218 true)) = some true := by rw [if_pos rfl] at H; exact H
                    clear H
                    have H := H1
                    clear H1
                    by_cases c29 : t222 = t226
                    · rw [if_pos c29] at H
                      have c29b0 : (t222 == t226) = true := beq_iff_eq.mpr c29
                      have c29b1 : (t222 != t226) = false := bne_eq_false_iff_eq.mpr c29
                      clear c29
                      have H' := Aside0.mk H
                      clear H
                      go_wp2_with (first | (go_at_call 15; (with_reducible refine (haulierlaw09_sumError.calls kj5 _ _ l0 _ _ l1 t229 _ ?side1 ?side2 ?side3 ?side4 A25.out).mono ?_); (case side1 => repeat (first | exact (Kd.C_below HR0.out HB.out) | (with_reducible refine Kd.C_alloc ?_ _) | (with_reducible refine Kd.C_drewN ?_ _) | (with_reducible refine Kd.C_drew ?_))); (case side2 => exact HC0.out); (case side3 => repeat (first | exact (Kd.C_below HR1.out HB.out) | (with_reducible refine Kd.C_alloc ?_ _) | (with_reducible refine Kd.C_drewN ?_ _) | (with_reducible refine Kd.C_drew ?_))); (case side4 => exact HC1.out); rintro e w30 ⟨rfl, hb⟩; have n0_ := Aside0.mk (Kd.R_below (by (with_reducible repeat (first | apply Kd.R_alloc | apply Kd.R_drewN | apply Kd.R_drew)); exact HO214.out) hb); have n1_ := Aside0.mk (Kd.R_below (by (with_reducible repeat (first | apply Kd.R_alloc | apply Kd.R_drewN | apply Kd.R_drew)); exact HO220.out) hb); have n2_ := Aside0.mk (Kd.R_below (by (with_reducible repeat (first | apply Kd.R_alloc | apply Kd.R_drewN | apply Kd.R_drew)); exact HO224.out) hb); have n3_ := Aside0.mk (Kd.R_below (by (with_reducible repeat (first | apply Kd.R_alloc | apply Kd.R_drewN | apply Kd.R_drew)); exact HO228.out) hb); have n4_ := Aside0.mk (below_step (by repeat (first | (with_reducible first | exact HB.out | apply below_alloc | apply pw_below_drewN | apply below_drew1) | exact HB.out)) hb); clear HO214; clear HO220; clear HO224; clear HO228; clear HB; have HO214 := n0_; have HO220 := n1_; have HO224 := n2_; have HO228 := n3_; have HB := n4_; clear n0_ n1_ n2_ n3_ n4_; (try clear hb); (try clear hb2); (try clear hk); (try clear hi); obtain ⟨Ao31, co31, eo31⟩ := Kd.R_slice HO224.out; (first | subst eo31 | (injection eo31 with ea_ en_ ec_; (first | subst ea_ | (injection ea_ with ea_; subst ea_)); subst ec_; clear en_)); obtain ⟨Ao32, co32, eo32⟩ := Kd.R_slice HO228.out; (first | subst eo32 | (injection eo32 with ea_ en_ ec_; (first | subst ea_ | (injection ea_ with ea_; subst ea_)); subst ec_; clear en_))) | (go_at_call 13; (with_reducible refine (haulierref05_SameInts.calls kj5 _ _ t221 _ _ t225 true _ ?side1 ?side2 ?side3 ?side4 A27.out).mono ?_); (case side1 => repeat (first | exact (Kd.R_reads' HO224.out).2.2 | (with_reducible refine Kd.C_alloc ?_ _) | (with_reducible refine Kd.C_drewN ?_ _) | (with_reducible refine Kd.C_drew ?_))); (case side2 => exact (Kd.R_reads' HO224.out).2.1); (case side3 => repeat (first | exact (Kd.R_reads' HO228.out).2.2 | (with_reducible refine Kd.C_alloc ?_ _) | (with_reducible refine Kd.C_drewN ?_ _) | (with_reducible refine Kd.C_drew ?_))); (case side4 => exact (Kd.R_reads' HO228.out).2.1); rintro e w' ⟨rfl, ⟨nd, rfl⟩⟩))
                      go_meet
                      case rel => exact ⟨_, (false), (by first | rfl | (simp; done) | (simp [*]; done)), H', ⟨by have := HJ5.out; first | omega | exact Nat.le_refl _⟩, ⟨by (with_reducible repeat (first | apply Kd.R_alloc | apply Kd.R_drewN | apply Kd.R_drew)); exact Kd.R_mono HO214.out (fun _ hk => hk.1.1.2)⟩, ⟨by (with_reducible repeat (first | apply Kd.R_alloc | apply Kd.R_drewN | apply Kd.R_drew)); exact Kd.R_mono HO220.out (fun _ hk => hk.1.1)⟩, ⟨by repeat (first | (with_reducible first | exact HB.out | apply below_alloc | apply pw_below_drewN | apply below_drew1) | exact HB.out)⟩⟩
                    · rw [if_neg c29] at H
                      have c29b0 : (t222 == t226) = false := beq_eq_false_iff_ne.mpr c29
                      have c29b1 : (t222 != t226) = true := bne_iff_ne.mpr c29
                      exact absurd H (by cases kj5 <;> simp [haulierlaw09_LoadReckons.j1])
                  · replace c28 := Bool.eq_false_iff.mpr c28
                    subst c28
                    have H1 : (haulierlaw09_LoadReckons.j1 kj5 l0 l1 a2 y212 y218 true) = some true := by rw [if_neg (show ¬ (false = true) by decide)] at H; exact H
                    clear H
                    have H := H1
                    clear H1
                    exact absurd H (by cases kj5 <;> simp [haulierlaw09_LoadReckons.j1])
                · rw [if_neg c26] at H
                  have c26b0 : (t229 == 0) = false := beq_eq_false_iff_ne.mpr c26
                  have c26b1 : (t229 != 0) = true := bne_iff_ne.mpr c26
                  (first | rw [c26b0] | (simp only [i64_w, i32_w]; rw [c26b0]) | skip)
                  by_cases c33 : (t221.length : Int) = 0
                  · rw [if_pos c33] at H
                    have c33b0 : ((t221.length : Int) == 0) = true := beq_iff_eq.mpr c33
                    have c33b1 : ((t221.length : Int) != 0) = false := bne_eq_false_iff_eq.mpr c33
                    clear c33
                    have H' := Aside0.mk H
                    clear H
                    go_wp2_with (first | (go_at_call 15; (with_reducible refine (haulierlaw09_sumError.calls kj5 _ _ l0 _ _ l1 t229 _ ?side1 ?side2 ?side3 ?side4 A25.out).mono ?_); (case side1 => repeat (first | exact (Kd.C_below HR0.out HB.out) | (with_reducible refine Kd.C_alloc ?_ _) | (with_reducible refine Kd.C_drewN ?_ _) | (with_reducible refine Kd.C_drew ?_))); (case side2 => exact HC0.out); (case side3 => repeat (first | exact (Kd.C_below HR1.out HB.out) | (with_reducible refine Kd.C_alloc ?_ _) | (with_reducible refine Kd.C_drewN ?_ _) | (with_reducible refine Kd.C_drew ?_))); (case side4 => exact HC1.out); rintro e w34 ⟨rfl, hb⟩; have n0_ := Aside0.mk (Kd.R_below (by (with_reducible repeat (first | apply Kd.R_alloc | apply Kd.R_drewN | apply Kd.R_drew)); exact HO214.out) hb); have n1_ := Aside0.mk (Kd.R_below (by (with_reducible repeat (first | apply Kd.R_alloc | apply Kd.R_drewN | apply Kd.R_drew)); exact HO220.out) hb); have n2_ := Aside0.mk (Kd.R_below (by (with_reducible repeat (first | apply Kd.R_alloc | apply Kd.R_drewN | apply Kd.R_drew)); exact HO224.out) hb); have n3_ := Aside0.mk (Kd.R_below (by (with_reducible repeat (first | apply Kd.R_alloc | apply Kd.R_drewN | apply Kd.R_drew)); exact HO228.out) hb); have n4_ := Aside0.mk (below_step (by repeat (first | (with_reducible first | exact HB.out | apply below_alloc | apply pw_below_drewN | apply below_drew1) | exact HB.out)) hb); clear HO214; clear HO220; clear HO224; clear HO228; clear HB; have HO214 := n0_; have HO220 := n1_; have HO224 := n2_; have HO228 := n3_; have HB := n4_; clear n0_ n1_ n2_ n3_ n4_; (try clear hb); (try clear hb2); (try clear hk); (try clear hi); obtain ⟨Ao35, co35, eo35⟩ := Kd.R_slice HO224.out; (first | subst eo35 | (injection eo35 with ea_ en_ ec_; (first | subst ea_ | (injection ea_ with ea_; subst ea_)); subst ec_; clear en_))))
                    go_meet
                    case rel => exact ⟨_, ((t222 != t229)), (by first | rfl | (simp; done) | (simp [*]; done)), H', ⟨by have := HJ5.out; first | omega | exact Nat.le_refl _⟩, ⟨by (with_reducible repeat (first | apply Kd.R_alloc | apply Kd.R_drewN | apply Kd.R_drew)); exact Kd.R_mono HO214.out (fun _ hk => hk.1.1.2)⟩, ⟨by (with_reducible repeat (first | apply Kd.R_alloc | apply Kd.R_drewN | apply Kd.R_drew)); exact Kd.R_mono HO220.out (fun _ hk => hk.1.1)⟩, ⟨by repeat (first | (with_reducible first | exact HB.out | apply below_alloc | apply pw_below_drewN | apply below_drew1) | exact HB.out)⟩⟩
                  · rw [if_neg c33] at H
                    have c33b0 : ((t221.length : Int) == 0) = false := beq_eq_false_iff_ne.mpr c33
                    have c33b1 : ((t221.length : Int) != 0) = true := bne_iff_ne.mpr c33
                    have c33b2 : ¬ (t221 = []) := fun h_ => c33 (by rw [h_]; rfl)
                    exact absurd H (by cases kj5 <;> simp [haulierlaw09_LoadReckons.j1])
              case rest =>
                clear HC14
                try clear c1
                try clear c2
                try clear p2
                try clear c3
                try clear c5
                try clear c7
                try clear c8
                try clear c8b0
                try clear c8b1
                try clear c9
                try clear c10
                try clear c11
                try clear c14
                try clear c26
                try clear c26b0
                try clear c26b1
                try clear c28
                try clear c29
                try clear c29b0
                try clear c29b1
                try clear c33
                try clear c33b0
                try clear c33b1
                try clear c33b2
                try clear p2
                obtain ⟨kq, x82_13, rfl, HA, HJ13, HO_7, HO_8, HB⟩ := hcut
                cases kq with
                | zero => exact absurd HA.out (by simp [haulierlaw09_LoadReckons.j1])
                | succ kj13 =>
                  have H := HA.out
                  clear HA
                  simp only [haulierlaw09_LoadReckons.j1] at H
                  by_cases c36 : x82_13 = true
                  · subst c36
                    have H1 : (some false) = some true := by rw [if_pos rfl] at H; exact H
                    clear H
                    have H := H1
                    clear H1
                    exact absurd H (by simp)
                  · replace c36 := Bool.eq_false_iff.mpr c36
                    subst c36
                    have H1 : ((load_Sub.f kj13 y212 y218).bind fun bt231 => ((haulierref09_Add.f kj13 l0 l1 true).bind fun bt235 => ((load_Most.f kj13 y212 y218).bind fun bt239 => ((haulierref09_Most.f kj13 l0 l1).bind fun bt243 => ((load_Zero.f a2).bind fun t247 => (if a2 ≥ 0 then (if a2 ≤ 3 then (if 0 ≤ a2 then (if (a2 : Int).toNat ≤ 35184372088832 then ((haulierref05_SameInts.f kj13 t247 (List.replicate (a2 : Int).toNat 0)).bind fun t253 => (if t253 = true then (if a2 < 0 then (haulierlaw09_LoadReckons.j2 kj13 l0 l1 a2 y212 y218 bt231.1 bt231.2 bt235.1 bt235.2 bt239.1 bt239.2 bt243.1 bt243.2 ((t247.length : Int) != 0)) else (if a2 > 3 then (haulierlaw09_LoadReckons.j2 kj13 l0 l1 a2 y212 y218 bt231.1 bt231.2 bt235.1 bt235.2 bt239.1 bt239.2 bt243.1 bt243.2 ((t247.length : Int) != 0)) else (haulierlaw09_LoadReckons.j2 kj13 l0 l1 a2 y212 y218 bt231.1 bt231.2 bt235.1 bt235.2 bt239.1 bt239.2 bt243.1 bt243.2 false))) else (haulierlaw09_LoadReckons.j2 kj13 l0 l1 a2 y212 y218 bt231.1 bt231.2 bt235.1 bt235.2 bt239.1 bt239.2 bt243.1 bt243.2 true))) else (none)) else (none)) else (if a2 < 0 then (haulierlaw09_LoadReckons.j2 kj13 l0 l1 a2 y212 y218 bt231.1 bt231.2 bt235.1 bt235.2 bt239.1 bt239.2 bt243.1 bt243.2 ((t247.length : Int) != 0)) else (if a2 > 3 then (haulierlaw09_LoadReckons.j2 kj13 l0 l1 a2 y212 y218 bt231.1 bt231.2 bt235.1 bt235.2 bt239.1 bt239.2 bt243.1 bt243.2 ((t247.length : Int) != 0)) else (haulierlaw09_LoadReckons.j2 kj13 l0 l1 a2 y212 y218 bt231.1 bt231.2 bt235.1 bt235.2 bt239.1 bt239.2 bt243.1 bt243.2 false)))) else (if a2 < 0 then (haulierlaw09_LoadReckons.j2 kj13 l0 l1 a2 y212 y218 bt231.1 bt231.2 bt235.1 bt235.2 bt239.1 bt239.2 bt243.1 bt243.2 ((t247.length : Int) != 0)) else (if a2 > 3 then (haulierlaw09_LoadReckons.j2 kj13 l0 l1 a2 y212 y218 bt231.1 bt231.2 bt235.1 bt235.2 bt239.1 bt239.2 bt243.1 bt243.2 ((t247.length : Int) != 0)) else (haulierlaw09_LoadReckons.j2 kj13 l0 l1 a2 y212 y218 bt231.1 bt231.2 bt235.1 bt235.2 bt239.1 bt239.2 bt243.1 bt243.2 false))))))))) = some true := by rw [if_neg (show ¬ (false = true) by decide)] at H; exact H
                    clear H
                    have H := H1
                    clear H1
                    replace H := Option.bind_eq_some_iff.mp H
                    obtain ⟨⟨t231, t232⟩, A370, H⟩ := H
                    replace H : ((haulierref09_Add.f kj13 l0 l1 true).bind fun bt235 => ((load_Most.f kj13 y212 y218).bind fun bt239 => ((haulierref09_Most.f kj13 l0 l1).bind fun bt243 => ((load_Zero.f a2).bind fun t247 => (if a2 ≥ 0 then (if a2 ≤ 3 then (if 0 ≤ a2 then (if (a2 : Int).toNat ≤ 35184372088832 then ((haulierref05_SameInts.f kj13 t247 (List.replicate (a2 : Int).toNat 0)).bind fun t253 => (if t253 = true then (if a2 < 0 then (haulierlaw09_LoadReckons.j2 kj13 l0 l1 a2 y212 y218 t231 t232 bt235.1 bt235.2 bt239.1 bt239.2 bt243.1 bt243.2 ((t247.length : Int) != 0)) else (if a2 > 3 then (haulierlaw09_LoadReckons.j2 kj13 l0 l1 a2 y212 y218 t231 t232 bt235.1 bt235.2 bt239.1 bt239.2 bt243.1 bt243.2 ((t247.length : Int) != 0)) else (haulierlaw09_LoadReckons.j2 kj13 l0 l1 a2 y212 y218 t231 t232 bt235.1 bt235.2 bt239.1 bt239.2 bt243.1 bt243.2 false))) else (haulierlaw09_LoadReckons.j2 kj13 l0 l1 a2 y212 y218 t231 t232 bt235.1 bt235.2 bt239.1 bt239.2 bt243.1 bt243.2 true))) else (none)) else (none)) else (if a2 < 0 then (haulierlaw09_LoadReckons.j2 kj13 l0 l1 a2 y212 y218 t231 t232 bt235.1 bt235.2 bt239.1 bt239.2 bt243.1 bt243.2 ((t247.length : Int) != 0)) else (if a2 > 3 then (haulierlaw09_LoadReckons.j2 kj13 l0 l1 a2 y212 y218 t231 t232 bt235.1 bt235.2 bt239.1 bt239.2 bt243.1 bt243.2 ((t247.length : Int) != 0)) else (haulierlaw09_LoadReckons.j2 kj13 l0 l1 a2 y212 y218 t231 t232 bt235.1 bt235.2 bt239.1 bt239.2 bt243.1 bt243.2 false)))) else (if a2 < 0 then (haulierlaw09_LoadReckons.j2 kj13 l0 l1 a2 y212 y218 t231 t232 bt235.1 bt235.2 bt239.1 bt239.2 bt243.1 bt243.2 ((t247.length : Int) != 0)) else (if a2 > 3 then (haulierlaw09_LoadReckons.j2 kj13 l0 l1 a2 y212 y218 t231 t232 bt235.1 bt235.2 bt239.1 bt239.2 bt243.1 bt243.2 ((t247.length : Int) != 0)) else (haulierlaw09_LoadReckons.j2 kj13 l0 l1 a2 y212 y218 t231 t232 bt235.1 bt235.2 bt239.1 bt239.2 bt243.1 bt243.2 false)))))))) = some true := H
                    have A37 := Aside0.mk A370
                    clear A370
                    replace H := Option.bind_eq_some_iff.mp H
                    obtain ⟨⟨t235, t236⟩, A380, H⟩ := H
                    replace H : ((load_Most.f kj13 y212 y218).bind fun bt239 => ((haulierref09_Most.f kj13 l0 l1).bind fun bt243 => ((load_Zero.f a2).bind fun t247 => (if a2 ≥ 0 then (if a2 ≤ 3 then (if 0 ≤ a2 then (if (a2 : Int).toNat ≤ 35184372088832 then ((haulierref05_SameInts.f kj13 t247 (List.replicate (a2 : Int).toNat 0)).bind fun t253 => (if t253 = true then (if a2 < 0 then (haulierlaw09_LoadReckons.j2 kj13 l0 l1 a2 y212 y218 t231 t232 t235 t236 bt239.1 bt239.2 bt243.1 bt243.2 ((t247.length : Int) != 0)) else (if a2 > 3 then (haulierlaw09_LoadReckons.j2 kj13 l0 l1 a2 y212 y218 t231 t232 t235 t236 bt239.1 bt239.2 bt243.1 bt243.2 ((t247.length : Int) != 0)) else (haulierlaw09_LoadReckons.j2 kj13 l0 l1 a2 y212 y218 t231 t232 t235 t236 bt239.1 bt239.2 bt243.1 bt243.2 false))) else (haulierlaw09_LoadReckons.j2 kj13 l0 l1 a2 y212 y218 t231 t232 t235 t236 bt239.1 bt239.2 bt243.1 bt243.2 true))) else (none)) else (none)) else (if a2 < 0 then (haulierlaw09_LoadReckons.j2 kj13 l0 l1 a2 y212 y218 t231 t232 t235 t236 bt239.1 bt239.2 bt243.1 bt243.2 ((t247.length : Int) != 0)) else (if a2 > 3 then (haulierlaw09_LoadReckons.j2 kj13 l0 l1 a2 y212 y218 t231 t232 t235 t236 bt239.1 bt239.2 bt243.1 bt243.2 ((t247.length : Int) != 0)) else (haulierlaw09_LoadReckons.j2 kj13 l0 l1 a2 y212 y218 t231 t232 t235 t236 bt239.1 bt239.2 bt243.1 bt243.2 false)))) else (if a2 < 0 then (haulierlaw09_LoadReckons.j2 kj13 l0 l1 a2 y212 y218 t231 t232 t235 t236 bt239.1 bt239.2 bt243.1 bt243.2 ((t247.length : Int) != 0)) else (if a2 > 3 then (haulierlaw09_LoadReckons.j2 kj13 l0 l1 a2 y212 y218 t231 t232 t235 t236 bt239.1 bt239.2 bt243.1 bt243.2 ((t247.length : Int) != 0)) else (haulierlaw09_LoadReckons.j2 kj13 l0 l1 a2 y212 y218 t231 t232 t235 t236 bt239.1 bt239.2 bt243.1 bt243.2 false))))))) = some true := H
                    have A38 := Aside0.mk A380
                    clear A380
                    replace H := Option.bind_eq_some_iff.mp H
                    obtain ⟨⟨t239, t240⟩, A390, H⟩ := H
                    replace H : ((haulierref09_Most.f kj13 l0 l1).bind fun bt243 => ((load_Zero.f a2).bind fun t247 => (if a2 ≥ 0 then (if a2 ≤ 3 then (if 0 ≤ a2 then (if (a2 : Int).toNat ≤ 35184372088832 then ((haulierref05_SameInts.f kj13 t247 (List.replicate (a2 : Int).toNat 0)).bind fun t253 => (if t253 = true then (if a2 < 0 then (haulierlaw09_LoadReckons.j2 kj13 l0 l1 a2 y212 y218 t231 t232 t235 t236 t239 t240 bt243.1 bt243.2 ((t247.length : Int) != 0)) else (if a2 > 3 then (haulierlaw09_LoadReckons.j2 kj13 l0 l1 a2 y212 y218 t231 t232 t235 t236 t239 t240 bt243.1 bt243.2 ((t247.length : Int) != 0)) else (haulierlaw09_LoadReckons.j2 kj13 l0 l1 a2 y212 y218 t231 t232 t235 t236 t239 t240 bt243.1 bt243.2 false))) else (haulierlaw09_LoadReckons.j2 kj13 l0 l1 a2 y212 y218 t231 t232 t235 t236 t239 t240 bt243.1 bt243.2 true))) else (none)) else (none)) else (if a2 < 0 then (haulierlaw09_LoadReckons.j2 kj13 l0 l1 a2 y212 y218 t231 t232 t235 t236 t239 t240 bt243.1 bt243.2 ((t247.length : Int) != 0)) else (if a2 > 3 then (haulierlaw09_LoadReckons.j2 kj13 l0 l1 a2 y212 y218 t231 t232 t235 t236 t239 t240 bt243.1 bt243.2 ((t247.length : Int) != 0)) else (haulierlaw09_LoadReckons.j2 kj13 l0 l1 a2 y212 y218 t231 t232 t235 t236 t239 t240 bt243.1 bt243.2 false)))) else (if a2 < 0 then (haulierlaw09_LoadReckons.j2 kj13 l0 l1 a2 y212 y218 t231 t232 t235 t236 t239 t240 bt243.1 bt243.2 ((t247.length : Int) != 0)) else (if a2 > 3 then (haulierlaw09_LoadReckons.j2 kj13 l0 l1 a2 y212 y218 t231 t232 t235 t236 t239 t240 bt243.1 bt243.2 ((t247.length : Int) != 0)) else (haulierlaw09_LoadReckons.j2 kj13 l0 l1 a2 y212 y218 t231 t232 t235 t236 t239 t240 bt243.1 bt243.2 false)))))) = some true := H
                    have A39 := Aside0.mk A390
                    clear A390
                    replace H := Option.bind_eq_some_iff.mp H
                    obtain ⟨⟨t243, t244⟩, A400, H⟩ := H
                    replace H : ((load_Zero.f a2).bind fun t247 => (if a2 ≥ 0 then (if a2 ≤ 3 then (if 0 ≤ a2 then (if (a2 : Int).toNat ≤ 35184372088832 then ((haulierref05_SameInts.f kj13 t247 (List.replicate (a2 : Int).toNat 0)).bind fun t253 => (if t253 = true then (if a2 < 0 then (haulierlaw09_LoadReckons.j2 kj13 l0 l1 a2 y212 y218 t231 t232 t235 t236 t239 t240 t243 t244 ((t247.length : Int) != 0)) else (if a2 > 3 then (haulierlaw09_LoadReckons.j2 kj13 l0 l1 a2 y212 y218 t231 t232 t235 t236 t239 t240 t243 t244 ((t247.length : Int) != 0)) else (haulierlaw09_LoadReckons.j2 kj13 l0 l1 a2 y212 y218 t231 t232 t235 t236 t239 t240 t243 t244 false))) else (haulierlaw09_LoadReckons.j2 kj13 l0 l1 a2 y212 y218 t231 t232 t235 t236 t239 t240 t243 t244 true))) else (none)) else (none)) else (if a2 < 0 then (haulierlaw09_LoadReckons.j2 kj13 l0 l1 a2 y212 y218 t231 t232 t235 t236 t239 t240 t243 t244 ((t247.length : Int) != 0)) else (if a2 > 3 then (haulierlaw09_LoadReckons.j2 kj13 l0 l1 a2 y212 y218 t231 t232 t235 t236 t239 t240 t243 t244 ((t247.length : Int) != 0)) else (haulierlaw09_LoadReckons.j2 kj13 l0 l1 a2 y212 y218 t231 t232 t235 t236 t239 t240 t243 t244 false)))) else (if a2 < 0 then (haulierlaw09_LoadReckons.j2 kj13 l0 l1 a2 y212 y218 t231 t232 t235 t236 t239 t240 t243 t244 ((t247.length : Int) != 0)) else (if a2 > 3 then (haulierlaw09_LoadReckons.j2 kj13 l0 l1 a2 y212 y218 t231 t232 t235 t236 t239 t240 t243 t244 ((t247.length : Int) != 0)) else (haulierlaw09_LoadReckons.j2 kj13 l0 l1 a2 y212 y218 t231 t232 t235 t236 t239 t240 t243 t244 false))))) = some true := H
                    have A40 := Aside0.mk A400
                    clear A400
                    replace H := Option.bind_eq_some_iff.mp H
                    obtain ⟨t247, A410, H⟩ := H
                    replace H : (if a2 ≥ 0 then (if a2 ≤ 3 then (if 0 ≤ a2 then (if (a2 : Int).toNat ≤ 35184372088832 then ((haulierref05_SameInts.f kj13 t247 (List.replicate (a2 : Int).toNat 0)).bind fun t253 => (if t253 = true then (if a2 < 0 then (haulierlaw09_LoadReckons.j2 kj13 l0 l1 a2 y212 y218 t231 t232 t235 t236 t239 t240 t243 t244 ((t247.length : Int) != 0)) else (if a2 > 3 then (haulierlaw09_LoadReckons.j2 kj13 l0 l1 a2 y212 y218 t231 t232 t235 t236 t239 t240 t243 t244 ((t247.length : Int) != 0)) else (haulierlaw09_LoadReckons.j2 kj13 l0 l1 a2 y212 y218 t231 t232 t235 t236 t239 t240 t243 t244 false))) else (haulierlaw09_LoadReckons.j2 kj13 l0 l1 a2 y212 y218 t231 t232 t235 t236 t239 t240 t243 t244 true))) else (none)) else (none)) else (if a2 < 0 then (haulierlaw09_LoadReckons.j2 kj13 l0 l1 a2 y212 y218 t231 t232 t235 t236 t239 t240 t243 t244 ((t247.length : Int) != 0)) else (if a2 > 3 then (haulierlaw09_LoadReckons.j2 kj13 l0 l1 a2 y212 y218 t231 t232 t235 t236 t239 t240 t243 t244 ((t247.length : Int) != 0)) else (haulierlaw09_LoadReckons.j2 kj13 l0 l1 a2 y212 y218 t231 t232 t235 t236 t239 t240 t243 t244 false)))) else (if a2 < 0 then (haulierlaw09_LoadReckons.j2 kj13 l0 l1 a2 y212 y218 t231 t232 t235 t236 t239 t240 t243 t244 ((t247.length : Int) != 0)) else (if a2 > 3 then (haulierlaw09_LoadReckons.j2 kj13 l0 l1 a2 y212 y218 t231 t232 t235 t236 t239 t240 t243 t244 ((t247.length : Int) != 0)) else (haulierlaw09_LoadReckons.j2 kj13 l0 l1 a2 y212 y218 t231 t232 t235 t236 t239 t240 t243 t244 false)))) = some true := H
                    have A41 := Aside0.mk A410
                    clear A410
                    have HC42 := Aside0.mk H
                    clear H
                    go_upto_region 15 with (first | ((with_reducible refine gate_callee (f := 12) rfl ?_); refine goesL_ (some 86) rfl rfl Try.func12 (by kernel_rfl) rfl #[.slice Ao21 y212.length co21, .slice Ao22 y218.length co22] rfl (by (try simp only [List.map_toArray, List.map_cons, List.map_nil]); first | done | rfl | (simp only [List.length_drop, List.length_take]; rfl)) ?_; (with_reducible refine (load_Sub.calls kj13 _ _ y212 _ _ y218 t231 t232 _ ?side1 ?side2 ?side3 ?side4 A37.out).mono ?_); (case side1 => repeat (first | exact (Kd.R_reads' HO_7.out).2.2 | (with_reducible refine Kd.C_alloc ?_ _) | (with_reducible refine Kd.C_drewN ?_ _) | (with_reducible refine Kd.C_drew ?_))); (case side2 => exact (Kd.R_reads' HO_7.out).2.1); (case side3 => repeat (first | exact (Kd.R_reads' HO_8.out).2.2 | (with_reducible refine Kd.C_alloc ?_ _) | (with_reducible refine Kd.C_drewN ?_ _) | (with_reducible refine Kd.C_drew ?_))); (case side4 => exact (Kd.R_reads' HO_8.out).2.1); rintro e w43 ⟨v233, rfl, ho0, hb⟩; refine ⟨_, rfl, ?_⟩; have n0_ := Aside0.mk (Kd.R_elder' (by (with_reducible repeat (first | apply Kd.R_alloc | apply Kd.R_drewN | apply Kd.R_drew)); exact HO_7.out) (Kd.R_base ho0) hb); have n1_ := Aside0.mk (Kd.R_elder' (by (with_reducible repeat (first | apply Kd.R_alloc | apply Kd.R_drewN | apply Kd.R_drew)); exact HO_8.out) (Kd.R_base ho0) hb); have n2_ := Aside0.mk (Kd.R_lower (Kd.R_new' (Kd.R_new' ho0 (Kd.R_lt (by (with_reducible repeat (first | apply Kd.R_alloc | apply Kd.R_drewN | apply Kd.R_drew)); exact HO_7.out))) (Kd.R_lt (by (with_reducible repeat (first | apply Kd.R_alloc | apply Kd.R_drewN | apply Kd.R_drew)); exact HO_8.out))) (below_size (by repeat (first | (with_reducible first | exact HB.out | apply below_alloc | apply pw_below_drewN | apply below_drew1) | exact HB.out)))); have n3_ := Aside0.mk (below_step (by repeat (first | (with_reducible first | exact HB.out | apply below_alloc | apply pw_below_drewN | apply below_drew1) | exact HB.out)) hb); clear HO_7; clear HO_8; clear HB; have HO_7 := n0_; have HO_8 := n1_; have HO234 := n2_; have HB := n3_; clear n0_ n1_ n2_ n3_; (try clear hb); (try clear hb2); (try clear hk); (try clear hi); (try clear ho0)) | ((with_reducible refine gate_callee (f := 14) rfl ?_); refine goesL_ (some 92) rfl rfl Try.func14 (by kernel_rfl) rfl #[.slice A0 l0.length c0, .slice A1 l1.length c1, .bool true] rfl (by (try simp only [List.map_toArray, List.map_cons, List.map_nil]); first | done | rfl | (simp only [List.length_drop, List.length_take]; rfl)) ?_; (with_reducible refine (haulierref09_Add.calls kj13 _ _ l0 _ _ l1 true t235 t236 _ ?side1 ?side2 ?side3 ?side4 A38.out).mono ?_); (case side1 => repeat (first | exact (Kd.C_below HR0.out HB.out) | (with_reducible refine Kd.C_alloc ?_ _) | (with_reducible refine Kd.C_drewN ?_ _) | (with_reducible refine Kd.C_drew ?_))); (case side2 => exact HC0.out); (case side3 => repeat (first | exact (Kd.C_below HR1.out HB.out) | (with_reducible refine Kd.C_alloc ?_ _) | (with_reducible refine Kd.C_drewN ?_ _) | (with_reducible refine Kd.C_drew ?_))); (case side4 => exact HC1.out); rintro e w44 ⟨v237, rfl, ho0, hb⟩; refine ⟨_, rfl, ?_⟩; have n0_ := Aside0.mk (Kd.R_elder' (by (with_reducible repeat (first | apply Kd.R_alloc | apply Kd.R_drewN | apply Kd.R_drew)); exact HO_7.out) (Kd.R_base ho0) hb); have n1_ := Aside0.mk (Kd.R_elder' (by (with_reducible repeat (first | apply Kd.R_alloc | apply Kd.R_drewN | apply Kd.R_drew)); exact HO_8.out) (Kd.R_base ho0) hb); have n2_ := Aside0.mk (Kd.R_elder' (by (with_reducible repeat (first | apply Kd.R_alloc | apply Kd.R_drewN | apply Kd.R_drew)); exact HO234.out) (Kd.R_base ho0) hb); have n3_ := Aside0.mk (Kd.R_lower (Kd.R_new' (Kd.R_new' (Kd.R_new' ho0 (Kd.R_lt (by (with_reducible repeat (first | apply Kd.R_alloc | apply Kd.R_drewN | apply Kd.R_drew)); exact HO_7.out))) (Kd.R_lt (by (with_reducible repeat (first | apply Kd.R_alloc | apply Kd.R_drewN | apply Kd.R_drew)); exact HO_8.out))) (Kd.R_lt (by (with_reducible repeat (first | apply Kd.R_alloc | apply Kd.R_drewN | apply Kd.R_drew)); exact HO234.out))) (below_size (by repeat (first | (with_reducible first | exact HB.out | apply below_alloc | apply pw_below_drewN | apply below_drew1) | exact HB.out)))); have n4_ := Aside0.mk (below_step (by repeat (first | (with_reducible first | exact HB.out | apply below_alloc | apply pw_below_drewN | apply below_drew1) | exact HB.out)) hb); clear HO_7; clear HO_8; clear HO234; clear HB; have HO_7 := n0_; have HO_8 := n1_; have HO234 := n2_; have HO238 := n3_; have HB := n4_; clear n0_ n1_ n2_ n3_ n4_; (try clear hb); (try clear hb2); (try clear hk); (try clear hi); (try clear ho0)) | ((with_reducible refine gate_callee (f := 8) rfl ?_); refine goesL_ (some 98) rfl rfl Try.func8 (by kernel_rfl) rfl #[.slice Ao21 y212.length co21, .slice Ao22 y218.length co22] rfl (by (try simp only [List.map_toArray, List.map_cons, List.map_nil]); first | done | rfl | (simp only [List.length_drop, List.length_take]; rfl)) ?_; (with_reducible refine (load_Most.calls kj13 _ _ y212 _ _ y218 t239 t240 _ ?side1 ?side2 ?side3 ?side4 A39.out).mono ?_); (case side1 => repeat (first | exact (Kd.R_reads' HO_7.out).2.2 | (with_reducible refine Kd.C_alloc ?_ _) | (with_reducible refine Kd.C_drewN ?_ _) | (with_reducible refine Kd.C_drew ?_))); (case side2 => exact (Kd.R_reads' HO_7.out).2.1); (case side3 => repeat (first | exact (Kd.R_reads' HO_8.out).2.2 | (with_reducible refine Kd.C_alloc ?_ _) | (with_reducible refine Kd.C_drewN ?_ _) | (with_reducible refine Kd.C_drew ?_))); (case side4 => exact (Kd.R_reads' HO_8.out).2.1); rintro e w45 ⟨v241, rfl, ho0, hb⟩; refine ⟨_, rfl, ?_⟩; have n0_ := Aside0.mk (Kd.R_elder' (by (with_reducible repeat (first | apply Kd.R_alloc | apply Kd.R_drewN | apply Kd.R_drew)); exact HO_7.out) (Kd.R_base ho0) hb); have n1_ := Aside0.mk (Kd.R_elder' (by (with_reducible repeat (first | apply Kd.R_alloc | apply Kd.R_drewN | apply Kd.R_drew)); exact HO_8.out) (Kd.R_base ho0) hb); have n2_ := Aside0.mk (Kd.R_elder' (by (with_reducible repeat (first | apply Kd.R_alloc | apply Kd.R_drewN | apply Kd.R_drew)); exact HO234.out) (Kd.R_base ho0) hb); have n3_ := Aside0.mk (Kd.R_elder' (by (with_reducible repeat (first | apply Kd.R_alloc | apply Kd.R_drewN | apply Kd.R_drew)); exact HO238.out) (Kd.R_base ho0) hb); have n4_ := Aside0.mk (Kd.R_lower (Kd.R_new' (Kd.R_new' (Kd.R_new' (Kd.R_new' ho0 (Kd.R_lt (by (with_reducible repeat (first | apply Kd.R_alloc | apply Kd.R_drewN | apply Kd.R_drew)); exact HO_7.out))) (Kd.R_lt (by (with_reducible repeat (first | apply Kd.R_alloc | apply Kd.R_drewN | apply Kd.R_drew)); exact HO_8.out))) (Kd.R_lt (by (with_reducible repeat (first | apply Kd.R_alloc | apply Kd.R_drewN | apply Kd.R_drew)); exact HO234.out))) (Kd.R_lt (by (with_reducible repeat (first | apply Kd.R_alloc | apply Kd.R_drewN | apply Kd.R_drew)); exact HO238.out))) (below_size (by repeat (first | (with_reducible first | exact HB.out | apply below_alloc | apply pw_below_drewN | apply below_drew1) | exact HB.out)))); have n5_ := Aside0.mk (below_step (by repeat (first | (with_reducible first | exact HB.out | apply below_alloc | apply pw_below_drewN | apply below_drew1) | exact HB.out)) hb); clear HO_7; clear HO_8; clear HO234; clear HO238; clear HB; have HO_7 := n0_; have HO_8 := n1_; have HO234 := n2_; have HO238 := n3_; have HO242 := n4_; have HB := n5_; clear n0_ n1_ n2_ n3_ n4_ n5_; (try clear hb); (try clear hb2); (try clear hk); (try clear hi); (try clear ho0)) | ((with_reducible refine gate_callee (f := 16) rfl ?_); refine goesL_ (some 104) rfl rfl Try.func16 (by kernel_rfl) rfl #[.slice A0 l0.length c0, .slice A1 l1.length c1] rfl (by (try simp only [List.map_toArray, List.map_cons, List.map_nil]); first | done | rfl | (simp only [List.length_drop, List.length_take]; rfl)) ?_; (with_reducible refine (haulierref09_Most.calls kj13 _ _ l0 _ _ l1 t243 t244 _ ?side1 ?side2 ?side3 ?side4 A40.out).mono ?_); (case side1 => repeat (first | exact (Kd.C_below HR0.out HB.out) | (with_reducible refine Kd.C_alloc ?_ _) | (with_reducible refine Kd.C_drewN ?_ _) | (with_reducible refine Kd.C_drew ?_))); (case side2 => exact HC0.out); (case side3 => repeat (first | exact (Kd.C_below HR1.out HB.out) | (with_reducible refine Kd.C_alloc ?_ _) | (with_reducible refine Kd.C_drewN ?_ _) | (with_reducible refine Kd.C_drew ?_))); (case side4 => exact HC1.out); rintro e w46 ⟨v245, rfl, ho0, hb⟩; refine ⟨_, rfl, ?_⟩; have n0_ := Aside0.mk (Kd.R_elder' (by (with_reducible repeat (first | apply Kd.R_alloc | apply Kd.R_drewN | apply Kd.R_drew)); exact HO_7.out) (Kd.R_base ho0) hb); have n1_ := Aside0.mk (Kd.R_elder' (by (with_reducible repeat (first | apply Kd.R_alloc | apply Kd.R_drewN | apply Kd.R_drew)); exact HO_8.out) (Kd.R_base ho0) hb); have n2_ := Aside0.mk (Kd.R_elder' (by (with_reducible repeat (first | apply Kd.R_alloc | apply Kd.R_drewN | apply Kd.R_drew)); exact HO234.out) (Kd.R_base ho0) hb); have n3_ := Aside0.mk (Kd.R_elder' (by (with_reducible repeat (first | apply Kd.R_alloc | apply Kd.R_drewN | apply Kd.R_drew)); exact HO238.out) (Kd.R_base ho0) hb); have n4_ := Aside0.mk (Kd.R_elder' (by (with_reducible repeat (first | apply Kd.R_alloc | apply Kd.R_drewN | apply Kd.R_drew)); exact HO242.out) (Kd.R_base ho0) hb); have n5_ := Aside0.mk (Kd.R_lower (Kd.R_new' (Kd.R_new' (Kd.R_new' (Kd.R_new' (Kd.R_new' ho0 (Kd.R_lt (by (with_reducible repeat (first | apply Kd.R_alloc | apply Kd.R_drewN | apply Kd.R_drew)); exact HO_7.out))) (Kd.R_lt (by (with_reducible repeat (first | apply Kd.R_alloc | apply Kd.R_drewN | apply Kd.R_drew)); exact HO_8.out))) (Kd.R_lt (by (with_reducible repeat (first | apply Kd.R_alloc | apply Kd.R_drewN | apply Kd.R_drew)); exact HO234.out))) (Kd.R_lt (by (with_reducible repeat (first | apply Kd.R_alloc | apply Kd.R_drewN | apply Kd.R_drew)); exact HO238.out))) (Kd.R_lt (by (with_reducible repeat (first | apply Kd.R_alloc | apply Kd.R_drewN | apply Kd.R_drew)); exact HO242.out))) (below_size (by repeat (first | (with_reducible first | exact HB.out | apply below_alloc | apply pw_below_drewN | apply below_drew1) | exact HB.out)))); have n6_ := Aside0.mk (below_step (by repeat (first | (with_reducible first | exact HB.out | apply below_alloc | apply pw_below_drewN | apply below_drew1) | exact HB.out)) hb); clear HO_7; clear HO_8; clear HO234; clear HO238; clear HO242; clear HB; have HO_7 := n0_; have HO_8 := n1_; have HO234 := n2_; have HO238 := n3_; have HO242 := n4_; have HO246 := n5_; have HB := n6_; clear n0_ n1_ n2_ n3_ n4_ n5_ n6_; (try clear hb); (try clear hb2); (try clear hk); (try clear hi); (try clear ho0)) | ((with_reducible refine gate_callee (f := 17) rfl ?_); refine goesL_ (some 108) rfl rfl Try.func17 (by kernel_rfl) rfl #[.int .i64 a2] rfl (by (try simp only [List.map_toArray, List.map_cons, List.map_nil]); first | done | rfl | (simp only [List.length_drop, List.length_take]; rfl)) ?_; (with_reducible refine (load_Zero.calls a2 t247 _ A41.out).mono ?_); rintro e w47 ⟨v248, rfl, ho0, hb⟩; refine ⟨_, rfl, ?_⟩; have n0_ := Aside0.mk (Kd.R_elder' (by (with_reducible repeat (first | apply Kd.R_alloc | apply Kd.R_drewN | apply Kd.R_drew)); exact HO_7.out) (Kd.R_base ho0) hb); have n1_ := Aside0.mk (Kd.R_elder' (by (with_reducible repeat (first | apply Kd.R_alloc | apply Kd.R_drewN | apply Kd.R_drew)); exact HO_8.out) (Kd.R_base ho0) hb); have n2_ := Aside0.mk (Kd.R_elder' (by (with_reducible repeat (first | apply Kd.R_alloc | apply Kd.R_drewN | apply Kd.R_drew)); exact HO234.out) (Kd.R_base ho0) hb); have n3_ := Aside0.mk (Kd.R_elder' (by (with_reducible repeat (first | apply Kd.R_alloc | apply Kd.R_drewN | apply Kd.R_drew)); exact HO238.out) (Kd.R_base ho0) hb); have n4_ := Aside0.mk (Kd.R_elder' (by (with_reducible repeat (first | apply Kd.R_alloc | apply Kd.R_drewN | apply Kd.R_drew)); exact HO242.out) (Kd.R_base ho0) hb); have n5_ := Aside0.mk (Kd.R_elder' (by (with_reducible repeat (first | apply Kd.R_alloc | apply Kd.R_drewN | apply Kd.R_drew)); exact HO246.out) (Kd.R_base ho0) hb); have n6_ := Aside0.mk (Kd.R_lower (Kd.R_new' (Kd.R_new' (Kd.R_new' (Kd.R_new' (Kd.R_new' (Kd.R_new' ho0 (Kd.R_lt (by (with_reducible repeat (first | apply Kd.R_alloc | apply Kd.R_drewN | apply Kd.R_drew)); exact HO_7.out))) (Kd.R_lt (by (with_reducible repeat (first | apply Kd.R_alloc | apply Kd.R_drewN | apply Kd.R_drew)); exact HO_8.out))) (Kd.R_lt (by (with_reducible repeat (first | apply Kd.R_alloc | apply Kd.R_drewN | apply Kd.R_drew)); exact HO234.out))) (Kd.R_lt (by (with_reducible repeat (first | apply Kd.R_alloc | apply Kd.R_drewN | apply Kd.R_drew)); exact HO238.out))) (Kd.R_lt (by (with_reducible repeat (first | apply Kd.R_alloc | apply Kd.R_drewN | apply Kd.R_drew)); exact HO242.out))) (Kd.R_lt (by (with_reducible repeat (first | apply Kd.R_alloc | apply Kd.R_drewN | apply Kd.R_drew)); exact HO246.out))) (below_size (by repeat (first | (with_reducible first | exact HB.out | apply below_alloc | apply pw_below_drewN | apply below_drew1) | exact HB.out)))); have n7_ := Aside0.mk (below_step (by repeat (first | (with_reducible first | exact HB.out | apply below_alloc | apply pw_below_drewN | apply below_drew1) | exact HB.out)) hb); clear HO_7; clear HO_8; clear HO234; clear HO238; clear HO242; clear HO246; clear HB; have HO_7 := n0_; have HO_8 := n1_; have HO234 := n2_; have HO238 := n3_; have HO242 := n4_; have HO246 := n5_; have HO249 := n6_; have HB := n7_; clear n0_ n1_ n2_ n3_ n4_ n5_ n6_ n7_; (try clear hb); (try clear hb2); (try clear hk); (try clear hi); (try clear ho0)))
                    (try simp only [Act.put, List.setIfInBounds_toArray, List.set_cons_zero, List.set_cons_succ])
                    go_cut [134] (fun v134 wc => ∃ (kq : Nat) (x134_41 : Bool), v134 = .bool x134_41 ∧ Aside0 (haulierlaw09_LoadReckons.j2 kq l0 l1 a2 y212 y218 t231 t232 t235 t236 t239 t240 t243 t244 x134_41 = some true) ∧ Aside0 (kq ≤ kj13) ∧ Aside0 (Kd.R (Kd.int .i64) 3 wc w.heap.size (fun k_ => some k_ ≠ ((.slice Ao22 y218.length co22) : Value).ownBlock ∧ some k_ ≠ (v233 : Value).ownBlock ∧ some k_ ≠ (v237 : Value).ownBlock ∧ some k_ ≠ (v241 : Value).ownBlock ∧ some k_ ≠ (v245 : Value).ownBlock) (.slice Ao21 y212.length co21) y212) ∧ Aside0 (Kd.R (Kd.int .i64) 3 wc w.heap.size (fun k_ => some k_ ≠ ((.slice Ao21 y212.length co21) : Value).ownBlock ∧ some k_ ≠ (v233 : Value).ownBlock ∧ some k_ ≠ (v237 : Value).ownBlock ∧ some k_ ≠ (v241 : Value).ownBlock ∧ some k_ ≠ (v245 : Value).ownBlock) (.slice Ao22 y218.length co22) y218) ∧ Aside0 (Kd.R (Kd.int .i64) 3 wc w.heap.size (fun k_ => some k_ ≠ ((.slice Ao21 y212.length co21) : Value).ownBlock ∧ some k_ ≠ ((.slice Ao22 y218.length co22) : Value).ownBlock ∧ some k_ ≠ (v237 : Value).ownBlock ∧ some k_ ≠ (v241 : Value).ownBlock ∧ some k_ ≠ (v245 : Value).ownBlock) v233 t231) ∧ Aside0 (Kd.R (Kd.int .i64) 3 wc w.heap.size (fun k_ => some k_ ≠ ((.slice Ao21 y212.length co21) : Value).ownBlock ∧ some k_ ≠ ((.slice Ao22 y218.length co22) : Value).ownBlock ∧ some k_ ≠ (v233 : Value).ownBlock ∧ some k_ ≠ (v241 : Value).ownBlock ∧ some k_ ≠ (v245 : Value).ownBlock) v237 t235) ∧ Aside0 (Kd.R (Kd.int .i64) 3 wc w.heap.size (fun k_ => some k_ ≠ ((.slice Ao21 y212.length co21) : Value).ownBlock ∧ some k_ ≠ ((.slice Ao22 y218.length co22) : Value).ownBlock ∧ some k_ ≠ (v233 : Value).ownBlock ∧ some k_ ≠ (v237 : Value).ownBlock ∧ some k_ ≠ (v245 : Value).ownBlock) v241 t239) ∧ Aside0 (Kd.R (Kd.int .i64) 3 wc w.heap.size (fun k_ => some k_ ≠ ((.slice Ao21 y212.length co21) : Value).ownBlock ∧ some k_ ≠ ((.slice Ao22 y218.length co22) : Value).ownBlock ∧ some k_ ≠ (v233 : Value).ownBlock ∧ some k_ ≠ (v237 : Value).ownBlock ∧ some k_ ≠ (v241 : Value).ownBlock) v245 t243) ∧ Aside0 (Below w.heap.size w wc))
                    case first =>
                      have H := HC42.out
                      clear HC42
                      by_cases c48 : a2 ≥ 0
                      · rw [if_pos c48] at H
                        have c48b0 : decide (0 ≤ a2) = true := decide_eq_true c48
                        clear c48
                        (first | rw [c48b0] | (simp only [i64_w, i32_w]; rw [c48b0]) | skip)
                        by_cases c49 : a2 ≤ 3
                        · rw [if_pos c49] at H
                          have c49b0 : decide (a2 ≤ 3) = true := decide_eq_true c49
                          clear c49
                          by_cases c50 : 0 ≤ a2
                          · rw [if_pos c50] at H
                            have c50b0 := eq_true c50
                            have c50b1 : decide (0 ≤ a2) = true := decide_eq_true c50
                            clear c50
                            by_cases c51 : (a2 : Int).toNat ≤ 35184372088832
                            · rw [if_pos c51] at H
                              have c51b0 := eq_true c51
                              have c51b1 : decide ((a2 : Int).toNat ≤ 35184372088832) = true := decide_eq_true c51
                              clear c51
                              obtain ⟨y250, hy250⟩ : ∃ y_ : List Int, y_ = (List.replicate (a2 : Int).toNat 0) := ⟨_, rfl⟩
                              replace H : ((haulierref05_SameInts.f kj13 t247 y250).bind fun t253 => (if t253 = true then (if a2 < 0 then (haulierlaw09_LoadReckons.j2 kj13 l0 l1 a2 y212 y218 t231 t232 t235 t236 t239 t240 t243 t244 ((t247.length : Int) != 0)) else (if a2 > 3 then (haulierlaw09_LoadReckons.j2 kj13 l0 l1 a2 y212 y218 t231 t232 t235 t236 t239 t240 t243 t244 ((t247.length : Int) != 0)) else (haulierlaw09_LoadReckons.j2 kj13 l0 l1 a2 y212 y218 t231 t232 t235 t236 t239 t240 t243 t244 false))) else (haulierlaw09_LoadReckons.j2 kj13 l0 l1 a2 y212 y218 t231 t232 t235 t236 t239 t240 t243 t244 true))) = some true := by first | (rw [hy250]; with_reducible exact H) | (have H2_ := (Option.bind_some _ _).symm.trans H; rw [hy250]; with_reducible exact H2_) | (have H2_ := (Option.bind_some _ _).symm.trans H; with_reducible exact H2_) | with_reducible exact H | (rw [hy250]; exact H) | exact H
                              have Ny250 := Aside0.mk hy250
                              clear hy250
                              replace H := Option.bind_eq_some_iff.mp H
                              obtain ⟨t253, A520, H⟩ := H
                              replace H : (if t253 = true then (if a2 < 0 then (haulierlaw09_LoadReckons.j2 kj13 l0 l1 a2 y212 y218 t231 t232 t235 t236 t239 t240 t243 t244 ((t247.length : Int) != 0)) else (if a2 > 3 then (haulierlaw09_LoadReckons.j2 kj13 l0 l1 a2 y212 y218 t231 t232 t235 t236 t239 t240 t243 t244 ((t247.length : Int) != 0)) else (haulierlaw09_LoadReckons.j2 kj13 l0 l1 a2 y212 y218 t231 t232 t235 t236 t239 t240 t243 t244 false))) else (haulierlaw09_LoadReckons.j2 kj13 l0 l1 a2 y212 y218 t231 t232 t235 t236 t239 t240 t243 t244 true)) = some true := H
                              have A52 := Aside0.mk A520
                              clear A520
                              by_cases c53 : t253 = true
                              · subst c53
                                have H1 : (if a2 < 0 then (haulierlaw09_LoadReckons.j2 kj13 l0 l1 a2 y212 y218 t231 t232 t235 t236 t239 t240 t243 t244 ((t247.length : Int) != 0)) else (if a2 > 3 then (haulierlaw09_LoadReckons.j2 kj13 l0 l1 a2 y212 y218 t231 t232 t235 t236 t239 t240 t243 t244 ((t247.length : Int) != 0)) else (haulierlaw09_LoadReckons.j2 kj13 l0 l1 a2 y212 y218 t231 t232 t235 t236 t239 t240 t243 t244 false))) = some true := by rw [if_pos rfl] at H; exact H
                                clear H
                                have H := H1
                                clear H1
                                by_cases c54 : a2 < 0
                                · rw [if_pos c54] at H
                                  have c54b0 : decide (a2 < 0) = true := decide_eq_true c54
                                  clear c54
                                  have H' := Aside0.mk H
                                  clear H
                                  go_wp2_with (first | ((with_reducible refine gate_dst (N := 118) rfl ?_); (try (refine gate_guard (by rfl) ?_; dsimp only)); refine Kd.R_make (Kd.int .i64) _ 3 rfl (N := 118) rfl 22 _ _ rfl a2 rfl rfl Try.underlying22 (.int .i64 0) 8 info3 rfl (by decide) (by omega) 0 (ok := fun _ => True) (okp := fun _ => True) rfl (fun _ hk => hk) trivial (of_decide_eq_true (by first | (with_reducible assumption) | assumption)) (Nat.le_trans (Nat.mul_le_mul_right _ (of_decide_eq_true (by first | (with_reducible assumption) | assumption) : a2.toNat ≤ 35184372088832)) (by omega)) (Below.refl _ _) (Nat.le_refl _) ?_; intro v251 w55 ho56 hb hg_ hnew_; clear hg_ hnew_; (first | rw [← Ny250.out] at ho56 | (simp only [Int.reduceToNat] at ho56; rw [← Ny250.out] at ho56)); have n0_ := Aside0.mk (Kd.R_elder' (by (with_reducible repeat (first | apply Kd.R_alloc | apply Kd.R_drewN | apply Kd.R_drew)); exact HO_7.out) (Kd.R_base ho56) hb); have n1_ := Aside0.mk (Kd.R_elder' (by (with_reducible repeat (first | apply Kd.R_alloc | apply Kd.R_drewN | apply Kd.R_drew)); exact HO_8.out) (Kd.R_base ho56) hb); have n2_ := Aside0.mk (Kd.R_elder' (by (with_reducible repeat (first | apply Kd.R_alloc | apply Kd.R_drewN | apply Kd.R_drew)); exact HO234.out) (Kd.R_base ho56) hb); have n3_ := Aside0.mk (Kd.R_elder' (by (with_reducible repeat (first | apply Kd.R_alloc | apply Kd.R_drewN | apply Kd.R_drew)); exact HO238.out) (Kd.R_base ho56) hb); have n4_ := Aside0.mk (Kd.R_elder' (by (with_reducible repeat (first | apply Kd.R_alloc | apply Kd.R_drewN | apply Kd.R_drew)); exact HO242.out) (Kd.R_base ho56) hb); have n5_ := Aside0.mk (Kd.R_elder' (by (with_reducible repeat (first | apply Kd.R_alloc | apply Kd.R_drewN | apply Kd.R_drew)); exact HO246.out) (Kd.R_base ho56) hb); have n6_ := Aside0.mk (Kd.R_elder' (by (with_reducible repeat (first | apply Kd.R_alloc | apply Kd.R_drewN | apply Kd.R_drew)); exact HO249.out) (Kd.R_base ho56) hb); have n7_ := Aside0.mk (Kd.R_lower (Kd.R_new' (Kd.R_new' (Kd.R_new' (Kd.R_new' (Kd.R_new' (Kd.R_new' (Kd.R_new' ho56 (Kd.R_lt (by (with_reducible repeat (first | apply Kd.R_alloc | apply Kd.R_drewN | apply Kd.R_drew)); exact HO_7.out))) (Kd.R_lt (by (with_reducible repeat (first | apply Kd.R_alloc | apply Kd.R_drewN | apply Kd.R_drew)); exact HO_8.out))) (Kd.R_lt (by (with_reducible repeat (first | apply Kd.R_alloc | apply Kd.R_drewN | apply Kd.R_drew)); exact HO234.out))) (Kd.R_lt (by (with_reducible repeat (first | apply Kd.R_alloc | apply Kd.R_drewN | apply Kd.R_drew)); exact HO238.out))) (Kd.R_lt (by (with_reducible repeat (first | apply Kd.R_alloc | apply Kd.R_drewN | apply Kd.R_drew)); exact HO242.out))) (Kd.R_lt (by (with_reducible repeat (first | apply Kd.R_alloc | apply Kd.R_drewN | apply Kd.R_drew)); exact HO246.out))) (Kd.R_lt (by (with_reducible repeat (first | apply Kd.R_alloc | apply Kd.R_drewN | apply Kd.R_drew)); exact HO249.out))) (below_size (by repeat (first | (with_reducible first | exact HB.out | apply below_alloc | apply pw_below_drewN | apply below_drew1) | exact HB.out)))); have n8_ := Aside0.mk (below_step (by repeat (first | (with_reducible first | exact HB.out | apply below_alloc | apply pw_below_drewN | apply below_drew1) | exact HB.out)) hb); clear HO_7; clear HO_8; clear HO234; clear HO238; clear HO242; clear HO246; clear HO249; clear HB; have HO_7 := n0_; have HO_8 := n1_; have HO234 := n2_; have HO238 := n3_; have HO242 := n4_; have HO246 := n5_; have HO249 := n6_; have HO252 := n7_; have HB := n8_; clear n0_ n1_ n2_ n3_ n4_ n5_ n6_ n7_ n8_; clear hb ho56; obtain ⟨Ao57, co57, eo57⟩ := Kd.R_slice HO249.out; (first | subst eo57 | (injection eo57 with ea_ en_ ec_; (first | subst ea_ | (injection ea_ with ea_; subst ea_)); subst ec_; clear en_)); obtain ⟨Ao58, co58, eo58⟩ := Kd.R_slice HO252.out; (first | subst eo58 | (injection eo58 with ea_ en_ ec_; (first | subst ea_ | (injection ea_ with ea_; subst ea_)); subst ec_; clear en_))) | (go_at_call 13; (with_reducible refine (haulierref05_SameInts.calls kj13 _ _ t247 _ _ y250 true _ ?side1 ?side2 ?side3 ?side4 A52.out).mono ?_); (case side1 => repeat (first | exact (Kd.R_reads' HO249.out).2.2 | (with_reducible refine Kd.C_alloc ?_ _) | (with_reducible refine Kd.C_drewN ?_ _) | (with_reducible refine Kd.C_drew ?_))); (case side2 => exact (Kd.R_reads' HO249.out).2.1); (case side3 => repeat (first | exact (Kd.R_reads' HO252.out).2.2 | (with_reducible refine Kd.C_alloc ?_ _) | (with_reducible refine Kd.C_drewN ?_ _) | (with_reducible refine Kd.C_drew ?_))); (case side4 => exact (Kd.R_reads' HO252.out).2.1); rintro e w' ⟨rfl, ⟨nd, rfl⟩⟩))
                                  go_meet
                                  case rel => exact ⟨_, (((t247.length : Int) != 0)), (by first | rfl | (simp; done) | (simp [*]; done)), H', ⟨by have := HJ5.out; have := HJ13.out; first | omega | exact Nat.le_refl _⟩, ⟨by (with_reducible repeat (first | apply Kd.R_alloc | apply Kd.R_drewN | apply Kd.R_drew)); exact Kd.R_mono HO_7.out (fun _ hk => ⟨hk.1.1.1.1.1.1, ⟨hk.1.1.1.1.1.2, ⟨hk.1.1.1.1.2, ⟨hk.1.1.1.2, hk.1.1.2⟩⟩⟩⟩)⟩, ⟨by (with_reducible repeat (first | apply Kd.R_alloc | apply Kd.R_drewN | apply Kd.R_drew)); exact Kd.R_mono HO_8.out (fun _ hk => ⟨hk.1.1.1.1.1.1, ⟨hk.1.1.1.1.1.2, ⟨hk.1.1.1.1.2, ⟨hk.1.1.1.2, hk.1.1.2⟩⟩⟩⟩)⟩, ⟨by (with_reducible repeat (first | apply Kd.R_alloc | apply Kd.R_drewN | apply Kd.R_drew)); exact Kd.R_mono HO234.out (fun _ hk => ⟨hk.1.1.1.1.1.1.2, ⟨hk.1.1.1.1.1.2, ⟨hk.1.1.1.1.2, ⟨hk.1.1.1.2, hk.1.1.2⟩⟩⟩⟩)⟩, ⟨by (with_reducible repeat (first | apply Kd.R_alloc | apply Kd.R_drewN | apply Kd.R_drew)); exact Kd.R_mono HO238.out (fun _ hk => ⟨hk.1.1.1.1.1.1.2, ⟨hk.1.1.1.1.1.2, ⟨hk.1.1.1.1.2, ⟨hk.1.1.1.2, hk.1.1.2⟩⟩⟩⟩)⟩, ⟨by (with_reducible repeat (first | apply Kd.R_alloc | apply Kd.R_drewN | apply Kd.R_drew)); exact Kd.R_mono HO242.out (fun _ hk => ⟨hk.1.1.1.1.1.1.2, ⟨hk.1.1.1.1.1.2, ⟨hk.1.1.1.1.2, ⟨hk.1.1.1.2, hk.1.1.2⟩⟩⟩⟩)⟩, ⟨by (with_reducible repeat (first | apply Kd.R_alloc | apply Kd.R_drewN | apply Kd.R_drew)); exact Kd.R_mono HO246.out (fun _ hk => ⟨hk.1.1.1.1.1.1.2, ⟨hk.1.1.1.1.1.2, ⟨hk.1.1.1.1.2, ⟨hk.1.1.1.2, hk.1.1.2⟩⟩⟩⟩)⟩, ⟨by repeat (first | (with_reducible first | exact HB.out | apply below_alloc | apply pw_below_drewN | apply below_drew1) | exact HB.out)⟩⟩
                                · rw [if_neg c54] at H
                                  have c54b0 : decide (a2 < 0) = false := decide_eq_false c54
                                  clear c54
                                  by_cases c59 : a2 > 3
                                  · rw [if_pos c59] at H
                                    have c59b0 : decide (3 < a2) = true := decide_eq_true c59
                                    clear c59
                                    have H' := Aside0.mk H
                                    clear H
                                    go_wp2_with (first | ((with_reducible refine gate_dst (N := 118) rfl ?_); (try (refine gate_guard (by rfl) ?_; dsimp only)); refine Kd.R_make (Kd.int .i64) _ 3 rfl (N := 118) rfl 22 _ _ rfl a2 rfl rfl Try.underlying22 (.int .i64 0) 8 info3 rfl (by decide) (by omega) 0 (ok := fun _ => True) (okp := fun _ => True) rfl (fun _ hk => hk) trivial (of_decide_eq_true (by first | (with_reducible assumption) | assumption)) (Nat.le_trans (Nat.mul_le_mul_right _ (of_decide_eq_true (by first | (with_reducible assumption) | assumption) : a2.toNat ≤ 35184372088832)) (by omega)) (Below.refl _ _) (Nat.le_refl _) ?_; intro v251 w60 ho61 hb hg_ hnew_; clear hg_ hnew_; (first | rw [← Ny250.out] at ho61 | (simp only [Int.reduceToNat] at ho61; rw [← Ny250.out] at ho61)); have n0_ := Aside0.mk (Kd.R_elder' (by (with_reducible repeat (first | apply Kd.R_alloc | apply Kd.R_drewN | apply Kd.R_drew)); exact HO_7.out) (Kd.R_base ho61) hb); have n1_ := Aside0.mk (Kd.R_elder' (by (with_reducible repeat (first | apply Kd.R_alloc | apply Kd.R_drewN | apply Kd.R_drew)); exact HO_8.out) (Kd.R_base ho61) hb); have n2_ := Aside0.mk (Kd.R_elder' (by (with_reducible repeat (first | apply Kd.R_alloc | apply Kd.R_drewN | apply Kd.R_drew)); exact HO234.out) (Kd.R_base ho61) hb); have n3_ := Aside0.mk (Kd.R_elder' (by (with_reducible repeat (first | apply Kd.R_alloc | apply Kd.R_drewN | apply Kd.R_drew)); exact HO238.out) (Kd.R_base ho61) hb); have n4_ := Aside0.mk (Kd.R_elder' (by (with_reducible repeat (first | apply Kd.R_alloc | apply Kd.R_drewN | apply Kd.R_drew)); exact HO242.out) (Kd.R_base ho61) hb); have n5_ := Aside0.mk (Kd.R_elder' (by (with_reducible repeat (first | apply Kd.R_alloc | apply Kd.R_drewN | apply Kd.R_drew)); exact HO246.out) (Kd.R_base ho61) hb); have n6_ := Aside0.mk (Kd.R_elder' (by (with_reducible repeat (first | apply Kd.R_alloc | apply Kd.R_drewN | apply Kd.R_drew)); exact HO249.out) (Kd.R_base ho61) hb); have n7_ := Aside0.mk (Kd.R_lower (Kd.R_new' (Kd.R_new' (Kd.R_new' (Kd.R_new' (Kd.R_new' (Kd.R_new' (Kd.R_new' ho61 (Kd.R_lt (by (with_reducible repeat (first | apply Kd.R_alloc | apply Kd.R_drewN | apply Kd.R_drew)); exact HO_7.out))) (Kd.R_lt (by (with_reducible repeat (first | apply Kd.R_alloc | apply Kd.R_drewN | apply Kd.R_drew)); exact HO_8.out))) (Kd.R_lt (by (with_reducible repeat (first | apply Kd.R_alloc | apply Kd.R_drewN | apply Kd.R_drew)); exact HO234.out))) (Kd.R_lt (by (with_reducible repeat (first | apply Kd.R_alloc | apply Kd.R_drewN | apply Kd.R_drew)); exact HO238.out))) (Kd.R_lt (by (with_reducible repeat (first | apply Kd.R_alloc | apply Kd.R_drewN | apply Kd.R_drew)); exact HO242.out))) (Kd.R_lt (by (with_reducible repeat (first | apply Kd.R_alloc | apply Kd.R_drewN | apply Kd.R_drew)); exact HO246.out))) (Kd.R_lt (by (with_reducible repeat (first | apply Kd.R_alloc | apply Kd.R_drewN | apply Kd.R_drew)); exact HO249.out))) (below_size (by repeat (first | (with_reducible first | exact HB.out | apply below_alloc | apply pw_below_drewN | apply below_drew1) | exact HB.out)))); have n8_ := Aside0.mk (below_step (by repeat (first | (with_reducible first | exact HB.out | apply below_alloc | apply pw_below_drewN | apply below_drew1) | exact HB.out)) hb); clear HO_7; clear HO_8; clear HO234; clear HO238; clear HO242; clear HO246; clear HO249; clear HB; have HO_7 := n0_; have HO_8 := n1_; have HO234 := n2_; have HO238 := n3_; have HO242 := n4_; have HO246 := n5_; have HO249 := n6_; have HO252 := n7_; have HB := n8_; clear n0_ n1_ n2_ n3_ n4_ n5_ n6_ n7_ n8_; clear hb ho61; obtain ⟨Ao62, co62, eo62⟩ := Kd.R_slice HO249.out; (first | subst eo62 | (injection eo62 with ea_ en_ ec_; (first | subst ea_ | (injection ea_ with ea_; subst ea_)); subst ec_; clear en_)); obtain ⟨Ao63, co63, eo63⟩ := Kd.R_slice HO252.out; (first | subst eo63 | (injection eo63 with ea_ en_ ec_; (first | subst ea_ | (injection ea_ with ea_; subst ea_)); subst ec_; clear en_))) | (go_at_call 13; (with_reducible refine (haulierref05_SameInts.calls kj13 _ _ t247 _ _ y250 true _ ?side1 ?side2 ?side3 ?side4 A52.out).mono ?_); (case side1 => repeat (first | exact (Kd.R_reads' HO249.out).2.2 | (with_reducible refine Kd.C_alloc ?_ _) | (with_reducible refine Kd.C_drewN ?_ _) | (with_reducible refine Kd.C_drew ?_))); (case side2 => exact (Kd.R_reads' HO249.out).2.1); (case side3 => repeat (first | exact (Kd.R_reads' HO252.out).2.2 | (with_reducible refine Kd.C_alloc ?_ _) | (with_reducible refine Kd.C_drewN ?_ _) | (with_reducible refine Kd.C_drew ?_))); (case side4 => exact (Kd.R_reads' HO252.out).2.1); rintro e w' ⟨rfl, ⟨nd, rfl⟩⟩))
                                    go_meet
                                    case rel => exact ⟨_, (((t247.length : Int) != 0)), (by first | rfl | (simp; done) | (simp [*]; done)), H', ⟨by have := HJ5.out; have := HJ13.out; first | omega | exact Nat.le_refl _⟩, ⟨by (with_reducible repeat (first | apply Kd.R_alloc | apply Kd.R_drewN | apply Kd.R_drew)); exact Kd.R_mono HO_7.out (fun _ hk => ⟨hk.1.1.1.1.1.1, ⟨hk.1.1.1.1.1.2, ⟨hk.1.1.1.1.2, ⟨hk.1.1.1.2, hk.1.1.2⟩⟩⟩⟩)⟩, ⟨by (with_reducible repeat (first | apply Kd.R_alloc | apply Kd.R_drewN | apply Kd.R_drew)); exact Kd.R_mono HO_8.out (fun _ hk => ⟨hk.1.1.1.1.1.1, ⟨hk.1.1.1.1.1.2, ⟨hk.1.1.1.1.2, ⟨hk.1.1.1.2, hk.1.1.2⟩⟩⟩⟩)⟩, ⟨by (with_reducible repeat (first | apply Kd.R_alloc | apply Kd.R_drewN | apply Kd.R_drew)); exact Kd.R_mono HO234.out (fun _ hk => ⟨hk.1.1.1.1.1.1.2, ⟨hk.1.1.1.1.1.2, ⟨hk.1.1.1.1.2, ⟨hk.1.1.1.2, hk.1.1.2⟩⟩⟩⟩)⟩, ⟨by (with_reducible repeat (first | apply Kd.R_alloc | apply Kd.R_drewN | apply Kd.R_drew)); exact Kd.R_mono HO238.out (fun _ hk => ⟨hk.1.1.1.1.1.1.2, ⟨hk.1.1.1.1.1.2, ⟨hk.1.1.1.1.2, ⟨hk.1.1.1.2, hk.1.1.2⟩⟩⟩⟩)⟩, ⟨by (with_reducible repeat (first | apply Kd.R_alloc | apply Kd.R_drewN | apply Kd.R_drew)); exact Kd.R_mono HO242.out (fun _ hk => ⟨hk.1.1.1.1.1.1.2, ⟨hk.1.1.1.1.1.2, ⟨hk.1.1.1.1.2, ⟨hk.1.1.1.2, hk.1.1.2⟩⟩⟩⟩)⟩, ⟨by (with_reducible repeat (first | apply Kd.R_alloc | apply Kd.R_drewN | apply Kd.R_drew)); exact Kd.R_mono HO246.out (fun _ hk => ⟨hk.1.1.1.1.1.1.2, ⟨hk.1.1.1.1.1.2, ⟨hk.1.1.1.1.2, ⟨hk.1.1.1.2, hk.1.1.2⟩⟩⟩⟩)⟩, ⟨by repeat (first | (with_reducible first | exact HB.out | apply below_alloc | apply pw_below_drewN | apply below_drew1) | exact HB.out)⟩⟩
                                  · rw [if_neg c59] at H
                                    have c59b0 : decide (3 < a2) = false := decide_eq_false c59
                                    clear c59
                                    have H' := Aside0.mk H
                                    clear H
                                    go_wp2_with (first | ((with_reducible refine gate_dst (N := 118) rfl ?_); (try (refine gate_guard (by rfl) ?_; dsimp only)); refine Kd.R_make (Kd.int .i64) _ 3 rfl (N := 118) rfl 22 _ _ rfl a2 rfl rfl Try.underlying22 (.int .i64 0) 8 info3 rfl (by decide) (by omega) 0 (ok := fun _ => True) (okp := fun _ => True) rfl (fun _ hk => hk) trivial (of_decide_eq_true (by first | (with_reducible assumption) | assumption)) (Nat.le_trans (Nat.mul_le_mul_right _ (of_decide_eq_true (by first | (with_reducible assumption) | assumption) : a2.toNat ≤ 35184372088832)) (by omega)) (Below.refl _ _) (Nat.le_refl _) ?_; intro v251 w64 ho65 hb hg_ hnew_; clear hg_ hnew_; (first | rw [← Ny250.out] at ho65 | (simp only [Int.reduceToNat] at ho65; rw [← Ny250.out] at ho65)); have n0_ := Aside0.mk (Kd.R_elder' (by (with_reducible repeat (first | apply Kd.R_alloc | apply Kd.R_drewN | apply Kd.R_drew)); exact HO_7.out) (Kd.R_base ho65) hb); have n1_ := Aside0.mk (Kd.R_elder' (by (with_reducible repeat (first | apply Kd.R_alloc | apply Kd.R_drewN | apply Kd.R_drew)); exact HO_8.out) (Kd.R_base ho65) hb); have n2_ := Aside0.mk (Kd.R_elder' (by (with_reducible repeat (first | apply Kd.R_alloc | apply Kd.R_drewN | apply Kd.R_drew)); exact HO234.out) (Kd.R_base ho65) hb); have n3_ := Aside0.mk (Kd.R_elder' (by (with_reducible repeat (first | apply Kd.R_alloc | apply Kd.R_drewN | apply Kd.R_drew)); exact HO238.out) (Kd.R_base ho65) hb); have n4_ := Aside0.mk (Kd.R_elder' (by (with_reducible repeat (first | apply Kd.R_alloc | apply Kd.R_drewN | apply Kd.R_drew)); exact HO242.out) (Kd.R_base ho65) hb); have n5_ := Aside0.mk (Kd.R_elder' (by (with_reducible repeat (first | apply Kd.R_alloc | apply Kd.R_drewN | apply Kd.R_drew)); exact HO246.out) (Kd.R_base ho65) hb); have n6_ := Aside0.mk (Kd.R_elder' (by (with_reducible repeat (first | apply Kd.R_alloc | apply Kd.R_drewN | apply Kd.R_drew)); exact HO249.out) (Kd.R_base ho65) hb); have n7_ := Aside0.mk (Kd.R_lower (Kd.R_new' (Kd.R_new' (Kd.R_new' (Kd.R_new' (Kd.R_new' (Kd.R_new' (Kd.R_new' ho65 (Kd.R_lt (by (with_reducible repeat (first | apply Kd.R_alloc | apply Kd.R_drewN | apply Kd.R_drew)); exact HO_7.out))) (Kd.R_lt (by (with_reducible repeat (first | apply Kd.R_alloc | apply Kd.R_drewN | apply Kd.R_drew)); exact HO_8.out))) (Kd.R_lt (by (with_reducible repeat (first | apply Kd.R_alloc | apply Kd.R_drewN | apply Kd.R_drew)); exact HO234.out))) (Kd.R_lt (by (with_reducible repeat (first | apply Kd.R_alloc | apply Kd.R_drewN | apply Kd.R_drew)); exact HO238.out))) (Kd.R_lt (by (with_reducible repeat (first | apply Kd.R_alloc | apply Kd.R_drewN | apply Kd.R_drew)); exact HO242.out))) (Kd.R_lt (by (with_reducible repeat (first | apply Kd.R_alloc | apply Kd.R_drewN | apply Kd.R_drew)); exact HO246.out))) (Kd.R_lt (by (with_reducible repeat (first | apply Kd.R_alloc | apply Kd.R_drewN | apply Kd.R_drew)); exact HO249.out))) (below_size (by repeat (first | (with_reducible first | exact HB.out | apply below_alloc | apply pw_below_drewN | apply below_drew1) | exact HB.out)))); have n8_ := Aside0.mk (below_step (by repeat (first | (with_reducible first | exact HB.out | apply below_alloc | apply pw_below_drewN | apply below_drew1) | exact HB.out)) hb); clear HO_7; clear HO_8; clear HO234; clear HO238; clear HO242; clear HO246; clear HO249; clear HB; have HO_7 := n0_; have HO_8 := n1_; have HO234 := n2_; have HO238 := n3_; have HO242 := n4_; have HO246 := n5_; have HO249 := n6_; have HO252 := n7_; have HB := n8_; clear n0_ n1_ n2_ n3_ n4_ n5_ n6_ n7_ n8_; clear hb ho65; obtain ⟨Ao66, co66, eo66⟩ := Kd.R_slice HO249.out; (first | subst eo66 | (injection eo66 with ea_ en_ ec_; (first | subst ea_ | (injection ea_ with ea_; subst ea_)); subst ec_; clear en_)); obtain ⟨Ao67, co67, eo67⟩ := Kd.R_slice HO252.out; (first | subst eo67 | (injection eo67 with ea_ en_ ec_; (first | subst ea_ | (injection ea_ with ea_; subst ea_)); subst ec_; clear en_))) | (go_at_call 13; (with_reducible refine (haulierref05_SameInts.calls kj13 _ _ t247 _ _ y250 true _ ?side1 ?side2 ?side3 ?side4 A52.out).mono ?_); (case side1 => repeat (first | exact (Kd.R_reads' HO249.out).2.2 | (with_reducible refine Kd.C_alloc ?_ _) | (with_reducible refine Kd.C_drewN ?_ _) | (with_reducible refine Kd.C_drew ?_))); (case side2 => exact (Kd.R_reads' HO249.out).2.1); (case side3 => repeat (first | exact (Kd.R_reads' HO252.out).2.2 | (with_reducible refine Kd.C_alloc ?_ _) | (with_reducible refine Kd.C_drewN ?_ _) | (with_reducible refine Kd.C_drew ?_))); (case side4 => exact (Kd.R_reads' HO252.out).2.1); rintro e w' ⟨rfl, ⟨nd, rfl⟩⟩))
                                    go_meet
                                    case rel => exact ⟨_, (false), (by first | rfl | (simp; done) | (simp [*]; done)), H', ⟨by have := HJ5.out; have := HJ13.out; first | omega | exact Nat.le_refl _⟩, ⟨by (with_reducible repeat (first | apply Kd.R_alloc | apply Kd.R_drewN | apply Kd.R_drew)); exact Kd.R_mono HO_7.out (fun _ hk => ⟨hk.1.1.1.1.1.1, ⟨hk.1.1.1.1.1.2, ⟨hk.1.1.1.1.2, ⟨hk.1.1.1.2, hk.1.1.2⟩⟩⟩⟩)⟩, ⟨by (with_reducible repeat (first | apply Kd.R_alloc | apply Kd.R_drewN | apply Kd.R_drew)); exact Kd.R_mono HO_8.out (fun _ hk => ⟨hk.1.1.1.1.1.1, ⟨hk.1.1.1.1.1.2, ⟨hk.1.1.1.1.2, ⟨hk.1.1.1.2, hk.1.1.2⟩⟩⟩⟩)⟩, ⟨by (with_reducible repeat (first | apply Kd.R_alloc | apply Kd.R_drewN | apply Kd.R_drew)); exact Kd.R_mono HO234.out (fun _ hk => ⟨hk.1.1.1.1.1.1.2, ⟨hk.1.1.1.1.1.2, ⟨hk.1.1.1.1.2, ⟨hk.1.1.1.2, hk.1.1.2⟩⟩⟩⟩)⟩, ⟨by (with_reducible repeat (first | apply Kd.R_alloc | apply Kd.R_drewN | apply Kd.R_drew)); exact Kd.R_mono HO238.out (fun _ hk => ⟨hk.1.1.1.1.1.1.2, ⟨hk.1.1.1.1.1.2, ⟨hk.1.1.1.1.2, ⟨hk.1.1.1.2, hk.1.1.2⟩⟩⟩⟩)⟩, ⟨by (with_reducible repeat (first | apply Kd.R_alloc | apply Kd.R_drewN | apply Kd.R_drew)); exact Kd.R_mono HO242.out (fun _ hk => ⟨hk.1.1.1.1.1.1.2, ⟨hk.1.1.1.1.1.2, ⟨hk.1.1.1.1.2, ⟨hk.1.1.1.2, hk.1.1.2⟩⟩⟩⟩)⟩, ⟨by (with_reducible repeat (first | apply Kd.R_alloc | apply Kd.R_drewN | apply Kd.R_drew)); exact Kd.R_mono HO246.out (fun _ hk => ⟨hk.1.1.1.1.1.1.2, ⟨hk.1.1.1.1.1.2, ⟨hk.1.1.1.1.2, ⟨hk.1.1.1.2, hk.1.1.2⟩⟩⟩⟩)⟩, ⟨by repeat (first | (with_reducible first | exact HB.out | apply below_alloc | apply pw_below_drewN | apply below_drew1) | exact HB.out)⟩⟩
                              · replace c53 := Bool.eq_false_iff.mpr c53
                                subst c53
                                have H1 : (haulierlaw09_LoadReckons.j2 kj13 l0 l1 a2 y212 y218 t231 t232 t235 t236 t239 t240 t243 t244 true) = some true := by rw [if_neg (show ¬ (false = true) by decide)] at H; exact H
                                clear H
                                have H := H1
                                clear H1
                                exact absurd H (by cases kj13 <;> simp [haulierlaw09_LoadReckons.j2])
                            · rw [if_neg c51] at H
                              exact absurd H (by simp)
                          · rw [if_neg c50] at H
                            exact absurd H (by simp)
                        · rw [if_neg c49] at H
                          have c49b0 : decide (a2 ≤ 3) = false := decide_eq_false c49
                          clear c49
                          by_cases c68 : a2 < 0
                          · rw [if_pos c68] at H
                            have c68b0 : decide (a2 < 0) = true := decide_eq_true c68
                            clear c68
                            have H' := Aside0.mk H
                            clear H
                            obtain ⟨Ao69, co69, eo69⟩ := Kd.R_slice HO249.out
                            subst eo69
                            go_wp2
                            go_meet
                            case rel => exact ⟨_, (((t247.length : Int) != 0)), (by first | rfl | (simp; done) | (simp [*]; done)), H', ⟨by have := HJ5.out; have := HJ13.out; first | omega | exact Nat.le_refl _⟩, ⟨by (with_reducible repeat (first | apply Kd.R_alloc | apply Kd.R_drewN | apply Kd.R_drew)); exact Kd.R_mono HO_7.out (fun _ hk => ⟨hk.1.1.1.1.1, ⟨hk.1.1.1.1.2, ⟨hk.1.1.1.2, ⟨hk.1.1.2, hk.1.2⟩⟩⟩⟩)⟩, ⟨by (with_reducible repeat (first | apply Kd.R_alloc | apply Kd.R_drewN | apply Kd.R_drew)); exact Kd.R_mono HO_8.out (fun _ hk => ⟨hk.1.1.1.1.1, ⟨hk.1.1.1.1.2, ⟨hk.1.1.1.2, ⟨hk.1.1.2, hk.1.2⟩⟩⟩⟩)⟩, ⟨by (with_reducible repeat (first | apply Kd.R_alloc | apply Kd.R_drewN | apply Kd.R_drew)); exact Kd.R_mono HO234.out (fun _ hk => ⟨hk.1.1.1.1.1.2, ⟨hk.1.1.1.1.2, ⟨hk.1.1.1.2, ⟨hk.1.1.2, hk.1.2⟩⟩⟩⟩)⟩, ⟨by (with_reducible repeat (first | apply Kd.R_alloc | apply Kd.R_drewN | apply Kd.R_drew)); exact Kd.R_mono HO238.out (fun _ hk => ⟨hk.1.1.1.1.1.2, ⟨hk.1.1.1.1.2, ⟨hk.1.1.1.2, ⟨hk.1.1.2, hk.1.2⟩⟩⟩⟩)⟩, ⟨by (with_reducible repeat (first | apply Kd.R_alloc | apply Kd.R_drewN | apply Kd.R_drew)); exact Kd.R_mono HO242.out (fun _ hk => ⟨hk.1.1.1.1.1.2, ⟨hk.1.1.1.1.2, ⟨hk.1.1.1.2, ⟨hk.1.1.2, hk.1.2⟩⟩⟩⟩)⟩, ⟨by (with_reducible repeat (first | apply Kd.R_alloc | apply Kd.R_drewN | apply Kd.R_drew)); exact Kd.R_mono HO246.out (fun _ hk => ⟨hk.1.1.1.1.1.2, ⟨hk.1.1.1.1.2, ⟨hk.1.1.1.2, ⟨hk.1.1.2, hk.1.2⟩⟩⟩⟩)⟩, ⟨by repeat (first | (with_reducible first | exact HB.out | apply below_alloc | apply pw_below_drewN | apply below_drew1) | exact HB.out)⟩⟩
                          · rw [if_neg c68] at H
                            have c68b0 : decide (a2 < 0) = false := decide_eq_false c68
                            clear c68
                            by_cases c70 : a2 > 3
                            · rw [if_pos c70] at H
                              have c70b0 : decide (3 < a2) = true := decide_eq_true c70
                              clear c70
                              have H' := Aside0.mk H
                              clear H
                              obtain ⟨Ao71, co71, eo71⟩ := Kd.R_slice HO249.out
                              subst eo71
                              go_wp2
                              go_meet
                              case rel => exact ⟨_, (((t247.length : Int) != 0)), (by first | rfl | (simp; done) | (simp [*]; done)), H', ⟨by have := HJ5.out; have := HJ13.out; first | omega | exact Nat.le_refl _⟩, ⟨by (with_reducible repeat (first | apply Kd.R_alloc | apply Kd.R_drewN | apply Kd.R_drew)); exact Kd.R_mono HO_7.out (fun _ hk => ⟨hk.1.1.1.1.1, ⟨hk.1.1.1.1.2, ⟨hk.1.1.1.2, ⟨hk.1.1.2, hk.1.2⟩⟩⟩⟩)⟩, ⟨by (with_reducible repeat (first | apply Kd.R_alloc | apply Kd.R_drewN | apply Kd.R_drew)); exact Kd.R_mono HO_8.out (fun _ hk => ⟨hk.1.1.1.1.1, ⟨hk.1.1.1.1.2, ⟨hk.1.1.1.2, ⟨hk.1.1.2, hk.1.2⟩⟩⟩⟩)⟩, ⟨by (with_reducible repeat (first | apply Kd.R_alloc | apply Kd.R_drewN | apply Kd.R_drew)); exact Kd.R_mono HO234.out (fun _ hk => ⟨hk.1.1.1.1.1.2, ⟨hk.1.1.1.1.2, ⟨hk.1.1.1.2, ⟨hk.1.1.2, hk.1.2⟩⟩⟩⟩)⟩, ⟨by (with_reducible repeat (first | apply Kd.R_alloc | apply Kd.R_drewN | apply Kd.R_drew)); exact Kd.R_mono HO238.out (fun _ hk => ⟨hk.1.1.1.1.1.2, ⟨hk.1.1.1.1.2, ⟨hk.1.1.1.2, ⟨hk.1.1.2, hk.1.2⟩⟩⟩⟩)⟩, ⟨by (with_reducible repeat (first | apply Kd.R_alloc | apply Kd.R_drewN | apply Kd.R_drew)); exact Kd.R_mono HO242.out (fun _ hk => ⟨hk.1.1.1.1.1.2, ⟨hk.1.1.1.1.2, ⟨hk.1.1.1.2, ⟨hk.1.1.2, hk.1.2⟩⟩⟩⟩)⟩, ⟨by (with_reducible repeat (first | apply Kd.R_alloc | apply Kd.R_drewN | apply Kd.R_drew)); exact Kd.R_mono HO246.out (fun _ hk => ⟨hk.1.1.1.1.1.2, ⟨hk.1.1.1.1.2, ⟨hk.1.1.1.2, ⟨hk.1.1.2, hk.1.2⟩⟩⟩⟩)⟩, ⟨by repeat (first | (with_reducible first | exact HB.out | apply below_alloc | apply pw_below_drewN | apply below_drew1) | exact HB.out)⟩⟩
                            · rw [if_neg c70] at H
                              have c70b0 : decide (3 < a2) = false := decide_eq_false c70
                              clear c70
                              have H' := Aside0.mk H
                              clear H
                              go_wp2
                              go_meet
                              case rel => exact ⟨_, (false), (by first | rfl | (simp; done) | (simp [*]; done)), H', ⟨by have := HJ5.out; have := HJ13.out; first | omega | exact Nat.le_refl _⟩, ⟨by (with_reducible repeat (first | apply Kd.R_alloc | apply Kd.R_drewN | apply Kd.R_drew)); exact Kd.R_mono HO_7.out (fun _ hk => ⟨hk.1.1.1.1.1, ⟨hk.1.1.1.1.2, ⟨hk.1.1.1.2, ⟨hk.1.1.2, hk.1.2⟩⟩⟩⟩)⟩, ⟨by (with_reducible repeat (first | apply Kd.R_alloc | apply Kd.R_drewN | apply Kd.R_drew)); exact Kd.R_mono HO_8.out (fun _ hk => ⟨hk.1.1.1.1.1, ⟨hk.1.1.1.1.2, ⟨hk.1.1.1.2, ⟨hk.1.1.2, hk.1.2⟩⟩⟩⟩)⟩, ⟨by (with_reducible repeat (first | apply Kd.R_alloc | apply Kd.R_drewN | apply Kd.R_drew)); exact Kd.R_mono HO234.out (fun _ hk => ⟨hk.1.1.1.1.1.2, ⟨hk.1.1.1.1.2, ⟨hk.1.1.1.2, ⟨hk.1.1.2, hk.1.2⟩⟩⟩⟩)⟩, ⟨by (with_reducible repeat (first | apply Kd.R_alloc | apply Kd.R_drewN | apply Kd.R_drew)); exact Kd.R_mono HO238.out (fun _ hk => ⟨hk.1.1.1.1.1.2, ⟨hk.1.1.1.1.2, ⟨hk.1.1.1.2, ⟨hk.1.1.2, hk.1.2⟩⟩⟩⟩)⟩, ⟨by (with_reducible repeat (first | apply Kd.R_alloc | apply Kd.R_drewN | apply Kd.R_drew)); exact Kd.R_mono HO242.out (fun _ hk => ⟨hk.1.1.1.1.1.2, ⟨hk.1.1.1.1.2, ⟨hk.1.1.1.2, ⟨hk.1.1.2, hk.1.2⟩⟩⟩⟩)⟩, ⟨by (with_reducible repeat (first | apply Kd.R_alloc | apply Kd.R_drewN | apply Kd.R_drew)); exact Kd.R_mono HO246.out (fun _ hk => ⟨hk.1.1.1.1.1.2, ⟨hk.1.1.1.1.2, ⟨hk.1.1.1.2, ⟨hk.1.1.2, hk.1.2⟩⟩⟩⟩)⟩, ⟨by repeat (first | (with_reducible first | exact HB.out | apply below_alloc | apply pw_below_drewN | apply below_drew1) | exact HB.out)⟩⟩
                      · rw [if_neg c48] at H
                        have c48b0 : decide (0 ≤ a2) = false := decide_eq_false c48
                        clear c48
                        (first | rw [c48b0] | (simp only [i64_w, i32_w]; rw [c48b0]) | skip)
                        by_cases c72 : a2 < 0
                        · rw [if_pos c72] at H
                          have c72b0 : decide (a2 < 0) = true := decide_eq_true c72
                          clear c72
                          have H' := Aside0.mk H
                          clear H
                          obtain ⟨Ao73, co73, eo73⟩ := Kd.R_slice HO249.out
                          subst eo73
                          go_wp2
                          go_meet
                          case rel => exact ⟨_, (((t247.length : Int) != 0)), (by first | rfl | (simp; done) | (simp [*]; done)), H', ⟨by have := HJ5.out; have := HJ13.out; first | omega | exact Nat.le_refl _⟩, ⟨by (with_reducible repeat (first | apply Kd.R_alloc | apply Kd.R_drewN | apply Kd.R_drew)); exact Kd.R_mono HO_7.out (fun _ hk => ⟨hk.1.1.1.1.1, ⟨hk.1.1.1.1.2, ⟨hk.1.1.1.2, ⟨hk.1.1.2, hk.1.2⟩⟩⟩⟩)⟩, ⟨by (with_reducible repeat (first | apply Kd.R_alloc | apply Kd.R_drewN | apply Kd.R_drew)); exact Kd.R_mono HO_8.out (fun _ hk => ⟨hk.1.1.1.1.1, ⟨hk.1.1.1.1.2, ⟨hk.1.1.1.2, ⟨hk.1.1.2, hk.1.2⟩⟩⟩⟩)⟩, ⟨by (with_reducible repeat (first | apply Kd.R_alloc | apply Kd.R_drewN | apply Kd.R_drew)); exact Kd.R_mono HO234.out (fun _ hk => ⟨hk.1.1.1.1.1.2, ⟨hk.1.1.1.1.2, ⟨hk.1.1.1.2, ⟨hk.1.1.2, hk.1.2⟩⟩⟩⟩)⟩, ⟨by (with_reducible repeat (first | apply Kd.R_alloc | apply Kd.R_drewN | apply Kd.R_drew)); exact Kd.R_mono HO238.out (fun _ hk => ⟨hk.1.1.1.1.1.2, ⟨hk.1.1.1.1.2, ⟨hk.1.1.1.2, ⟨hk.1.1.2, hk.1.2⟩⟩⟩⟩)⟩, ⟨by (with_reducible repeat (first | apply Kd.R_alloc | apply Kd.R_drewN | apply Kd.R_drew)); exact Kd.R_mono HO242.out (fun _ hk => ⟨hk.1.1.1.1.1.2, ⟨hk.1.1.1.1.2, ⟨hk.1.1.1.2, ⟨hk.1.1.2, hk.1.2⟩⟩⟩⟩)⟩, ⟨by (with_reducible repeat (first | apply Kd.R_alloc | apply Kd.R_drewN | apply Kd.R_drew)); exact Kd.R_mono HO246.out (fun _ hk => ⟨hk.1.1.1.1.1.2, ⟨hk.1.1.1.1.2, ⟨hk.1.1.1.2, ⟨hk.1.1.2, hk.1.2⟩⟩⟩⟩)⟩, ⟨by repeat (first | (with_reducible first | exact HB.out | apply below_alloc | apply pw_below_drewN | apply below_drew1) | exact HB.out)⟩⟩
                        · rw [if_neg c72] at H
                          have c72b0 : decide (a2 < 0) = false := decide_eq_false c72
                          clear c72
                          by_cases c74 : a2 > 3
                          · rw [if_pos c74] at H
                            have c74b0 : decide (3 < a2) = true := decide_eq_true c74
                            clear c74
                            have H' := Aside0.mk H
                            clear H
                            obtain ⟨Ao75, co75, eo75⟩ := Kd.R_slice HO249.out
                            subst eo75
                            go_wp2
                            go_meet
                            case rel => exact ⟨_, (((t247.length : Int) != 0)), (by first | rfl | (simp; done) | (simp [*]; done)), H', ⟨by have := HJ5.out; have := HJ13.out; first | omega | exact Nat.le_refl _⟩, ⟨by (with_reducible repeat (first | apply Kd.R_alloc | apply Kd.R_drewN | apply Kd.R_drew)); exact Kd.R_mono HO_7.out (fun _ hk => ⟨hk.1.1.1.1.1, ⟨hk.1.1.1.1.2, ⟨hk.1.1.1.2, ⟨hk.1.1.2, hk.1.2⟩⟩⟩⟩)⟩, ⟨by (with_reducible repeat (first | apply Kd.R_alloc | apply Kd.R_drewN | apply Kd.R_drew)); exact Kd.R_mono HO_8.out (fun _ hk => ⟨hk.1.1.1.1.1, ⟨hk.1.1.1.1.2, ⟨hk.1.1.1.2, ⟨hk.1.1.2, hk.1.2⟩⟩⟩⟩)⟩, ⟨by (with_reducible repeat (first | apply Kd.R_alloc | apply Kd.R_drewN | apply Kd.R_drew)); exact Kd.R_mono HO234.out (fun _ hk => ⟨hk.1.1.1.1.1.2, ⟨hk.1.1.1.1.2, ⟨hk.1.1.1.2, ⟨hk.1.1.2, hk.1.2⟩⟩⟩⟩)⟩, ⟨by (with_reducible repeat (first | apply Kd.R_alloc | apply Kd.R_drewN | apply Kd.R_drew)); exact Kd.R_mono HO238.out (fun _ hk => ⟨hk.1.1.1.1.1.2, ⟨hk.1.1.1.1.2, ⟨hk.1.1.1.2, ⟨hk.1.1.2, hk.1.2⟩⟩⟩⟩)⟩, ⟨by (with_reducible repeat (first | apply Kd.R_alloc | apply Kd.R_drewN | apply Kd.R_drew)); exact Kd.R_mono HO242.out (fun _ hk => ⟨hk.1.1.1.1.1.2, ⟨hk.1.1.1.1.2, ⟨hk.1.1.1.2, ⟨hk.1.1.2, hk.1.2⟩⟩⟩⟩)⟩, ⟨by (with_reducible repeat (first | apply Kd.R_alloc | apply Kd.R_drewN | apply Kd.R_drew)); exact Kd.R_mono HO246.out (fun _ hk => ⟨hk.1.1.1.1.1.2, ⟨hk.1.1.1.1.2, ⟨hk.1.1.1.2, ⟨hk.1.1.2, hk.1.2⟩⟩⟩⟩)⟩, ⟨by repeat (first | (with_reducible first | exact HB.out | apply below_alloc | apply pw_below_drewN | apply below_drew1) | exact HB.out)⟩⟩
                          · rw [if_neg c74] at H
                            have c74b0 : decide (3 < a2) = false := decide_eq_false c74
                            clear c74
                            have H' := Aside0.mk H
                            clear H
                            go_wp2
                            go_meet
                            case rel => exact ⟨_, (false), (by first | rfl | (simp; done) | (simp [*]; done)), H', ⟨by have := HJ5.out; have := HJ13.out; first | omega | exact Nat.le_refl _⟩, ⟨by (with_reducible repeat (first | apply Kd.R_alloc | apply Kd.R_drewN | apply Kd.R_drew)); exact Kd.R_mono HO_7.out (fun _ hk => ⟨hk.1.1.1.1.1, ⟨hk.1.1.1.1.2, ⟨hk.1.1.1.2, ⟨hk.1.1.2, hk.1.2⟩⟩⟩⟩)⟩, ⟨by (with_reducible repeat (first | apply Kd.R_alloc | apply Kd.R_drewN | apply Kd.R_drew)); exact Kd.R_mono HO_8.out (fun _ hk => ⟨hk.1.1.1.1.1, ⟨hk.1.1.1.1.2, ⟨hk.1.1.1.2, ⟨hk.1.1.2, hk.1.2⟩⟩⟩⟩)⟩, ⟨by (with_reducible repeat (first | apply Kd.R_alloc | apply Kd.R_drewN | apply Kd.R_drew)); exact Kd.R_mono HO234.out (fun _ hk => ⟨hk.1.1.1.1.1.2, ⟨hk.1.1.1.1.2, ⟨hk.1.1.1.2, ⟨hk.1.1.2, hk.1.2⟩⟩⟩⟩)⟩, ⟨by (with_reducible repeat (first | apply Kd.R_alloc | apply Kd.R_drewN | apply Kd.R_drew)); exact Kd.R_mono HO238.out (fun _ hk => ⟨hk.1.1.1.1.1.2, ⟨hk.1.1.1.1.2, ⟨hk.1.1.1.2, ⟨hk.1.1.2, hk.1.2⟩⟩⟩⟩)⟩, ⟨by (with_reducible repeat (first | apply Kd.R_alloc | apply Kd.R_drewN | apply Kd.R_drew)); exact Kd.R_mono HO242.out (fun _ hk => ⟨hk.1.1.1.1.1.2, ⟨hk.1.1.1.1.2, ⟨hk.1.1.1.2, ⟨hk.1.1.2, hk.1.2⟩⟩⟩⟩)⟩, ⟨by (with_reducible repeat (first | apply Kd.R_alloc | apply Kd.R_drewN | apply Kd.R_drew)); exact Kd.R_mono HO246.out (fun _ hk => ⟨hk.1.1.1.1.1.2, ⟨hk.1.1.1.1.2, ⟨hk.1.1.1.2, ⟨hk.1.1.2, hk.1.2⟩⟩⟩⟩)⟩, ⟨by repeat (first | (with_reducible first | exact HB.out | apply below_alloc | apply pw_below_drewN | apply below_drew1) | exact HB.out)⟩⟩
                    case rest =>
                      clear HC42
                      try clear c1
                      try clear c2
                      try clear p2
                      try clear c3
                      try clear c4
                      try clear c5
                      try clear c6
                      try clear c7
                      try clear c8
                      try clear c8b0
                      try clear c8b1
                      try clear c9
                      try clear c10
                      try clear c11
                      try clear c12
                      try clear c14
                      try clear c16
                      try clear c17
                      try clear c26
                      try clear c26b0
                      try clear c26b1
                      try clear c28
                      try clear c29
                      try clear c29b0
                      try clear c29b1
                      try clear c33
                      try clear c33b0
                      try clear c33b1
                      try clear c33b2
                      try clear c36
                      try clear c48
                      try clear c48b0
                      try clear c49
                      try clear c49b0
                      try clear c50
                      try clear c50b0
                      try clear c50b1
                      try clear c51
                      try clear c51b0
                      try clear c51b1
                      try clear c53
                      try clear c54
                      try clear c54b0
                      try clear c59
                      try clear c59b0
                      try clear c68
                      try clear c68b0
                      try clear c70
                      try clear c70b0
                      try clear c72
                      try clear c72b0
                      try clear c74
                      try clear c74b0
                      try clear p2
                      obtain ⟨kq, x134_41, rfl, HA, HJ41, HO_7, HO_8, HO_13, HO_15, HO_17, HO_19, HB⟩ := hcut
                      cases kq with
                      | zero => exact absurd HA.out (by simp [haulierlaw09_LoadReckons.j2])
                      | succ kj41 =>
                        have H := HA.out
                        clear HA
                        simp only [haulierlaw09_LoadReckons.j2] at H
                        by_cases c76 : x134_41 = true
                        · subst c76
                          have H1 : (some false) = some true := by rw [if_pos rfl] at H; exact H
                          clear H
                          have H := H1
                          clear H1
                          exact absurd H (by simp)
                        · replace c76 := Bool.eq_false_iff.mpr c76
                          subst c76
                          have H1 : ((haulierref05_SameInts.f kj41 t231 t235).bind fun t254 => (if t254 = true then (if t232 = t236 then ((haulierref05_SameInts.f kj41 t239 t243).bind fun t255 => (if t255 = true then (if t240 = t244 then ((load_Check.f kj41 y212 a2).bind fun t256 => ((haulierref09_Check.f kj41 l0 a2).bind fun t257 => (if t256 = t257 then ((load_Under.f kj41 y212 y218).bind fun t258 => ((haulierref09_Under.f kj41 l0 l1).bind fun t259 => (if (t258 == t259) = true then ((load_Same.f kj41 y212 y218).bind fun t260 => ((haulierref05_SameInts.f kj41 l0 l1).bind fun t261 => (if (t260 == t261) = true then ((haulierref05_SameInts.f kj41 y212 l0).bind fun t262 => (if t262 = true then ((haulierref05_SameInts.f kj41 y218 l1).bind fun t263 => (some t263)) else (some false))) else (some false)))) else (some false)))) else (some false)))) else (some false)) else (some false))) else (some false)) else (some false))) = some true := by rw [if_neg (show ¬ (false = true) by decide)] at H; exact H
                          clear H
                          have H := H1
                          clear H1
                          replace H := Option.bind_eq_some_iff.mp H
                          obtain ⟨t254, A770, H⟩ := H
                          replace H : (if t254 = true then (if t232 = t236 then ((haulierref05_SameInts.f kj41 t239 t243).bind fun t255 => (if t255 = true then (if t240 = t244 then ((load_Check.f kj41 y212 a2).bind fun t256 => ((haulierref09_Check.f kj41 l0 a2).bind fun t257 => (if t256 = t257 then ((load_Under.f kj41 y212 y218).bind fun t258 => ((haulierref09_Under.f kj41 l0 l1).bind fun t259 => (if (t258 == t259) = true then ((load_Same.f kj41 y212 y218).bind fun t260 => ((haulierref05_SameInts.f kj41 l0 l1).bind fun t261 => (if (t260 == t261) = true then ((haulierref05_SameInts.f kj41 y212 l0).bind fun t262 => (if t262 = true then ((haulierref05_SameInts.f kj41 y218 l1).bind fun t263 => (some t263)) else (some false))) else (some false)))) else (some false)))) else (some false)))) else (some false)) else (some false))) else (some false)) else (some false)) = some true := H
                          have A77 := Aside0.mk A770
                          clear A770
                          by_cases c78 : t254 = true
                          · subst c78
                            have H1 : (if t232 = t236 then ((haulierref05_SameInts.f kj41 t239 t243).bind fun t255 => (if t255 = true then (if t240 = t244 then ((load_Check.f kj41 y212 a2).bind fun t256 => ((haulierref09_Check.f kj41 l0 a2).bind fun t257 => (if t256 = t257 then ((load_Under.f kj41 y212 y218).bind fun t258 => ((haulierref09_Under.f kj41 l0 l1).bind fun t259 => (if (t258 == t259) = true then ((load_Same.f kj41 y212 y218).bind fun t260 => ((haulierref05_SameInts.f kj41 l0 l1).bind fun t261 => (if (t260 == t261) = true then ((haulierref05_SameInts.f kj41 y212 l0).bind fun t262 => (if t262 = true then ((haulierref05_SameInts.f kj41 y218 l1).bind fun t263 => (some t263)) else (some false))) else (some false)))) else (some false)))) else (some false)))) else (some false)) else (some false))) else (some false)) = some true := by rw [if_pos rfl] at H; exact H
                            clear H
                            have H := H1
                            clear H1
                            by_cases c79 : t232 = t236
                            · rw [if_pos c79] at H
                              have c79b0 : (t232 == t236) = true := beq_iff_eq.mpr c79
                              have c79b1 : (t232 != t236) = false := bne_eq_false_iff_eq.mpr c79
                              clear c79
                              replace H := Option.bind_eq_some_iff.mp H
                              obtain ⟨t255, A800, H⟩ := H
                              replace H : (if t255 = true then (if t240 = t244 then ((load_Check.f kj41 y212 a2).bind fun t256 => ((haulierref09_Check.f kj41 l0 a2).bind fun t257 => (if t256 = t257 then ((load_Under.f kj41 y212 y218).bind fun t258 => ((haulierref09_Under.f kj41 l0 l1).bind fun t259 => (if (t258 == t259) = true then ((load_Same.f kj41 y212 y218).bind fun t260 => ((haulierref05_SameInts.f kj41 l0 l1).bind fun t261 => (if (t260 == t261) = true then ((haulierref05_SameInts.f kj41 y212 l0).bind fun t262 => (if t262 = true then ((haulierref05_SameInts.f kj41 y218 l1).bind fun t263 => (some t263)) else (some false))) else (some false)))) else (some false)))) else (some false)))) else (some false)) else (some false)) = some true := H
                              have A80 := Aside0.mk A800
                              clear A800
                              by_cases c81 : t255 = true
                              · subst c81
                                have H1 : (if t240 = t244 then ((load_Check.f kj41 y212 a2).bind fun t256 => ((haulierref09_Check.f kj41 l0 a2).bind fun t257 => (if t256 = t257 then ((load_Under.f kj41 y212 y218).bind fun t258 => ((haulierref09_Under.f kj41 l0 l1).bind fun t259 => (if (t258 == t259) = true then ((load_Same.f kj41 y212 y218).bind fun t260 => ((haulierref05_SameInts.f kj41 l0 l1).bind fun t261 => (if (t260 == t261) = true then ((haulierref05_SameInts.f kj41 y212 l0).bind fun t262 => (if t262 = true then ((haulierref05_SameInts.f kj41 y218 l1).bind fun t263 => (some t263)) else (some false))) else (some false)))) else (some false)))) else (some false)))) else (some false)) = some true := by rw [if_pos rfl] at H; exact H
                                clear H
                                have H := H1
                                clear H1
                                by_cases c82 : t240 = t244
                                · rw [if_pos c82] at H
                                  have c82b0 : (t240 == t244) = true := beq_iff_eq.mpr c82
                                  have c82b1 : (t240 != t244) = false := bne_eq_false_iff_eq.mpr c82
                                  clear c82
                                  replace H := Option.bind_eq_some_iff.mp H
                                  obtain ⟨t256, A830, H⟩ := H
                                  replace H : ((haulierref09_Check.f kj41 l0 a2).bind fun t257 => (if t256 = t257 then ((load_Under.f kj41 y212 y218).bind fun t258 => ((haulierref09_Under.f kj41 l0 l1).bind fun t259 => (if (t258 == t259) = true then ((load_Same.f kj41 y212 y218).bind fun t260 => ((haulierref05_SameInts.f kj41 l0 l1).bind fun t261 => (if (t260 == t261) = true then ((haulierref05_SameInts.f kj41 y212 l0).bind fun t262 => (if t262 = true then ((haulierref05_SameInts.f kj41 y218 l1).bind fun t263 => (some t263)) else (some false))) else (some false)))) else (some false)))) else (some false))) = some true := H
                                  have A83 := Aside0.mk A830
                                  clear A830
                                  replace H := Option.bind_eq_some_iff.mp H
                                  obtain ⟨t257, A840, H⟩ := H
                                  replace H : (if t256 = t257 then ((load_Under.f kj41 y212 y218).bind fun t258 => ((haulierref09_Under.f kj41 l0 l1).bind fun t259 => (if (t258 == t259) = true then ((load_Same.f kj41 y212 y218).bind fun t260 => ((haulierref05_SameInts.f kj41 l0 l1).bind fun t261 => (if (t260 == t261) = true then ((haulierref05_SameInts.f kj41 y212 l0).bind fun t262 => (if t262 = true then ((haulierref05_SameInts.f kj41 y218 l1).bind fun t263 => (some t263)) else (some false))) else (some false)))) else (some false)))) else (some false)) = some true := H
                                  have A84 := Aside0.mk A840
                                  clear A840
                                  by_cases c85 : t256 = t257
                                  · rw [if_pos c85] at H
                                    have c85b0 : (t256 == t257) = true := beq_iff_eq.mpr c85
                                    have c85b1 : (t256 != t257) = false := bne_eq_false_iff_eq.mpr c85
                                    clear c85
                                    replace H := Option.bind_eq_some_iff.mp H
                                    obtain ⟨t258, A860, H⟩ := H
                                    replace H : ((haulierref09_Under.f kj41 l0 l1).bind fun t259 => (if (t258 == t259) = true then ((load_Same.f kj41 y212 y218).bind fun t260 => ((haulierref05_SameInts.f kj41 l0 l1).bind fun t261 => (if (t260 == t261) = true then ((haulierref05_SameInts.f kj41 y212 l0).bind fun t262 => (if t262 = true then ((haulierref05_SameInts.f kj41 y218 l1).bind fun t263 => (some t263)) else (some false))) else (some false)))) else (some false))) = some true := H
                                    have A86 := Aside0.mk A860
                                    clear A860
                                    replace H := Option.bind_eq_some_iff.mp H
                                    obtain ⟨t259, A870, H⟩ := H
                                    replace H : (if (t258 == t259) = true then ((load_Same.f kj41 y212 y218).bind fun t260 => ((haulierref05_SameInts.f kj41 l0 l1).bind fun t261 => (if (t260 == t261) = true then ((haulierref05_SameInts.f kj41 y212 l0).bind fun t262 => (if t262 = true then ((haulierref05_SameInts.f kj41 y218 l1).bind fun t263 => (some t263)) else (some false))) else (some false)))) else (some false)) = some true := H
                                    have A87 := Aside0.mk A870
                                    clear A870
                                    by_cases c88 : (t258 == t259) = true
                                    · rw [if_pos c88] at H
                                      have c88b0 : (t258 == t259) = true := c88
                                      (try (have c88b1 : decide (t258 = t259) = true := by simpa using c88))
                                      (try (have c88b2 : (t258 == t259) = true := by simpa using c88))
                                      clear c88
                                      replace H := Option.bind_eq_some_iff.mp H
                                      obtain ⟨t260, A890, H⟩ := H
                                      replace H : ((haulierref05_SameInts.f kj41 l0 l1).bind fun t261 => (if (t260 == t261) = true then ((haulierref05_SameInts.f kj41 y212 l0).bind fun t262 => (if t262 = true then ((haulierref05_SameInts.f kj41 y218 l1).bind fun t263 => (some t263)) else (some false))) else (some false))) = some true := H
                                      have A89 := Aside0.mk A890
                                      clear A890
                                      replace H := Option.bind_eq_some_iff.mp H
                                      obtain ⟨t261, A900, H⟩ := H
                                      replace H : (if (t260 == t261) = true then ((haulierref05_SameInts.f kj41 y212 l0).bind fun t262 => (if t262 = true then ((haulierref05_SameInts.f kj41 y218 l1).bind fun t263 => (some t263)) else (some false))) else (some false)) = some true := H
                                      have A90 := Aside0.mk A900
                                      clear A900
                                      by_cases c91 : (t260 == t261) = true
                                      · rw [if_pos c91] at H
                                        have c91b0 : (t260 == t261) = true := c91
                                        (try (have c91b1 : decide (t260 = t261) = true := by simpa using c91))
                                        (try (have c91b2 : (t260 == t261) = true := by simpa using c91))
                                        clear c91
                                        replace H := Option.bind_eq_some_iff.mp H
                                        obtain ⟨t262, A920, H⟩ := H
                                        replace H : (if t262 = true then ((haulierref05_SameInts.f kj41 y218 l1).bind fun t263 => (some t263)) else (some false)) = some true := H
                                        have A92 := Aside0.mk A920
                                        clear A920
                                        by_cases c93 : t262 = true
                                        · subst c93
                                          have H1 : ((haulierref05_SameInts.f kj41 y218 l1).bind fun t263 => (some t263)) = some true := by rw [if_pos rfl] at H; exact H
                                          clear H
                                          have H := H1
                                          clear H1
                                          replace H := Option.bind_eq_some_iff.mp H
                                          obtain ⟨t263, A940, H⟩ := H
                                          replace H : (some t263) = some true := H
                                          have A94 := Aside0.mk A940
                                          clear A940
                                          have H0 := Aside0.mk (Option.some.inj H)
                                          clear H
                                          obtain ⟨Ao95, co95, eo95⟩ := Kd.R_slice HO_13.out
                                          subst eo95
                                          obtain ⟨Ao96, co96, eo96⟩ := Kd.R_slice HO_15.out
                                          subst eo96
                                          go_wp2_with (first | ((with_reducible refine gate_callee (f := 13) rfl ?_); refine goesL_ (some 137) rfl rfl Try.func13 (by kernel_rfl) rfl #[.slice Ao95 t231.length co95, .slice Ao96 t235.length co96] rfl (by (try simp only [List.map_toArray, List.map_cons, List.map_nil]); first | done | rfl | (simp only [List.length_drop, List.length_take]; rfl)) ?_; (with_reducible refine (haulierref05_SameInts.calls kj41 _ _ t231 _ _ t235 true _ ?side1 ?side2 ?side3 ?side4 A77.out).mono ?_); (case side1 => repeat (first | exact (Kd.R_reads' HO_13.out).2.2 | (with_reducible refine Kd.C_alloc ?_ _) | (with_reducible refine Kd.C_drewN ?_ _) | (with_reducible refine Kd.C_drew ?_))); (case side2 => exact (Kd.R_reads' HO_13.out).2.1); (case side3 => repeat (first | exact (Kd.R_reads' HO_15.out).2.2 | (with_reducible refine Kd.C_alloc ?_ _) | (with_reducible refine Kd.C_drewN ?_ _) | (with_reducible refine Kd.C_drew ?_))); (case side4 => exact (Kd.R_reads' HO_15.out).2.1); rintro e w' ⟨rfl, ⟨nd, rfl⟩⟩; refine ⟨_, rfl, ?_⟩; obtain ⟨Ao97, co97, eo97⟩ := Kd.R_slice HO_17.out; (first | subst eo97 | (injection eo97 with ea_ en_ ec_; (first | subst ea_ | (injection ea_ with ea_; subst ea_)); subst ec_; clear en_)); obtain ⟨Ao98, co98, eo98⟩ := Kd.R_slice HO_19.out; (first | subst eo98 | (injection eo98 with ea_ en_ ec_; (first | subst ea_ | (injection ea_ with ea_; subst ea_)); subst ec_; clear en_))) | (go_at_call 13; (with_reducible refine (haulierref05_SameInts.calls kj41 _ _ t239 _ _ t243 true _ ?side1 ?side2 ?side3 ?side4 A80.out).mono ?_); (case side1 => repeat (first | exact (Kd.R_reads' HO_17.out).2.2 | (with_reducible refine Kd.C_alloc ?_ _) | (with_reducible refine Kd.C_drewN ?_ _) | (with_reducible refine Kd.C_drew ?_))); (case side2 => exact (Kd.R_reads' HO_17.out).2.1); (case side3 => repeat (first | exact (Kd.R_reads' HO_19.out).2.2 | (with_reducible refine Kd.C_alloc ?_ _) | (with_reducible refine Kd.C_drewN ?_ _) | (with_reducible refine Kd.C_drew ?_))); (case side4 => exact (Kd.R_reads' HO_19.out).2.1); rintro e w' ⟨rfl, ⟨nd, rfl⟩⟩) | (go_at_call 18; (with_reducible refine (load_Check.calls kj41 _ _ y212 a2 t256 _ ?side1 ?side2 A83.out).mono ?_); (case side1 => repeat (first | exact (Kd.R_reads' HO_7.out).2.2 | (with_reducible refine Kd.C_alloc ?_ _) | (with_reducible refine Kd.C_drewN ?_ _) | (with_reducible refine Kd.C_drew ?_))); (case side2 => exact (Kd.R_reads' HO_7.out).2.1); rintro e w' ⟨rfl, ⟨nd, rfl⟩⟩) | (go_at_call 19; (with_reducible refine (haulierref09_Check.calls kj41 _ _ l0 a2 t257 _ ?side1 ?side2 A84.out).mono ?_); (case side1 => repeat (first | exact (Kd.C_below HR0.out (by repeat (first | (with_reducible first | exact HB.out | apply below_alloc | apply pw_below_drewN | apply below_drew1) | exact HB.out))) | (with_reducible refine Kd.C_alloc ?_ _) | (with_reducible refine Kd.C_drewN ?_ _) | (with_reducible refine Kd.C_drew ?_))); (case side2 => exact HC0.out); rintro e w' ⟨rfl, ⟨nd, rfl⟩⟩) | (go_at_call 9; (with_reducible refine (load_Under.calls kj41 _ _ y212 _ _ y218 t258 _ ?side1 ?side2 ?side3 ?side4 A86.out).mono ?_); (case side1 => repeat (first | exact (Kd.R_reads' HO_7.out).2.2 | (with_reducible refine Kd.C_alloc ?_ _) | (with_reducible refine Kd.C_drewN ?_ _) | (with_reducible refine Kd.C_drew ?_))); (case side2 => exact (Kd.R_reads' HO_7.out).2.1); (case side3 => repeat (first | exact (Kd.R_reads' HO_8.out).2.2 | (with_reducible refine Kd.C_alloc ?_ _) | (with_reducible refine Kd.C_drewN ?_ _) | (with_reducible refine Kd.C_drew ?_))); (case side4 => exact (Kd.R_reads' HO_8.out).2.1); rintro e w' ⟨rfl, ⟨nd, rfl⟩⟩) | (go_at_call 20; (with_reducible refine (haulierref09_Under.calls kj41 _ _ l0 _ _ l1 t259 _ ?side1 ?side2 ?side3 ?side4 A87.out).mono ?_); (case side1 => repeat (first | exact (Kd.C_below HR0.out (by repeat (first | (with_reducible first | exact HB.out | apply below_alloc | apply pw_below_drewN | apply below_drew1) | exact HB.out))) | (with_reducible refine Kd.C_alloc ?_ _) | (with_reducible refine Kd.C_drewN ?_ _) | (with_reducible refine Kd.C_drew ?_))); (case side2 => exact HC0.out); (case side3 => repeat (first | exact (Kd.C_below HR1.out (by repeat (first | (with_reducible first | exact HB.out | apply below_alloc | apply pw_below_drewN | apply below_drew1) | exact HB.out))) | (with_reducible refine Kd.C_alloc ?_ _) | (with_reducible refine Kd.C_drewN ?_ _) | (with_reducible refine Kd.C_drew ?_))); (case side4 => exact HC1.out); rintro e w' ⟨rfl, ⟨nd, rfl⟩⟩) | (go_at_call 11; (with_reducible refine (load_Same.calls kj41 _ _ y212 _ _ y218 t260 _ ?side1 ?side2 ?side3 ?side4 A89.out).mono ?_); (case side1 => repeat (first | exact (Kd.R_reads' HO_7.out).2.2 | (with_reducible refine Kd.C_alloc ?_ _) | (with_reducible refine Kd.C_drewN ?_ _) | (with_reducible refine Kd.C_drew ?_))); (case side2 => exact (Kd.R_reads' HO_7.out).2.1); (case side3 => repeat (first | exact (Kd.R_reads' HO_8.out).2.2 | (with_reducible refine Kd.C_alloc ?_ _) | (with_reducible refine Kd.C_drewN ?_ _) | (with_reducible refine Kd.C_drew ?_))); (case side4 => exact (Kd.R_reads' HO_8.out).2.1); rintro e w' ⟨rfl, ⟨nd, rfl⟩⟩) | (go_at_call 13; (with_reducible refine (haulierref05_SameInts.calls kj41 _ _ l0 _ _ l1 t261 _ ?side1 ?side2 ?side3 ?side4 A90.out).mono ?_); (case side1 => repeat (first | exact (Kd.C_below HR0.out (by repeat (first | (with_reducible first | exact HB.out | apply below_alloc | apply pw_below_drewN | apply below_drew1) | exact HB.out))) | (with_reducible refine Kd.C_alloc ?_ _) | (with_reducible refine Kd.C_drewN ?_ _) | (with_reducible refine Kd.C_drew ?_))); (case side2 => exact HC0.out); (case side3 => repeat (first | exact (Kd.C_below HR1.out (by repeat (first | (with_reducible first | exact HB.out | apply below_alloc | apply pw_below_drewN | apply below_drew1) | exact HB.out))) | (with_reducible refine Kd.C_alloc ?_ _) | (with_reducible refine Kd.C_drewN ?_ _) | (with_reducible refine Kd.C_drew ?_))); (case side4 => exact HC1.out); rintro e w' ⟨rfl, ⟨nd, rfl⟩⟩) | (go_at_call 13; (with_reducible refine (haulierref05_SameInts.calls kj41 _ _ y212 _ _ l0 true _ ?side1 ?side2 ?side3 ?side4 A92.out).mono ?_); (case side1 => repeat (first | exact (Kd.R_reads' HO_7.out).2.2 | (with_reducible refine Kd.C_alloc ?_ _) | (with_reducible refine Kd.C_drewN ?_ _) | (with_reducible refine Kd.C_drew ?_))); (case side2 => exact (Kd.R_reads' HO_7.out).2.1); (case side3 => repeat (first | exact (Kd.C_below HR0.out (by repeat (first | (with_reducible first | exact HB.out | apply below_alloc | apply pw_below_drewN | apply below_drew1) | exact HB.out))) | (with_reducible refine Kd.C_alloc ?_ _) | (with_reducible refine Kd.C_drewN ?_ _) | (with_reducible refine Kd.C_drew ?_))); (case side4 => exact HC0.out); rintro e w' ⟨rfl, ⟨nd, rfl⟩⟩) | (go_at_call 13; (with_reducible refine (haulierref05_SameInts.calls kj41 _ _ y218 _ _ l1 t263 _ ?side1 ?side2 ?side3 ?side4 A94.out).mono ?_); (case side1 => repeat (first | exact (Kd.R_reads' HO_8.out).2.2 | (with_reducible refine Kd.C_alloc ?_ _) | (with_reducible refine Kd.C_drewN ?_ _) | (with_reducible refine Kd.C_drew ?_))); (case side2 => exact (Kd.R_reads' HO_8.out).2.1); (case side3 => repeat (first | exact (Kd.C_below HR1.out (by repeat (first | (with_reducible first | exact HB.out | apply below_alloc | apply pw_below_drewN | apply below_drew1) | exact HB.out))) | (with_reducible refine Kd.C_alloc ?_ _) | (with_reducible refine Kd.C_drewN ?_ _) | (with_reducible refine Kd.C_drew ?_))); (case side4 => exact HC1.out); rintro e w' ⟨rfl, ⟨nd, rfl⟩⟩))
                                          go_ret
                                          exact ⟨by first | (exact congrArg (fun b_ => Ending.returned (Value.bool b_)) H0.out) |  rfl | (simp [errW_none, errW_some] <;> rfl) | (simp [*, errW_none, errW_some] <;> rfl), by repeat (first | (with_reducible first | exact HB.out | apply below_alloc | apply pw_below_drewN | apply below_drew1) | exact HB.out)⟩
                                        · replace c93 := Bool.eq_false_iff.mpr c93
                                          subst c93
                                          have H1 : (some false) = some true := by rw [if_neg (show ¬ (false = true) by decide)] at H; exact H
                                          clear H
                                          have H := H1
                                          clear H1
                                          exact absurd H (by simp)
                                      · rw [if_neg c91] at H
                                        have c91b0 : (t260 == t261) = false := by simpa using c91
                                        (try (have c91b1 : decide (t260 = t261) = false := by simpa using c91))
                                        (try (have c91b2 : (t260 == t261) = false := by simpa using c91))
                                        (try (have c91b3 : ¬ (t260 = t261) := by simpa using c91))
                                        clear c91
                                        exact absurd H (by simp)
                                    · rw [if_neg c88] at H
                                      have c88b0 : (t258 == t259) = false := by simpa using c88
                                      (try (have c88b1 : decide (t258 = t259) = false := by simpa using c88))
                                      (try (have c88b2 : (t258 == t259) = false := by simpa using c88))
                                      (try (have c88b3 : ¬ (t258 = t259) := by simpa using c88))
                                      clear c88
                                      exact absurd H (by simp)
                                  · rw [if_neg c85] at H
                                    have c85b0 : (t256 == t257) = false := beq_eq_false_iff_ne.mpr c85
                                    have c85b1 : (t256 != t257) = true := bne_iff_ne.mpr c85
                                    exact absurd H (by simp)
                                · rw [if_neg c82] at H
                                  have c82b0 : (t240 == t244) = false := beq_eq_false_iff_ne.mpr c82
                                  have c82b1 : (t240 != t244) = true := bne_iff_ne.mpr c82
                                  exact absurd H (by simp)
                              · replace c81 := Bool.eq_false_iff.mpr c81
                                subst c81
                                have H1 : (some false) = some true := by rw [if_neg (show ¬ (false = true) by decide)] at H; exact H
                                clear H
                                have H := H1
                                clear H1
                                exact absurd H (by simp)
                            · rw [if_neg c79] at H
                              have c79b0 : (t232 == t236) = false := beq_eq_false_iff_ne.mpr c79
                              have c79b1 : (t232 != t236) = true := bne_iff_ne.mpr c79
                              exact absurd H (by simp)
                          · replace c78 := Bool.eq_false_iff.mpr c78
                            subst c78
                            have H1 : (some false) = some true := by rw [if_neg (show ¬ (false = true) by decide)] at H; exact H
                            clear H
                            have H := H1
                            clear H1
                            exact absurd H (by simp)
            · rw [if_neg c11] at H
              exact absurd H (by simp)
          · rw [if_neg c10] at H
            exact absurd H (by simp)
  · replace c5 := Bool.eq_false_iff.mpr c5
    subst c5
    have H1 : (some false) = some true := by rw [if_neg (show ¬ (false = true) by decide)] at H; exact H
    clear H
    have H := H1
    clear H1
    exact absurd H (by simp)

/-- THE ONE PURE STATEMENT of haulierlaw09_LoadReckons: yours. -/
def haulierlaw09_LoadReckons.Pure : Prop := ∀ (l0 : List Int) (l1 : List Int) (a2 : Int), l0.length ≤ maxLen → l0.length * 8 ≤ 140737488351232 → (∀ x ∈ l0, (Lit.int .i64 x).wf = true) → l1.length ≤ maxLen → l1.length * 8 ≤ 140737488351232 → (∀ x ∈ l1, (Lit.int .i64 x).wf = true) → (Lit.int .i64 a2).wf = true → ∃ k, haulierlaw09_LoadReckons.f k l0 l1 a2 = some true
theorem haulierlaw09_LoadReckons.walk (P : haulierlaw09_LoadReckons.Pure) (a0 : Option Addr) (len0 cap0 : Nat) (z0 : List Int) (a1 : Option Addr) (len1 cap1 : Nat) (z1 : List Int) (a2 : Int) (w : World) (w0 : (a0 = none ∧ len0 = 0 ∧ cap0 = 0 ∧ z0 = []) ∨ ∃ x, a0 = some x ∧ len0 ≤ cap0 ∧ cap0 ≤ maxLen ∧ z0.length = cap0 ∧ (∀ i, i < z0.length → w.cell? (x.add i) = some (.int .i64 (z0.getD i 0))) ∧ ∀ n ∈ z0, (Lit.int .i64 n).wf = true) (y0 : len0 * 8 ≤ 140737488351232) (w1 : (a1 = none ∧ len1 = 0 ∧ cap1 = 0 ∧ z1 = []) ∨ ∃ x, a1 = some x ∧ len1 ≤ cap1 ∧ cap1 ≤ maxLen ∧ z1.length = cap1 ∧ (∀ i, i < z1.length → w.cell? (x.add i) = some (.int .i64 (z1.getD i 0))) ∧ ∀ n ∈ z1, (Lit.int .i64 n).wf = true) (y1 : len1 * 8 ≤ 140737488351232) (w2 : (Lit.int .i64 a2).wf = true) :
    Calls Try.prog 5 #[.slice a0 len0 cap0, .slice a1 len1 cap1, .int .i64 a2] w fun e w' => e = .returned (.bool true) ∧ Below w.heap.size w w' := by
  obtain ⟨l0, rfl, hr0, hm0, hw0, hc0⟩ := ReadsInt.ofRowC w0
  obtain ⟨l1, rfl, hr1, hm1, hw1, hc1⟩ := ReadsInt.ofRowC w1
  obtain ⟨k, h⟩ := P l0 l1 a2 hm0 y0 hw0 hm1 y1 hw1 w2
  refine (haulierlaw09_LoadReckons.calls k _ _ l0 _ _ l1 a2 true w (Kd.C_of_reads (d := (0 : Int)) (h1 := fun _ => rfl) hr0) hc0 (Kd.C_of_reads (d := (0 : Int)) (h1 := fun _ => rfl) hr1) hc1 h).mono ?_
  rintro e w' ⟨rfl, hd⟩
  exact ⟨rfl, hd⟩

end Go.Proofs.Ytfmdgekjmeohiaa.MLoadReckons
