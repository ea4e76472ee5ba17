/- Contract: the document's Check of a problem.
Conditions: lists no longer than memory allows. -/
import Derived.Test.YtemjpgmfignhnaaM0
import Derived.Test.YtemjpgmfignhnaaM2
namespace Go.Proofs.Ytemjpgmfignhnaa
open Go.RowKit Go.Proofs.YtemjpgmfignhnaaW.PrintWords Go.Proofs.YtemjpgmfignhnaaW.PrintLast Go.Proofs.YtemjpgmfignhnaaW.PrintMore
set_option linter.unusedVariables false
set_option linter.unusedSimpArgs false
attribute [local go_sem] cell_growBy Option.some_or
set_option maxHeartbeats 4000000 in
set_option maxRecDepth 100000 in
theorem refCheck_any (q : PV) (p : TProblem) (w : World) (hl : Good p) (hq : q.Ok p w) :
  Calls Try.prog 28 #[q.val p] w fun e w' => e = .returned (.int .i64 (checkS p)) ∧ Below w.heap.size w w' := by
 have HL := Aside0.mk hl
 have HQ := Aside0.mk hq
 have b1 := hl.n3
 have b2 := hl.n4
 have b3 := hl.n5
 have b4 := hl.nsum
 generalize hs : checkS p = r
 unfold checkS at hs
 clear hl hq
 obtain ⟨a1, e1, a2, e2, a3, e3, a4, e4, a5, e5⟩ := q
 unfold PV.val
 cases t1 : upB p.Dims 3
 ·have T1 := Aside0.mk t1
  obtain rfl : (2 : Int) = r := by simpa [t1] using hs
  clear hs t1
  go_enter Try.func28, Try.ntmps28
  go_wp2_with (go_at_call 87; refine (up_any _ _ _).mono ?_; rw [T1.out]; rintro e w' ⟨rfl, rfl⟩)
  go_ret
  exact ⟨rfl, clb⟩
 have T1 := Aside0.mk t1
 by_cases n0 : 1 ≤ p.Time.N
 rotate_left
 ·obtain rfl : (2 : Int) = r := by simpa [t1, n0] using hs
  clear hs t1
  go_enter Try.func28, Try.ntmps28
  go_wp2_with (go_at_call 87; refine (up_any _ _ _).mono ?_; rw [T1.out]; rintro e w' ⟨rfl, rfl⟩)
  go_ret
  exact ⟨rfl, clb⟩
 by_cases n1 : p.Time.N ≤ 32
 rotate_left
 ·obtain rfl : (2 : Int) = r := by simpa [t1, n0, n1] using hs
  clear hs t1
  go_enter Try.func28, Try.ntmps28
  go_wp2_with (go_at_call 87; refine (up_any _ _ _).mono ?_; rw [T1.out]; rintro e w' ⟨rfl, rfl⟩)
  go_ret
  exact ⟨rfl, clb⟩
 cases t4 : matrixB p.Time p.Time.N
 ·have T4 := Aside0.mk t4
  obtain rfl : (2 : Int) = r := by simpa [t1, n0, n1, t4] using hs
  clear hs t1 t4
  go_enter Try.func28, Try.ntmps28
  go_wp2_with (go_at_call 87; refine (up_any _ _ _).mono ?_; rw [T1.out]; rintro e w' ⟨rfl, rfl⟩)
  (go_at_call 88; refine (refMatrix_any p.Time a1 e1 p.Time.N _ n0 n1 HL.out.n1 (Kd.C_below HQ.out.h1 clb)).mono ?_; rw [T4.out]; rintro e w1 ⟨rfl, hb⟩; have HB1 := Aside0.mk hb; obtain ⟨qc1, qf1⟩ := bcell hb; have hs1 := hb.size; (try simp at hs1); (try have z01 : w.heap.size < w1.heap.size := (by omega)); (try have z11 : w.heap.size + 1 < w1.heap.size := (by omega)); (try have z21 : w.heap.size + 1 + 1 < w1.heap.size := (by omega)); (try have z31 : w.heap.size + 1 + 1 + 1 < w1.heap.size := (by omega)); (try have z41 : w.heap.size + 1 + 1 + 1 + 1 < w1.heap.size := (by omega)); clear hs1 hb; skip)
  go_wp2
  go_ret
  exact ⟨rfl, clb⟩
 have T4 := Aside0.mk t4
 cases t5 : matrixB p.Dist p.Time.N
 ·have T5 := Aside0.mk t5
  obtain rfl : (2 : Int) = r := by simpa [t1, n0, n1, t4, t5] using hs
  clear hs t1 t4 t5
  go_enter Try.func28, Try.ntmps28
  go_wp2_with (go_at_call 87; refine (up_any _ _ _).mono ?_; rw [T1.out]; rintro e w' ⟨rfl, rfl⟩)
  (go_at_call 88; refine (refMatrix_any p.Time a1 e1 p.Time.N _ n0 n1 HL.out.n1 (Kd.C_below HQ.out.h1 clb)).mono ?_; rw [T4.out]; rintro e w1 ⟨rfl, hb⟩; have HB1 := Aside0.mk hb; obtain ⟨qc1, qf1⟩ := bcell hb; have hs1 := hb.size; (try simp at hs1); (try have z01 : w.heap.size < w1.heap.size := (by omega)); (try have z11 : w.heap.size + 1 < w1.heap.size := (by omega)); (try have z21 : w.heap.size + 1 + 1 < w1.heap.size := (by omega)); (try have z31 : w.heap.size + 1 + 1 + 1 < w1.heap.size := (by omega)); (try have z41 : w.heap.size + 1 + 1 + 1 + 1 < w1.heap.size := (by omega)); clear hs1 hb; skip)
  go_wp2_with fail
  (go_at_call 88; refine (refMatrix_any p.Dist a2 e2 p.Time.N _ n0 n1 HL.out.n2 (Kd.C_below HQ.out.h2 clb)).mono ?_; rw [T5.out]; rintro e w2 ⟨rfl, hb⟩; have HB2 := Aside0.mk hb; obtain ⟨qc2, qf2⟩ := bcell hb; have hs2 := hb.size; (try simp at hs2); (try have z02 : w.heap.size < w2.heap.size := (by omega)); (try have z12 : w.heap.size + 1 < w2.heap.size := (by omega)); (try have z22 : w.heap.size + 1 + 1 < w2.heap.size := (by omega)); (try have z32 : w.heap.size + 1 + 1 + 1 < w2.heap.size := (by omega)); (try have z42 : w.heap.size + 1 + 1 + 1 + 1 < w2.heap.size := (by omega)); clear hs2 hb; skip)
  go_wp2
  go_ret
  exact ⟨rfl, clb⟩
 have T5 := Aside0.mk t5
 rw [if_neg (by simp [t1, n0, n1, t4, t5])] at hs
 clear t1 t4 t5
 by_cases m1 : p.Vehicles.length ≤ 4
 rotate_left
 ·obtain rfl : (27 : Int) = r := by rw [if_pos (.inl (by omega))] at hs; exact hs
  clear hs
  go_enter Try.func28, Try.ntmps28
  go_wp2_with (go_at_call 87; refine (up_any _ _ _).mono ?_; rw [T1.out]; rintro e w' ⟨rfl, rfl⟩)
  (go_at_call 88; refine (refMatrix_any p.Time a1 e1 p.Time.N _ n0 n1 HL.out.n1 (Kd.C_below HQ.out.h1 clb)).mono ?_; rw [T4.out]; rintro e w1 ⟨rfl, hb⟩; have HB1 := Aside0.mk hb; obtain ⟨qc1, qf1⟩ := bcell hb; have hs1 := hb.size; (try simp at hs1); (try have z01 : w.heap.size < w1.heap.size := (by omega)); (try have z11 : w.heap.size + 1 < w1.heap.size := (by omega)); (try have z21 : w.heap.size + 1 + 1 < w1.heap.size := (by omega)); (try have z31 : w.heap.size + 1 + 1 + 1 < w1.heap.size := (by omega)); (try have z41 : w.heap.size + 1 + 1 + 1 + 1 < w1.heap.size := (by omega)); clear hs1 hb; skip)
  go_wp2_with fail
  (go_at_call 88; refine (refMatrix_any p.Dist a2 e2 p.Time.N _ n0 n1 HL.out.n2 (Kd.C_below HQ.out.h2 clb)).mono ?_; rw [T5.out]; rintro e w2 ⟨rfl, hb⟩; have HB2 := Aside0.mk hb; obtain ⟨qc2, qf2⟩ := bcell hb; have hs2 := hb.size; (try simp at hs2); (try have z02 : w.heap.size < w2.heap.size := (by omega)); (try have z12 : w.heap.size + 1 < w2.heap.size := (by omega)); (try have z22 : w.heap.size + 1 + 1 < w2.heap.size := (by omega)); (try have z32 : w.heap.size + 1 + 1 + 1 < w2.heap.size := (by omega)); (try have z42 : w.heap.size + 1 + 1 + 1 + 1 < w2.heap.size := (by omega)); clear hs2 hb; skip)
  go_wp2
  go_ret
  exact ⟨rfl, clb⟩
 by_cases m2 : p.Jobs.length + p.Shipments.length ≤ 12
 rotate_left
 ·obtain rfl : (27 : Int) = r := by rw [if_pos (.inr (by omega))] at hs; exact hs
  clear hs
  go_enter Try.func28, Try.ntmps28
  go_wp2_with (go_at_call 87; refine (up_any _ _ _).mono ?_; rw [T1.out]; rintro e w' ⟨rfl, rfl⟩)
  (go_at_call 88; refine (refMatrix_any p.Time a1 e1 p.Time.N _ n0 n1 HL.out.n1 (Kd.C_below HQ.out.h1 clb)).mono ?_; rw [T4.out]; rintro e w1 ⟨rfl, hb⟩; have HB1 := Aside0.mk hb; obtain ⟨qc1, qf1⟩ := bcell hb; have hs1 := hb.size; (try simp at hs1); (try have z01 : w.heap.size < w1.heap.size := (by omega)); (try have z11 : w.heap.size + 1 < w1.heap.size := (by omega)); (try have z21 : w.heap.size + 1 + 1 < w1.heap.size := (by omega)); (try have z31 : w.heap.size + 1 + 1 + 1 < w1.heap.size := (by omega)); (try have z41 : w.heap.size + 1 + 1 + 1 + 1 < w1.heap.size := (by omega)); clear hs1 hb; skip)
  go_wp2_with fail
  (go_at_call 88; refine (refMatrix_any p.Dist a2 e2 p.Time.N _ n0 n1 HL.out.n2 (Kd.C_below HQ.out.h2 clb)).mono ?_; rw [T5.out]; rintro e w2 ⟨rfl, hb⟩; have HB2 := Aside0.mk hb; obtain ⟨qc2, qf2⟩ := bcell hb; have hs2 := hb.size; (try simp at hs2); (try have z02 : w.heap.size < w2.heap.size := (by omega)); (try have z12 : w.heap.size + 1 < w2.heap.size := (by omega)); (try have z22 : w.heap.size + 1 + 1 < w2.heap.size := (by omega)); (try have z32 : w.heap.size + 1 + 1 + 1 < w2.heap.size := (by omega)); (try have z42 : w.heap.size + 1 + 1 + 1 + 1 < w2.heap.size := (by omega)); clear hs2 hb; skip)
  go_wp2
  go_ret
  exact ⟨rfl, clb⟩
 rw [if_neg (by omega)] at hs
 have HS : Aside0 (r = vehsS (p.Vehicles.drop 0) p.Dims p.Time.N (jobsS p.Jobs p.Dims p.Time.N (shipsS p.Shipments p.Dims p.Time.N 0))) := ⟨hs.symm⟩
 clear hs
 go_enter Try.func28, Try.ntmps28
 go_wp2_with (go_at_call 87; refine (up_any _ _ _).mono ?_; rw [T1.out]; rintro e w' ⟨rfl, rfl⟩)
 (go_at_call 88; refine (refMatrix_any p.Time a1 e1 p.Time.N _ n0 n1 HL.out.n1 (Kd.C_below HQ.out.h1 clb)).mono ?_; rw [T4.out]; rintro e w1 ⟨rfl, hb⟩; have HB1 := Aside0.mk hb; obtain ⟨qc1, qf1⟩ := bcell hb; have hs1 := hb.size; (try simp at hs1); (try have z01 : w.heap.size < w1.heap.size := (by omega)); (try have z11 : w.heap.size + 1 < w1.heap.size := (by omega)); (try have z21 : w.heap.size + 1 + 1 < w1.heap.size := (by omega)); (try have z31 : w.heap.size + 1 + 1 + 1 < w1.heap.size := (by omega)); (try have z41 : w.heap.size + 1 + 1 + 1 + 1 < w1.heap.size := (by omega)); clear hs1 hb; skip)
 go_wp2_with fail
 (go_at_call 88; refine (refMatrix_any p.Dist a2 e2 p.Time.N _ n0 n1 HL.out.n2 (Kd.C_below HQ.out.h2 clb)).mono ?_; rw [T5.out]; rintro e w2 ⟨rfl, hb⟩; have HB2 := Aside0.mk hb; obtain ⟨qc2, qf2⟩ := bcell hb; have hs2 := hb.size; (try simp at hs2); (try have z02 : w.heap.size < w2.heap.size := (by omega)); (try have z12 : w.heap.size + 1 < w2.heap.size := (by omega)); (try have z22 : w.heap.size + 1 + 1 < w2.heap.size := (by omega)); (try have z32 : w.heap.size + 1 + 1 + 1 < w2.heap.size := (by omega)); (try have z42 : w.heap.size + 1 + 1 + 1 + 1 < w2.heap.size := (by omega)); clear hs2 hb; skip)
 go_wp2
 go_loopw [4] (fun i wr => ∃ k : Nat, k ≤ p.Vehicles.length ∧ i = .int .i64 k ∧ Aside0 (r = vehsS (p.Vehicles.drop k) p.Dims p.Time.N (jobsS p.Jobs p.Dims p.Time.N (shipsS p.Shipments p.Dims p.Time.N 0))) ∧ Aside0 (Below w2.heap.size w2 wr)) (fun i _ => p.Vehicles.length - (intOf i).toNat)
 case atStart => exact ⟨0, Nat.zero_le _, rfl, HS, ⟨Below.refl _ _⟩⟩
 case round =>
  clear HS
  obtain ⟨k, hk, rfl, HS, HB3⟩ := hrel
  obtain ⟨qc3, qf3⟩ := bcell HB3.out
  have zr : w.heap.size < wr.heap.size := Nat.lt_of_lt_of_le z02 HB3.out.size
  by_cases hlt : k < p.Vehicles.length
  ·obtain ⟨ad, A2, c2, A10, c10, ea, y0, y1, y2, y3, y4, y5, y6, y7, y8, y9, y10, l2, g2, l10, g10⟩ := atNVehicle (Kd.C_below HQ.out.h3 (show Below w.heap.size w wr from clb)) k hlt
   subst ea
   have hw := HL.out.gv p.Vehicles[k] (List.getElem_mem hlt)
   have r0 : (0 : Int) ≤ (k : Int) := by omega
   have r1 : (k : Int) < (p.Vehicles.length : Int) := by omega
   have hs := HS.out
   rw [vehsS_at hlt] at hs
   clear HS
   cases t1 : vehicleB p.Vehicles[k] p.Dims p.Time.N
   ·have er : r = 2 := by rw [hs]; simp [t1]
    subst er
    clear hs
    go_wp2_with fail
    refine wp_region_grow (by kernel_rfl) (by kernel_rfl) ?_
    repeat (go_big_quiet_step ((go_at_call 89; exact grow_of (refVehicle_any p.Vehicles[k] _ _ _ _ p.Dims p.Time.N _ (Kd.C_below g2 (growBy_below _ _)) (Kd.C_below g10 (growBy_below _ _)) n0 n1 hw.1 hw.2.1 hw.2.2.1))))
    refine wpQuiet_nil ?_
    intro _ hw'
    obtain ⟨nx, hw''⟩ := hw'
    subst hw''
    have hb := growBy_below wr nx
    generalize growBy wr nx = w4 at *
    have HB4 := Aside0.mk hb; obtain ⟨qc4, qf4⟩ := bcell hb; have hs4 := hb.size; (try simp at hs4); (try have z04 : w.heap.size < w4.heap.size := (by omega)); (try have z14 : w.heap.size + 1 < w4.heap.size := (by omega)); (try have z24 : w.heap.size + 1 + 1 < w4.heap.size := (by omega)); (try have z34 : w.heap.size + 1 + 1 + 1 < w4.heap.size := (by omega)); (try have z44 : w.heap.size + 1 + 1 + 1 + 1 < w4.heap.size := (by omega)); clear hs4 hb
    go_wp2
    go_ret
    exact ⟨rfl, clb⟩
   ·have HN : Aside0 (r = vehsS (p.Vehicles.drop (k + 1)) p.Dims p.Time.N (jobsS p.Jobs p.Dims p.Time.N (shipsS p.Shipments p.Dims p.Time.N 0))) := ⟨by rw [hs, t1]; rfl⟩
    clear hs
    go_wp2_with fail
    refine wp_region_grow (by kernel_rfl) (by kernel_rfl) ?_
    repeat (go_big_quiet_step ((go_at_call 89; exact grow_of (refVehicle_any p.Vehicles[k] _ _ _ _ p.Dims p.Time.N _ (Kd.C_below g2 (growBy_below _ _)) (Kd.C_below g10 (growBy_below _ _)) n0 n1 hw.1 hw.2.1 hw.2.2.1))))
    refine wpQuiet_nil ?_
    intro _ hw'
    obtain ⟨nx, hw''⟩ := hw'
    subst hw''
    have hb := growBy_below wr nx
    generalize growBy wr nx = w4 at *
    have HB4 := Aside0.mk hb; obtain ⟨qc4, qf4⟩ := bcell hb; have hs4 := hb.size; (try simp at hs4); (try have z04 : w.heap.size < w4.heap.size := (by omega)); (try have z14 : w.heap.size + 1 < w4.heap.size := (by omega)); (try have z24 : w.heap.size + 1 + 1 < w4.heap.size := (by omega)); (try have z34 : w.heap.size + 1 + 1 + 1 < w4.heap.size := (by omega)); (try have z44 : w.heap.size + 1 + 1 + 1 + 1 < w4.heap.size := (by omega)); clear hs4 hb
    go_wp2
    go_roundw
    case rel => exact ⟨k + 1, by omega, by go_num, HN, ⟨below_to HB3.out HB4.out⟩⟩
    case measure => simp [intOf]; omega
  ·have hs := HS.out
   clear HS
   rw [vehsS_end (by omega)] at hs
   have HS : Aside0 (r = jobsS (p.Jobs.drop 0) p.Dims p.Time.N (shipsS p.Shipments p.Dims p.Time.N 0)) := ⟨hs⟩
   have HBa := HB3
   obtain ⟨wa, rfl⟩ : ∃ wa : World, wa = wr := ⟨_, rfl⟩
   clear hs HB3
   go_wp2
   clear qc3 qf3 zr hlt hk
   go_loopw [5] (fun i wr => ∃ k : Nat, k ≤ p.Jobs.length ∧ i = .int .i64 k ∧ Aside0 (r = jobsS (p.Jobs.drop k) p.Dims p.Time.N (shipsS p.Shipments p.Dims p.Time.N 0)) ∧ Aside0 (Below w2.heap.size w2 wr)) (fun i _ => p.Jobs.length - (intOf i).toNat)
   case atStart => exact ⟨0, Nat.zero_le _, rfl, HS, HBa⟩
   case round =>
    clear HS HBa
    obtain ⟨k, hk, rfl, HS, HB3⟩ := hrel
    obtain ⟨qc3, qf3⟩ := bcell HB3.out
    have zr : w.heap.size < wr.heap.size := Nat.lt_of_lt_of_le z02 HB3.out.size
    by_cases hlt : k < p.Jobs.length
    ·obtain ⟨ad, A2, c2, A3, c3, A4, c4, ea, y0, y1, y2, y3, y4, y5, y6, l2, g2, l3, g3, l4, g4⟩ := atNJob (Kd.C_below HQ.out.h4 (show Below w.heap.size w wr from clb)) k hlt
     subst ea
     have hw := HL.out.gj p.Jobs[k] (List.getElem_mem hlt)
     have r0 : (0 : Int) ≤ (k : Int) := by omega
     have r1 : (k : Int) < (p.Jobs.length : Int) := by omega
     have hs := HS.out
     rw [jobsS_at hlt] at hs
     clear HS
     cases t1 : stopB p.Jobs[k].Stop p.Time.N
     ·have er : r = 2 := by rw [hs]; simp [jobB, t1]
      have T1 := Aside0.mk t1
      subst er
      clear hs t1
      go_wp2_with fail
      (go_at_call 90; refine (refStopB_any p.Jobs[k].Stop _ _ p.Time.N _ (Kd.C_below g2 clb) hw.1 n0 n1).mono ?_; rw [T1.out]; rintro e w4 ⟨rfl, hb⟩; have HB4 := Aside0.mk hb; obtain ⟨qc4, qf4⟩ := bcell hb; have hs4 := hb.size; (try simp at hs4); (try have z04 : w.heap.size < w4.heap.size := (by omega)); (try have z14 : w.heap.size + 1 < w4.heap.size := (by omega)); (try have z24 : w.heap.size + 1 + 1 < w4.heap.size := (by omega)); (try have z34 : w.heap.size + 1 + 1 + 1 < w4.heap.size := (by omega)); (try have z44 : w.heap.size + 1 + 1 + 1 + 1 < w4.heap.size := (by omega)); clear hs4 hb; have zb4 : wr.heap.size < w4.heap.size := (by have := HB4.out.size; simp at this; omega))
      go_wp2
      go_ret
      exact ⟨rfl, clb⟩
     have T1 := Aside0.mk t1
     by_cases t2 : amountsS p.Jobs[k].Drop p.Dims = 0
     rotate_left
     ·have er : r = 2 := by rw [hs]; simp [jobB, t1, t2]
      have d2 : (amountsS p.Jobs[k].Drop p.Dims != 0) = true := by simp [t2]
      subst er
      clear hs t1 t2
      go_wp2_with fail
      (go_at_call 90; refine (refStopB_any p.Jobs[k].Stop _ _ p.Time.N _ (Kd.C_below g2 clb) hw.1 n0 n1).mono ?_; rw [T1.out]; rintro e w4 ⟨rfl, hb⟩; have HB4 := Aside0.mk hb; obtain ⟨qc4, qf4⟩ := bcell hb; have hs4 := hb.size; (try simp at hs4); (try have z04 : w.heap.size < w4.heap.size := (by omega)); (try have z14 : w.heap.size + 1 < w4.heap.size := (by omega)); (try have z24 : w.heap.size + 1 + 1 < w4.heap.size := (by omega)); (try have z34 : w.heap.size + 1 + 1 + 1 < w4.heap.size := (by omega)); (try have z44 : w.heap.size + 1 + 1 + 1 + 1 < w4.heap.size := (by omega)); clear hs4 hb; have zb4 : wr.heap.size < w4.heap.size := (by have := HB4.out.size; simp at this; omega))
      go_wp2_with fail
      (go_at_call 91; refine (ref09Check_any p.Jobs[k].Drop _ _ p.Dims _ (Kd.C_below g3 clb) hw.2.1).mono ?_; skip; rintro e w5 ⟨rfl, hb⟩; have HB5 := Aside0.mk hb; obtain ⟨qc5, qf5⟩ := bcell hb; have hs5 := hb.size; (try simp at hs5); (try have z05 : w.heap.size < w5.heap.size := (by omega)); (try have z15 : w.heap.size + 1 < w5.heap.size := (by omega)); (try have z25 : w.heap.size + 1 + 1 < w5.heap.size := (by omega)); (try have z35 : w.heap.size + 1 + 1 + 1 < w5.heap.size := (by omega)); (try have z45 : w.heap.size + 1 + 1 + 1 + 1 < w5.heap.size := (by omega)); clear hs5 hb; have zb5 : wr.heap.size < w5.heap.size := (Nat.lt_of_lt_of_le zb4 HB5.out.size))
      go_wp2
      go_ret
      exact ⟨rfl, clb⟩
     have d2 : (amountsS p.Jobs[k].Drop p.Dims != 0) = false := by simp [t2]
     by_cases t3 : amountsS p.Jobs[k].Pick p.Dims = 0
     rotate_left
     ·have er : r = 2 := by rw [hs]; simp [jobB, t1, t2, t3]
      have d3 : (amountsS p.Jobs[k].Pick p.Dims != 0) = true := by simp [t3]
      subst er
      clear hs t1 t2 t3
      go_wp2_with fail
      (go_at_call 90; refine (refStopB_any p.Jobs[k].Stop _ _ p.Time.N _ (Kd.C_below g2 clb) hw.1 n0 n1).mono ?_; rw [T1.out]; rintro e w4 ⟨rfl, hb⟩; have HB4 := Aside0.mk hb; obtain ⟨qc4, qf4⟩ := bcell hb; have hs4 := hb.size; (try simp at hs4); (try have z04 : w.heap.size < w4.heap.size := (by omega)); (try have z14 : w.heap.size + 1 < w4.heap.size := (by omega)); (try have z24 : w.heap.size + 1 + 1 < w4.heap.size := (by omega)); (try have z34 : w.heap.size + 1 + 1 + 1 < w4.heap.size := (by omega)); (try have z44 : w.heap.size + 1 + 1 + 1 + 1 < w4.heap.size := (by omega)); clear hs4 hb; have zb4 : wr.heap.size < w4.heap.size := (by have := HB4.out.size; simp at this; omega))
      go_wp2_with fail
      (go_at_call 91; refine (ref09Check_any p.Jobs[k].Drop _ _ p.Dims _ (Kd.C_below g3 clb) hw.2.1).mono ?_; skip; rintro e w5 ⟨rfl, hb⟩; have HB5 := Aside0.mk hb; obtain ⟨qc5, qf5⟩ := bcell hb; have hs5 := hb.size; (try simp at hs5); (try have z05 : w.heap.size < w5.heap.size := (by omega)); (try have z15 : w.heap.size + 1 < w5.heap.size := (by omega)); (try have z25 : w.heap.size + 1 + 1 < w5.heap.size := (by omega)); (try have z35 : w.heap.size + 1 + 1 + 1 < w5.heap.size := (by omega)); (try have z45 : w.heap.size + 1 + 1 + 1 + 1 < w5.heap.size := (by omega)); clear hs5 hb; have zb5 : wr.heap.size < w5.heap.size := (Nat.lt_of_lt_of_le zb4 HB5.out.size))
      go_wp2_with fail
      (go_at_call 91; refine (ref09Check_any p.Jobs[k].Pick _ _ p.Dims _ (Kd.C_below g4 clb) hw.2.2.1).mono ?_; skip; rintro e w6 ⟨rfl, hb⟩; have HB6 := Aside0.mk hb; obtain ⟨qc6, qf6⟩ := bcell hb; have hs6 := hb.size; (try simp at hs6); (try have z06 : w.heap.size < w6.heap.size := (by omega)); (try have z16 : w.heap.size + 1 < w6.heap.size := (by omega)); (try have z26 : w.heap.size + 1 + 1 < w6.heap.size := (by omega)); (try have z36 : w.heap.size + 1 + 1 + 1 < w6.heap.size := (by omega)); (try have z46 : w.heap.size + 1 + 1 + 1 + 1 < w6.heap.size := (by omega)); clear hs6 hb; have zb6 : wr.heap.size < w6.heap.size := (Nat.lt_of_lt_of_le zb5 HB6.out.size))
      go_wp2
      go_ret
      exact ⟨rfl, clb⟩
     have d3 : (amountsS p.Jobs[k].Pick p.Dims != 0) = false := by simp [t3]
     by_cases t4 : p.Jobs[k].Skills < 4611686018427387904
     rotate_left
     ·have er : r = 2 := by rw [hs]; simp [jobB, t1, t2, t3, t4]
      subst er
      clear hs t1 t2 t3
      go_wp2_with fail
      (go_at_call 90; refine (refStopB_any p.Jobs[k].Stop _ _ p.Time.N _ (Kd.C_below g2 clb) hw.1 n0 n1).mono ?_; rw [T1.out]; rintro e w4 ⟨rfl, hb⟩; have HB4 := Aside0.mk hb; obtain ⟨qc4, qf4⟩ := bcell hb; have hs4 := hb.size; (try simp at hs4); (try have z04 : w.heap.size < w4.heap.size := (by omega)); (try have z14 : w.heap.size + 1 < w4.heap.size := (by omega)); (try have z24 : w.heap.size + 1 + 1 < w4.heap.size := (by omega)); (try have z34 : w.heap.size + 1 + 1 + 1 < w4.heap.size := (by omega)); (try have z44 : w.heap.size + 1 + 1 + 1 + 1 < w4.heap.size := (by omega)); clear hs4 hb; have zb4 : wr.heap.size < w4.heap.size := (by have := HB4.out.size; simp at this; omega))
      go_wp2_with fail
      (go_at_call 91; refine (ref09Check_any p.Jobs[k].Drop _ _ p.Dims _ (Kd.C_below g3 clb) hw.2.1).mono ?_; skip; rintro e w5 ⟨rfl, hb⟩; have HB5 := Aside0.mk hb; obtain ⟨qc5, qf5⟩ := bcell hb; have hs5 := hb.size; (try simp at hs5); (try have z05 : w.heap.size < w5.heap.size := (by omega)); (try have z15 : w.heap.size + 1 < w5.heap.size := (by omega)); (try have z25 : w.heap.size + 1 + 1 < w5.heap.size := (by omega)); (try have z35 : w.heap.size + 1 + 1 + 1 < w5.heap.size := (by omega)); (try have z45 : w.heap.size + 1 + 1 + 1 + 1 < w5.heap.size := (by omega)); clear hs5 hb; have zb5 : wr.heap.size < w5.heap.size := (Nat.lt_of_lt_of_le zb4 HB5.out.size))
      go_wp2_with fail
      (go_at_call 91; refine (ref09Check_any p.Jobs[k].Pick _ _ p.Dims _ (Kd.C_below g4 clb) hw.2.2.1).mono ?_; skip; rintro e w6 ⟨rfl, hb⟩; have HB6 := Aside0.mk hb; obtain ⟨qc6, qf6⟩ := bcell hb; have hs6 := hb.size; (try simp at hs6); (try have z06 : w.heap.size < w6.heap.size := (by omega)); (try have z16 : w.heap.size + 1 < w6.heap.size := (by omega)); (try have z26 : w.heap.size + 1 + 1 < w6.heap.size := (by omega)); (try have z36 : w.heap.size + 1 + 1 + 1 < w6.heap.size := (by omega)); (try have z46 : w.heap.size + 1 + 1 + 1 + 1 < w6.heap.size := (by omega)); clear hs6 hb; have zb6 : wr.heap.size < w6.heap.size := (Nat.lt_of_lt_of_le zb5 HB6.out.size))
      go_wp2
      go_ret
      exact ⟨rfl, clb⟩
     cases t5 : upB p.Jobs[k].Priority 100
     ·have er : r = 2 := by rw [hs]; simp [jobB, t1, t2, t3, t4, t5]
      have T5 := Aside0.mk t5
      subst er
      clear hs t1 t2 t3 t5
      go_wp2_with fail
      (go_at_call 90; refine (refStopB_any p.Jobs[k].Stop _ _ p.Time.N _ (Kd.C_below g2 clb) hw.1 n0 n1).mono ?_; rw [T1.out]; rintro e w4 ⟨rfl, hb⟩; have HB4 := Aside0.mk hb; obtain ⟨qc4, qf4⟩ := bcell hb; have hs4 := hb.size; (try simp at hs4); (try have z04 : w.heap.size < w4.heap.size := (by omega)); (try have z14 : w.heap.size + 1 < w4.heap.size := (by omega)); (try have z24 : w.heap.size + 1 + 1 < w4.heap.size := (by omega)); (try have z34 : w.heap.size + 1 + 1 + 1 < w4.heap.size := (by omega)); (try have z44 : w.heap.size + 1 + 1 + 1 + 1 < w4.heap.size := (by omega)); clear hs4 hb; have zb4 : wr.heap.size < w4.heap.size := (by have := HB4.out.size; simp at this; omega))
      go_wp2_with fail
      (go_at_call 91; refine (ref09Check_any p.Jobs[k].Drop _ _ p.Dims _ (Kd.C_below g3 clb) hw.2.1).mono ?_; skip; rintro e w5 ⟨rfl, hb⟩; have HB5 := Aside0.mk hb; obtain ⟨qc5, qf5⟩ := bcell hb; have hs5 := hb.size; (try simp at hs5); (try have z05 : w.heap.size < w5.heap.size := (by omega)); (try have z15 : w.heap.size + 1 < w5.heap.size := (by omega)); (try have z25 : w.heap.size + 1 + 1 < w5.heap.size := (by omega)); (try have z35 : w.heap.size + 1 + 1 + 1 < w5.heap.size := (by omega)); (try have z45 : w.heap.size + 1 + 1 + 1 + 1 < w5.heap.size := (by omega)); clear hs5 hb; have zb5 : wr.heap.size < w5.heap.size := (Nat.lt_of_lt_of_le zb4 HB5.out.size))
      go_wp2_with fail
      (go_at_call 91; refine (ref09Check_any p.Jobs[k].Pick _ _ p.Dims _ (Kd.C_below g4 clb) hw.2.2.1).mono ?_; skip; rintro e w6 ⟨rfl, hb⟩; have HB6 := Aside0.mk hb; obtain ⟨qc6, qf6⟩ := bcell hb; have hs6 := hb.size; (try simp at hs6); (try have z06 : w.heap.size < w6.heap.size := (by omega)); (try have z16 : w.heap.size + 1 < w6.heap.size := (by omega)); (try have z26 : w.heap.size + 1 + 1 < w6.heap.size := (by omega)); (try have z36 : w.heap.size + 1 + 1 + 1 < w6.heap.size := (by omega)); (try have z46 : w.heap.size + 1 + 1 + 1 + 1 < w6.heap.size := (by omega)); clear hs6 hb; have zb6 : wr.heap.size < w6.heap.size := (Nat.lt_of_lt_of_le zb5 HB6.out.size))
      go_wp2_with (go_at_call 87; refine (up_any _ _ _).mono ?_; rw [T5.out]; rintro e w' ⟨rfl, rfl⟩)
      go_ret
      exact ⟨rfl, clb⟩
     ·have HN : Aside0 (r = jobsS (p.Jobs.drop (k + 1)) p.Dims p.Time.N (shipsS p.Shipments p.Dims p.Time.N 0)) := ⟨by rw [hs]; simp [jobB, t1, t2, t3, t4, t5]⟩
      have T5 := Aside0.mk t5
      clear hs t1 t2 t3 t5
      go_wp2_with fail
      (go_at_call 90; refine (refStopB_any p.Jobs[k].Stop _ _ p.Time.N _ (Kd.C_below g2 clb) hw.1 n0 n1).mono ?_; rw [T1.out]; rintro e w4 ⟨rfl, hb⟩; have HB4 := Aside0.mk hb; obtain ⟨qc4, qf4⟩ := bcell hb; have hs4 := hb.size; (try simp at hs4); (try have z04 : w.heap.size < w4.heap.size := (by omega)); (try have z14 : w.heap.size + 1 < w4.heap.size := (by omega)); (try have z24 : w.heap.size + 1 + 1 < w4.heap.size := (by omega)); (try have z34 : w.heap.size + 1 + 1 + 1 < w4.heap.size := (by omega)); (try have z44 : w.heap.size + 1 + 1 + 1 + 1 < w4.heap.size := (by omega)); clear hs4 hb; have zb4 : wr.heap.size < w4.heap.size := (by have := HB4.out.size; simp at this; omega))
      go_wp2_with fail
      (go_at_call 91; refine (ref09Check_any p.Jobs[k].Drop _ _ p.Dims _ (Kd.C_below g3 clb) hw.2.1).mono ?_; skip; rintro e w5 ⟨rfl, hb⟩; have HB5 := Aside0.mk hb; obtain ⟨qc5, qf5⟩ := bcell hb; have hs5 := hb.size; (try simp at hs5); (try have z05 : w.heap.size < w5.heap.size := (by omega)); (try have z15 : w.heap.size + 1 < w5.heap.size := (by omega)); (try have z25 : w.heap.size + 1 + 1 < w5.heap.size := (by omega)); (try have z35 : w.heap.size + 1 + 1 + 1 < w5.heap.size := (by omega)); (try have z45 : w.heap.size + 1 + 1 + 1 + 1 < w5.heap.size := (by omega)); clear hs5 hb; have zb5 : wr.heap.size < w5.heap.size := (Nat.lt_of_lt_of_le zb4 HB5.out.size))
      go_wp2_with fail
      (go_at_call 91; refine (ref09Check_any p.Jobs[k].Pick _ _ p.Dims _ (Kd.C_below g4 clb) hw.2.2.1).mono ?_; skip; rintro e w6 ⟨rfl, hb⟩; have HB6 := Aside0.mk hb; obtain ⟨qc6, qf6⟩ := bcell hb; have hs6 := hb.size; (try simp at hs6); (try have z06 : w.heap.size < w6.heap.size := (by omega)); (try have z16 : w.heap.size + 1 < w6.heap.size := (by omega)); (try have z26 : w.heap.size + 1 + 1 < w6.heap.size := (by omega)); (try have z36 : w.heap.size + 1 + 1 + 1 < w6.heap.size := (by omega)); (try have z46 : w.heap.size + 1 + 1 + 1 + 1 < w6.heap.size := (by omega)); clear hs6 hb; have zb6 : wr.heap.size < w6.heap.size := (Nat.lt_of_lt_of_le zb5 HB6.out.size))
      go_wp2_with (go_at_call 87; refine (up_any _ _ _).mono ?_; rw [T5.out]; rintro e w' ⟨rfl, rfl⟩)
      go_roundw
      case rel => exact ⟨k + 1, by omega, by go_num, HN, ⟨below_to (below_to (below_to (below_alloc HB3.out _) HB4.out) HB5.out) HB6.out⟩⟩
      case measure => simp [intOf]; omega
    ·have hs := HS.out
     clear HS
     rw [jobsS_end (by omega)] at hs
     have HS : Aside0 (r = shipsS (p.Shipments.drop 0) p.Dims p.Time.N 0) := ⟨hs⟩
     have HBa := HB3
     obtain ⟨wb, rfl⟩ : ∃ wb : World, wb = wr := ⟨_, rfl⟩
     clear hs HB3
     go_wp2
     clear qc3 qf3 zr hlt hk
     go_loopw [7] (fun i wr => ∃ k : Nat, k ≤ p.Shipments.length ∧ i = .int .i64 k ∧ Aside0 (r = shipsS (p.Shipments.drop k) p.Dims p.Time.N 0) ∧ Aside0 (Below w2.heap.size w2 wr)) (fun i _ => p.Shipments.length - (intOf i).toNat)
     case atStart => exact ⟨0, Nat.zero_le _, rfl, HS, HBa⟩
     case round =>
      clear HS HBa
      obtain ⟨k, hk, rfl, HS, HB3⟩ := hrel
      obtain ⟨qc3, qf3⟩ := bcell HB3.out
      have zr : w.heap.size < wr.heap.size := Nat.lt_of_lt_of_le z02 HB3.out.size
      by_cases hlt : k < p.Shipments.length
      ·obtain ⟨ad, A2, c2, A3, c3, A4, c4, ea, y0, y1, y2, y3, y4, y5, y6, y7, y8, l2, g2, l3, g3, l4, g4⟩ := atNShipment (Kd.C_below HQ.out.h5 (show Below w.heap.size w wr from clb)) k hlt
       subst ea
       have hw := HL.out.gs p.Shipments[k] (List.getElem_mem hlt)
       have r0 : (0 : Int) ≤ (k : Int) := by omega
       have r1 : (k : Int) < (p.Shipments.length : Int) := by omega
       have hs := HS.out
       rw [shipsS_at hlt] at hs
       clear HS
       cases t1 : stopB p.Shipments[k].Pickup p.Time.N
       ·have er : r = 2 := by rw [hs]; simp [shipB, t1]
        have T1 := Aside0.mk t1
        subst er
        clear hs t1
        go_wp2_with fail
        (go_at_call 90; refine (refStopB_any p.Shipments[k].Pickup _ _ p.Time.N _ (Kd.C_below g2 clb) hw.1 n0 n1).mono ?_; rw [T1.out]; rintro e w4 ⟨rfl, hb⟩; have HB4 := Aside0.mk hb; obtain ⟨qc4, qf4⟩ := bcell hb; have hs4 := hb.size; (try simp at hs4); (try have z04 : w.heap.size < w4.heap.size := (by omega)); (try have z14 : w.heap.size + 1 < w4.heap.size := (by omega)); (try have z24 : w.heap.size + 1 + 1 < w4.heap.size := (by omega)); (try have z34 : w.heap.size + 1 + 1 + 1 < w4.heap.size := (by omega)); (try have z44 : w.heap.size + 1 + 1 + 1 + 1 < w4.heap.size := (by omega)); clear hs4 hb; have zb4 : wr.heap.size < w4.heap.size := (by have := HB4.out.size; simp at this; omega))
        go_wp2
        go_ret
        exact ⟨rfl, clb⟩
       have T1 := Aside0.mk t1
       cases t2 : stopB p.Shipments[k].Delivery p.Time.N
       ·have er : r = 2 := by rw [hs]; simp [shipB, t1, t2]
        have T2 := Aside0.mk t2
        subst er
        clear hs t1 t2
        go_wp2_with fail
        (go_at_call 90; refine (refStopB_any p.Shipments[k].Pickup _ _ p.Time.N _ (Kd.C_below g2 clb) hw.1 n0 n1).mono ?_; rw [T1.out]; rintro e w4 ⟨rfl, hb⟩; have HB4 := Aside0.mk hb; obtain ⟨qc4, qf4⟩ := bcell hb; have hs4 := hb.size; (try simp at hs4); (try have z04 : w.heap.size < w4.heap.size := (by omega)); (try have z14 : w.heap.size + 1 < w4.heap.size := (by omega)); (try have z24 : w.heap.size + 1 + 1 < w4.heap.size := (by omega)); (try have z34 : w.heap.size + 1 + 1 + 1 < w4.heap.size := (by omega)); (try have z44 : w.heap.size + 1 + 1 + 1 + 1 < w4.heap.size := (by omega)); clear hs4 hb; have zb4 : wr.heap.size < w4.heap.size := (by have := HB4.out.size; simp at this; omega))
        go_wp2_with fail
        (go_at_call 90; refine (refStopB_any p.Shipments[k].Delivery _ _ p.Time.N _ (Kd.C_below g3 clb) hw.2.1 n0 n1).mono ?_; rw [T2.out]; rintro e w5 ⟨rfl, hb⟩; have HB5 := Aside0.mk hb; obtain ⟨qc5, qf5⟩ := bcell hb; have hs5 := hb.size; (try simp at hs5); (try have z05 : w.heap.size < w5.heap.size := (by omega)); (try have z15 : w.heap.size + 1 < w5.heap.size := (by omega)); (try have z25 : w.heap.size + 1 + 1 < w5.heap.size := (by omega)); (try have z35 : w.heap.size + 1 + 1 + 1 < w5.heap.size := (by omega)); (try have z45 : w.heap.size + 1 + 1 + 1 + 1 < w5.heap.size := (by omega)); clear hs5 hb; have zb5 : wr.heap.size < w5.heap.size := (Nat.lt_of_lt_of_le zb4 HB5.out.size))
        go_wp2
        go_ret
        exact ⟨rfl, clb⟩
       have T2 := Aside0.mk t2
       by_cases t3 : amountsS p.Shipments[k].Amount p.Dims = 0
       rotate_left
       ·have er : r = 2 := by rw [hs]; simp [shipB, t1, t2, t3]
        have d3 : (amountsS p.Shipments[k].Amount p.Dims != 0) = true := by simp [t3]
        subst er
        clear hs t1 t2 t3
        go_wp2_with fail
        (go_at_call 90; refine (refStopB_any p.Shipments[k].Pickup _ _ p.Time.N _ (Kd.C_below g2 clb) hw.1 n0 n1).mono ?_; rw [T1.out]; rintro e w4 ⟨rfl, hb⟩; have HB4 := Aside0.mk hb; obtain ⟨qc4, qf4⟩ := bcell hb; have hs4 := hb.size; (try simp at hs4); (try have z04 : w.heap.size < w4.heap.size := (by omega)); (try have z14 : w.heap.size + 1 < w4.heap.size := (by omega)); (try have z24 : w.heap.size + 1 + 1 < w4.heap.size := (by omega)); (try have z34 : w.heap.size + 1 + 1 + 1 < w4.heap.size := (by omega)); (try have z44 : w.heap.size + 1 + 1 + 1 + 1 < w4.heap.size := (by omega)); clear hs4 hb; have zb4 : wr.heap.size < w4.heap.size := (by have := HB4.out.size; simp at this; omega))
        go_wp2_with fail
        (go_at_call 90; refine (refStopB_any p.Shipments[k].Delivery _ _ p.Time.N _ (Kd.C_below g3 clb) hw.2.1 n0 n1).mono ?_; rw [T2.out]; rintro e w5 ⟨rfl, hb⟩; have HB5 := Aside0.mk hb; obtain ⟨qc5, qf5⟩ := bcell hb; have hs5 := hb.size; (try simp at hs5); (try have z05 : w.heap.size < w5.heap.size := (by omega)); (try have z15 : w.heap.size + 1 < w5.heap.size := (by omega)); (try have z25 : w.heap.size + 1 + 1 < w5.heap.size := (by omega)); (try have z35 : w.heap.size + 1 + 1 + 1 < w5.heap.size := (by omega)); (try have z45 : w.heap.size + 1 + 1 + 1 + 1 < w5.heap.size := (by omega)); clear hs5 hb; have zb5 : wr.heap.size < w5.heap.size := (Nat.lt_of_lt_of_le zb4 HB5.out.size))
        go_wp2_with fail
        (go_at_call 91; refine (ref09Check_any p.Shipments[k].Amount _ _ p.Dims _ (Kd.C_below g4 clb) hw.2.2.1).mono ?_; skip; rintro e w6 ⟨rfl, hb⟩; have HB6 := Aside0.mk hb; obtain ⟨qc6, qf6⟩ := bcell hb; have hs6 := hb.size; (try simp at hs6); (try have z06 : w.heap.size < w6.heap.size := (by omega)); (try have z16 : w.heap.size + 1 < w6.heap.size := (by omega)); (try have z26 : w.heap.size + 1 + 1 < w6.heap.size := (by omega)); (try have z36 : w.heap.size + 1 + 1 + 1 < w6.heap.size := (by omega)); (try have z46 : w.heap.size + 1 + 1 + 1 + 1 < w6.heap.size := (by omega)); clear hs6 hb; have zb6 : wr.heap.size < w6.heap.size := (Nat.lt_of_lt_of_le zb5 HB6.out.size))
        go_wp2
        go_ret
        exact ⟨rfl, clb⟩
       have d3 : (amountsS p.Shipments[k].Amount p.Dims != 0) = false := by simp [t3]
       by_cases t4 : p.Shipments[k].Skills < 4611686018427387904
       rotate_left
       ·have er : r = 2 := by rw [hs]; simp [shipB, t1, t2, t3, t4]
        subst er
        clear hs t1 t2 t3
        go_wp2_with fail
        (go_at_call 90; refine (refStopB_any p.Shipments[k].Pickup _ _ p.Time.N _ (Kd.C_below g2 clb) hw.1 n0 n1).mono ?_; rw [T1.out]; rintro e w4 ⟨rfl, hb⟩; have HB4 := Aside0.mk hb; obtain ⟨qc4, qf4⟩ := bcell hb; have hs4 := hb.size; (try simp at hs4); (try have z04 : w.heap.size < w4.heap.size := (by omega)); (try have z14 : w.heap.size + 1 < w4.heap.size := (by omega)); (try have z24 : w.heap.size + 1 + 1 < w4.heap.size := (by omega)); (try have z34 : w.heap.size + 1 + 1 + 1 < w4.heap.size := (by omega)); (try have z44 : w.heap.size + 1 + 1 + 1 + 1 < w4.heap.size := (by omega)); clear hs4 hb; have zb4 : wr.heap.size < w4.heap.size := (by have := HB4.out.size; simp at this; omega))
        go_wp2_with fail
        (go_at_call 90; refine (refStopB_any p.Shipments[k].Delivery _ _ p.Time.N _ (Kd.C_below g3 clb) hw.2.1 n0 n1).mono ?_; rw [T2.out]; rintro e w5 ⟨rfl, hb⟩; have HB5 := Aside0.mk hb; obtain ⟨qc5, qf5⟩ := bcell hb; have hs5 := hb.size; (try simp at hs5); (try have z05 : w.heap.size < w5.heap.size := (by omega)); (try have z15 : w.heap.size + 1 < w5.heap.size := (by omega)); (try have z25 : w.heap.size + 1 + 1 < w5.heap.size := (by omega)); (try have z35 : w.heap.size + 1 + 1 + 1 < w5.heap.size := (by omega)); (try have z45 : w.heap.size + 1 + 1 + 1 + 1 < w5.heap.size := (by omega)); clear hs5 hb; have zb5 : wr.heap.size < w5.heap.size := (Nat.lt_of_lt_of_le zb4 HB5.out.size))
        go_wp2_with fail
        (go_at_call 91; refine (ref09Check_any p.Shipments[k].Amount _ _ p.Dims _ (Kd.C_below g4 clb) hw.2.2.1).mono ?_; skip; rintro e w6 ⟨rfl, hb⟩; have HB6 := Aside0.mk hb; obtain ⟨qc6, qf6⟩ := bcell hb; have hs6 := hb.size; (try simp at hs6); (try have z06 : w.heap.size < w6.heap.size := (by omega)); (try have z16 : w.heap.size + 1 < w6.heap.size := (by omega)); (try have z26 : w.heap.size + 1 + 1 < w6.heap.size := (by omega)); (try have z36 : w.heap.size + 1 + 1 + 1 < w6.heap.size := (by omega)); (try have z46 : w.heap.size + 1 + 1 + 1 + 1 < w6.heap.size := (by omega)); clear hs6 hb; have zb6 : wr.heap.size < w6.heap.size := (Nat.lt_of_lt_of_le zb5 HB6.out.size))
        go_wp2
        go_ret
        exact ⟨rfl, clb⟩
       cases t5 : upB p.Shipments[k].Priority 100
       ·have er : r = 2 := by rw [hs]; simp [shipB, t1, t2, t3, t4, t5]
        have T5 := Aside0.mk t5
        subst er
        clear hs t1 t2 t3 t5
        go_wp2_with fail
        (go_at_call 90; refine (refStopB_any p.Shipments[k].Pickup _ _ p.Time.N _ (Kd.C_below g2 clb) hw.1 n0 n1).mono ?_; rw [T1.out]; rintro e w4 ⟨rfl, hb⟩; have HB4 := Aside0.mk hb; obtain ⟨qc4, qf4⟩ := bcell hb; have hs4 := hb.size; (try simp at hs4); (try have z04 : w.heap.size < w4.heap.size := (by omega)); (try have z14 : w.heap.size + 1 < w4.heap.size := (by omega)); (try have z24 : w.heap.size + 1 + 1 < w4.heap.size := (by omega)); (try have z34 : w.heap.size + 1 + 1 + 1 < w4.heap.size := (by omega)); (try have z44 : w.heap.size + 1 + 1 + 1 + 1 < w4.heap.size := (by omega)); clear hs4 hb; have zb4 : wr.heap.size < w4.heap.size := (by have := HB4.out.size; simp at this; omega))
        go_wp2_with fail
        (go_at_call 90; refine (refStopB_any p.Shipments[k].Delivery _ _ p.Time.N _ (Kd.C_below g3 clb) hw.2.1 n0 n1).mono ?_; rw [T2.out]; rintro e w5 ⟨rfl, hb⟩; have HB5 := Aside0.mk hb; obtain ⟨qc5, qf5⟩ := bcell hb; have hs5 := hb.size; (try simp at hs5); (try have z05 : w.heap.size < w5.heap.size := (by omega)); (try have z15 : w.heap.size + 1 < w5.heap.size := (by omega)); (try have z25 : w.heap.size + 1 + 1 < w5.heap.size := (by omega)); (try have z35 : w.heap.size + 1 + 1 + 1 < w5.heap.size := (by omega)); (try have z45 : w.heap.size + 1 + 1 + 1 + 1 < w5.heap.size := (by omega)); clear hs5 hb; have zb5 : wr.heap.size < w5.heap.size := (Nat.lt_of_lt_of_le zb4 HB5.out.size))
        go_wp2_with fail
        (go_at_call 91; refine (ref09Check_any p.Shipments[k].Amount _ _ p.Dims _ (Kd.C_below g4 clb) hw.2.2.1).mono ?_; skip; rintro e w6 ⟨rfl, hb⟩; have HB6 := Aside0.mk hb; obtain ⟨qc6, qf6⟩ := bcell hb; have hs6 := hb.size; (try simp at hs6); (try have z06 : w.heap.size < w6.heap.size := (by omega)); (try have z16 : w.heap.size + 1 < w6.heap.size := (by omega)); (try have z26 : w.heap.size + 1 + 1 < w6.heap.size := (by omega)); (try have z36 : w.heap.size + 1 + 1 + 1 < w6.heap.size := (by omega)); (try have z46 : w.heap.size + 1 + 1 + 1 + 1 < w6.heap.size := (by omega)); clear hs6 hb; have zb6 : wr.heap.size < w6.heap.size := (Nat.lt_of_lt_of_le zb5 HB6.out.size))
        go_wp2_with (go_at_call 87; refine (up_any _ _ _).mono ?_; rw [T5.out]; rintro e w' ⟨rfl, rfl⟩)
        go_ret
        exact ⟨rfl, clb⟩
       ·have HN : Aside0 (r = shipsS (p.Shipments.drop (k + 1)) p.Dims p.Time.N 0) := ⟨by rw [hs]; simp [shipB, t1, t2, t3, t4, t5]⟩
        have T5 := Aside0.mk t5
        clear hs t1 t2 t3 t5
        go_wp2_with fail
        (go_at_call 90; refine (refStopB_any p.Shipments[k].Pickup _ _ p.Time.N _ (Kd.C_below g2 clb) hw.1 n0 n1).mono ?_; rw [T1.out]; rintro e w4 ⟨rfl, hb⟩; have HB4 := Aside0.mk hb; obtain ⟨qc4, qf4⟩ := bcell hb; have hs4 := hb.size; (try simp at hs4); (try have z04 : w.heap.size < w4.heap.size := (by omega)); (try have z14 : w.heap.size + 1 < w4.heap.size := (by omega)); (try have z24 : w.heap.size + 1 + 1 < w4.heap.size := (by omega)); (try have z34 : w.heap.size + 1 + 1 + 1 < w4.heap.size := (by omega)); (try have z44 : w.heap.size + 1 + 1 + 1 + 1 < w4.heap.size := (by omega)); clear hs4 hb; have zb4 : wr.heap.size < w4.heap.size := (by have := HB4.out.size; simp at this; omega))
        go_wp2_with fail
        (go_at_call 90; refine (refStopB_any p.Shipments[k].Delivery _ _ p.Time.N _ (Kd.C_below g3 clb) hw.2.1 n0 n1).mono ?_; rw [T2.out]; rintro e w5 ⟨rfl, hb⟩; have HB5 := Aside0.mk hb; obtain ⟨qc5, qf5⟩ := bcell hb; have hs5 := hb.size; (try simp at hs5); (try have z05 : w.heap.size < w5.heap.size := (by omega)); (try have z15 : w.heap.size + 1 < w5.heap.size := (by omega)); (try have z25 : w.heap.size + 1 + 1 < w5.heap.size := (by omega)); (try have z35 : w.heap.size + 1 + 1 + 1 < w5.heap.size := (by omega)); (try have z45 : w.heap.size + 1 + 1 + 1 + 1 < w5.heap.size := (by omega)); clear hs5 hb; have zb5 : wr.heap.size < w5.heap.size := (Nat.lt_of_lt_of_le zb4 HB5.out.size))
        go_wp2_with fail
        (go_at_call 91; refine (ref09Check_any p.Shipments[k].Amount _ _ p.Dims _ (Kd.C_below g4 clb) hw.2.2.1).mono ?_; skip; rintro e w6 ⟨rfl, hb⟩; have HB6 := Aside0.mk hb; obtain ⟨qc6, qf6⟩ := bcell hb; have hs6 := hb.size; (try simp at hs6); (try have z06 : w.heap.size < w6.heap.size := (by omega)); (try have z16 : w.heap.size + 1 < w6.heap.size := (by omega)); (try have z26 : w.heap.size + 1 + 1 < w6.heap.size := (by omega)); (try have z36 : w.heap.size + 1 + 1 + 1 < w6.heap.size := (by omega)); (try have z46 : w.heap.size + 1 + 1 + 1 + 1 < w6.heap.size := (by omega)); clear hs6 hb; have zb6 : wr.heap.size < w6.heap.size := (Nat.lt_of_lt_of_le zb5 HB6.out.size))
        go_wp2_with (go_at_call 87; refine (up_any _ _ _).mono ?_; rw [T5.out]; rintro e w' ⟨rfl, rfl⟩)
        go_roundw
        case rel => exact ⟨k + 1, by omega, by go_num, HN, ⟨below_to (below_to (below_to (below_alloc HB3.out _) HB4.out) HB5.out) HB6.out⟩⟩
        case measure => simp [intOf]; omega
      ·have hs := HS.out
       rw [shipsS_end (by omega)] at hs
       subst hs
       clear HS
       go_wp2
       go_ret
       exact ⟨rfl, clb⟩
end Go.Proofs.Ytemjpgmfignhnaa
