/- Contract: what is aboard at the start and behind each visit. The document's sum.
Conditions: a lawful problem, at most 200 visits. -/
import Derived.Test.YtemjpgmfignhnaaP13a
import Derived.RegionTactic
import Derived.BigRegion
import Derived.ChangeAlike
import Derived.Deep.CutRange
import Derived.Test.YtemjpgmfignhnaaHeld2
namespace Go.Proofs.Ytemjpgmfignhnaa
open Go.RowKit Go.Proofs.YtemjpgmfignhnaaW.PrintWords Go.Proofs.YtemjpgmfignhnaaW.PrintLast Go.Proofs.YtemjpgmfignhnaaW.PrintMore
set_option linter.unusedVariables false
set_option linter.unusedSimpArgs false
attribute [local go_sem] cell_growBy Option.some_or
abbrev kInts : Kd (List Int) := Kd.slice 3 (Kd.int .i64)
def OwnPost (ls : List (List Int)) (w : World) (e : Ending) (w' : World) : Prop :=
  ∃ A c, e = .returned (.slice A ls.length c) ∧ ls.length ≤ c ∧ kInts.R 22 w' w.heap.size (fun _ => True) (.slice A ls.length c) ls ∧ Below w.heap.size w w'
set_option maxHeartbeats 8000000 in
set_option maxRecDepth 100000 in
theorem refLoads_own (q : PV) (p : TProblem) (l : List TVisit) (A : Option Addr) (c : Nat) (w : World) (hlp : Lens p) (law : Law p) (hq : q.Ok p w) (hr : Kd.C kVisit w A l.length l) (hl : l.length ≤ 200) :
    Calls Try.prog 56 #[q.val p, .slice A l.length c] w (OwnPost (loadsS p l) w) := by
  have HR := Aside0.mk hr
  have HQ := Aside0.mk hq
  have HST := Aside0.mk (fun (v : TVisit) W (hb : Below w.heap.size w W) => refStop_any q p v W hlp (hq.below hb))
  have LAW := Aside0.mk law
  have hd0 := law.d0
  have hd1 := law.d1
  have hj := law.nt
  clear hr hq law
  obtain ⟨a1, c1, a2, c2, a3, c3, a4, c4, a5, c5⟩ := q
  unfold PV.val at HST ⊢
  go_enter Try.func56, Try.ntmps56
  go_wp2
  go_loopw [5, 6] (fun v i wr => ∃ k : Nat, k ≤ l.length + 1 ∧ i = .int .i64 k ∧ Aside0 (kInts.R 22 wr (w.heap.size + 1) (fun _ => True) v ((List.range k).map (nowS p l))) ∧ Aside0 (Below (w.heap.size + 1) (w.alloc (.cells #[.int .i64 p.Dims, .int .i64 p.Time.N, .slice a1 p.Time.Cells.length c1, .int .i64 p.Dist.N, .slice a2 p.Dist.Cells.length c2, .slice a3 p.Vehicles.length c3, .slice a4 p.Jobs.length c4, .slice a5 p.Shipments.length c5] 29)) wr)) (fun _ i _ => l.length + 1 - (intOf i).toNat)
  case atStart => exact ⟨0, Nat.zero_le _, rfl, ⟨Kd.R_nil _ _ _ _ _⟩, ⟨Below.refl _ _⟩⟩
  case round =>
    obtain ⟨k, hk, rfl, HO, HW⟩ := hrel
    have HW' : Aside0 (Below (w.alloc (.cells #[.int .i64 p.Dims, .int .i64 p.Time.N, .slice a1 p.Time.Cells.length c1, .int .i64 p.Dist.N, .slice a2 p.Dist.Cells.length c2, .slice a3 p.Vehicles.length c3, .slice a4 p.Jobs.length c4, .slice a5 p.Shipments.length c5] 29)).heap.size (w.alloc (.cells #[.int .i64 p.Dims, .int .i64 p.Time.N, .slice a1 p.Time.Cells.length c1, .int .i64 p.Dist.N, .slice a2 p.Dist.Cells.length c2, .slice a3 p.Vehicles.length c3, .slice a4 p.Jobs.length c4, .slice a5 p.Shipments.length c5] 29)) wr) := ⟨by simpa using HW.out⟩
    have HB0 : Aside0 (Below w.heap.size w wr) := ⟨below_to (below_alloc (Below.refl _ _) _) HW'.out⟩
    obtain ⟨qc, qf⟩ := bcell HW'.out
    have zr : w.heap.size < wr.heap.size := by
      have := HW'.out.size
      simp at this
      omega
    by_cases hlt : k < l.length + 1
    · obtain ⟨wk, rfl⟩ : ∃ wk : World, wk = wr := ⟨_, rfl⟩
      go_wp2_with ((with_reducible refine gate_dst (N := 21) rfl ?_); refine Kd.R_make (Kd.int .i64) (w0 := wk) wk.heap.size 3 rfl (N := 21) rfl 22 (.tmp 20) (.tmp 20) rfl p.Dims rfl rfl Try.underlying22 (.int .i64 0) 8 (by kernel_rfl) rfl (by decide) (by decide) 0 (ok := fun _ => True) (okp := fun _ => False) rfl (fun _ h => h.elim) trivial hd0 (by omega) (Below.refl _ _) (Nat.le_refl _) ?_; intro v1 w1 ho hb hg hat; have HU0 := Aside0.mk ho; have HBU := Aside0.mk hb; have HAT := Aside0.mk hat; clear ho hb hg hat)
      obtain ⟨gN, cN, rfl⟩ : ∃ gN cN, v1 = .slice (some ⟨gN, 0, none⟩) p.Dims.toNat cN := by
        obtain ⟨_, inner, hown, _⟩ := HU0.out
        obtain ⟨b, hb, _⟩ := HAT.out
        rcases hown.2 with ⟨h0, _⟩ | ⟨g, cap, cur, hv, _⟩
        · rw [h0] at hb
          cases hb
        · exact ⟨g, cap, by simpa using hv⟩
      have HN0 : Aside0 ((Kd.int .i64).R 3 w1 wk.heap.size (fun k => k = gN) (.slice (some ⟨gN, 0, none⟩) p.Dims.toNat cN) (nowAt p l k 0 0)) := ⟨by
        have h := HU0.out
        rw [nowAt_zero]
        exact Kd.R_of_own (Kd.own_of_R h) (fun k hk => by simpa [Value.ownBlock] using hk.symm)⟩
      clear HAT HU0
      go_loopw [8] (fun i wr => ∃ i' : Nat, i' ≤ l.length ∧ i = .int .i64 i' ∧ Aside0 ((Kd.int .i64).R 3 wr wk.heap.size (fun k => k = gN) (.slice (some ⟨gN, 0, none⟩) p.Dims.toNat cN) (nowAt p l k i' 0)) ∧ Aside0 (Below wk.heap.size wk wr)) (fun i _ => l.length - (intOf i).toNat)
      case atStart => exact ⟨0, Nat.zero_le _, rfl, HN0, HBU⟩
      case round =>
        clear HN0 HBU
        obtain ⟨i, hi, rfl, HN, HWk⟩ := hrel
        have HBw : Aside0 (Below w.heap.size w wr) := ⟨below_to HB0.out HWk.out⟩
        obtain ⟨qc2, qf2⟩ := bcell HWk.out
        have zr2 : w.heap.size < wr.heap.size := Nat.lt_of_lt_of_le zr HWk.out.size
        by_cases hil : i < l.length
        · obtain ⟨ad, ea, x0, x1⟩ := atNVisit (Kd.C_below HR.out HBw.out) i hil
          subst ea
          have r0 : (0 : Int) ≤ (i : Int) := by omega
          have r1 : (i : Int) < (l.length : Int) := by omega
          have eqv := rdVisit_nat l i hil
          generalize hv : l[i] = v at *
          go_upto_region 9 with fail
          have hba := World.block_lt_of_cell? _ _ x0
          have hbb : (⟨(ad.add (i * 2)).block, (ad.add (i * 2)).off + 1, none⟩ : Addr).block < wr.heap.size := hba
          go_cut [10] (fun s10 wx => s10 = .bool (stopS p v).2 ∧ Aside0 (Below wr.heap.size wr wx))
          case first =>
            go_region_held3 (fun W' => Below wr.heap.size wr W' ∧ ∀ a : Addr, a.block < wr.heap.size → W'.cell? a = wr.cell? a) (first | exact hl_start _ | exact hl_of (by repeat (first | exact Below.refl _ _ | apply below_alloc | apply below_drew | (refine Below.setCell ?_ (by first | (simp; done) | (simp; omega) | (dsimp only; omega)) _) | (refine below_to ?_ (by assumption)))))
                (first
                  | (go_at_call 37; refine (HST.out v _ (below_to HBw.out (And.left (show Below wr.heap.size wr _ ∧ _ from by assumption)))).mono ?_; rintro e w2 ⟨A1, k1, rfl, hle1, hC1, hb⟩; obtain ⟨qcs, qfs⟩ := bcell hb; clear hle1 hC1))
            all_goals
              go_wp2_with fail
              go_meet
              exact ⟨rfl, ⟨(by repeat (first | exact Below.refl _ _ | apply below_alloc | apply below_drew | apply pw_below_drewN | (refine Below.setCell ?_ (by first | (simp; done) | (simp; omega) | (dsimp only; omega)) _) | (refine below_to ?_ (by assumption))))⟩⟩
          case rest =>
            obtain ⟨rfl, HBc⟩ := hcut
            have HNc : Aside0 ((Kd.int .i64).R 3 wc wk.heap.size (fun k => k = gN) (.slice (some ⟨gN, 0, none⟩) p.Dims.toNat cN) (nowAt p l k i 0)) := ⟨Kd.R_below HN.out HBc.out⟩
            have HWc : Aside0 (Below wk.heap.size wk wc) := ⟨below_to HWk.out HBc.out⟩
            clear HN HWk HBc qc2 qf2 zr2 HBw hba hbb x0 x1
            cases hs2 : (stopS p v).2
            · have HNX := Aside0.mk (nowAt_skip p l k i (fun d _ => by simp [contribS, eqv, hs2]))
              go_wp2
              go_roundw
              case rel => exact ⟨i + 1, by omega, by go_num, HNX.out ▸ HNc, HWc⟩
              case measure => simp [intOf]; omega
            · have HBw : Aside0 (Below w.heap.size w wc) := ⟨below_to HB0.out HWc.out⟩
              obtain ⟨ad', ea', x0, x1⟩ := atNVisit (Kd.C_below HR.out HBw.out) i hil
              obtain rfl := Option.some.inj ea'
              rw [hv] at x0 x1
              go_wp2
              go_loopw [12] (fun d wr => ∃ dd : Nat, (dd : Int) ≤ p.Dims ∧ d = .int .i64 dd ∧ Aside0 ((Kd.int .i64).R 3 wr wk.heap.size (fun k => k = gN) (.slice (some ⟨gN, 0, none⟩) p.Dims.toNat cN) (nowAt p l k i dd)) ∧ Aside0 (Below wk.heap.size wk wr)) (fun d _ => p.Dims.toNat - (intOf d).toNat)
              case atStart => exact ⟨0, by omega, rfl, HNc, HWc⟩
              case round =>
                clear HNc HWc HBw x0 x1
                obtain ⟨dd, hdd, rfl, HN, HWk⟩ := hrel
                have HBw : Aside0 (Below w.heap.size w wr) := ⟨below_to HB0.out HWk.out⟩
                obtain ⟨qc2, qf2⟩ := bcell HWk.out
                have zr2 : w.heap.size < wr.heap.size := Nat.lt_of_lt_of_le zr HWk.out.size
                by_cases hdl : (dd : Int) < p.Dims
                · have hdn : dd < p.Dims.toNat := by omega
                  obtain ⟨ad', ea', x0, x1⟩ := atNVisit (Kd.C_below HR.out HBw.out) i hil
                  obtain rfl := Option.some.inj ea'
                  rw [hv] at x0 x1
                  obtain ⟨adn, en, xn⟩ := Kd.at_int (Kd.R_reads' HN.out).2.2 (dd : Int) (by omega) (by rw [nowAt_length]; omega)
                  obtain rfl := Option.some.inj en
                  have ern : rd (nowAt p l k i dd) (dd : Int) = sumS (fun j => contribS p l k j dd) i := by
                    have h := nowAt_get p l k i dd dd hdn
                    rw [if_neg (Nat.lt_irrefl _)] at h
                    rw [← h]
                    simp [rd, List.getElem?_eq_getElem (show dd < (nowAt p l k i dd).length by rw [nowAt_length]; exact hdn)]
                  rw [ern, add_plain, Int.toNat_natCast] at xn
                  obtain ⟨cellsN, hcN⟩ := own_typed (Kd.own_of_R HN.out) gN (by simp [Value.ownBlock])
                  have hfN := fun i => blk_frozen hcN i
                  have hgN := Kd.R_base HN.out gN (by simp [Value.ownBlock])
                  have hsum := sumS_le (f := fun j => contribS p l k j dd) (fun j => contribS_le LAW.out l k j dd hdl) i
                  have t0 : (0 : Int) ≤ (dd : Int) := by omega
                  have t1 : (dd : Int) < (p.Dims.toNat : Int) := by omega
                  clear ern hcN
                  rcases kind_of hs2 with ⟨k1, i0, i1⟩ | ⟨k2, i0, i1⟩
                  · have hj2 := LAW.out.job _ i0 i1
                    obtain ⟨m1, m2, m3⟩ := am_rd hj2.1 dd hdl
                    obtain ⟨p1, p2, p3⟩ := am_rd hj2.2 dd hdl
                    have m4 : (dd : Int) < ((rdJob p.Jobs v.Item).Drop.length : Int) := by omega
                    have p4 : (dd : Int) < ((rdJob p.Jobs v.Item).Pick.length : Int) := by omega
                    obtain ⟨aj, A2, c2_, A3, c3_, A4, c4_, eaj, -, -, -, y3, y4, -, -, -, -, -, g3, -, g4⟩ := atJob (HQ.out.below HBw.out).h4 v.Item i0 i1
                    have eaj' : a4 = some aj := eaj
                    subst eaj'
                    obtain ⟨adD, eD, yD⟩ := Kd.at_int g3 (dd : Int) t0 m4
                    obtain ⟨adP, eP, yP⟩ := Kd.at_int g4 (dd : Int) t0 p4
                    subst eD
                    subst eP
                    simp only [Int.toNat_natCast] at yD yP
                    have dk1 : (v.Kind == 1) = true := by simp [k1]
                    by_cases hki : k ≤ i
                    · have d1 : decide ((k : Int) ≤ (i : Int)) = true := decide_eq_true (by omega)
                      have HCO := Aside0.mk (show contribS p l k i dd = rd (rdJob p.Jobs v.Item).Drop dd by simp [contribS, eqv, hs2, k1, hki])
                      clear hj2 g3 g4 eaj k1
                      have ew : IntKind.i64.wrap (sumS (fun j => contribS p l k j dd) i + rd (rdJob p.Jobs v.Item).Drop dd) = sumS (fun j => contribS p l k j dd) i + rd (rdJob p.Jobs v.Item).Drop dd := IntWalk.i64_in _ (by omega)
                      have HNX : Aside0 ((nowAt p l k i dd).set dd (sumS (fun j => contribS p l k j dd) i + rd (rdJob p.Jobs v.Item).Drop dd) = nowAt p l k i (dd + 1)) := ⟨by rw [← nowAt_set p l k i dd hdn, HCO.out]; try rw [Int.sub_eq_add_neg]⟩
                      go_wp2
                      have HNn : Aside0 ((Kd.int .i64).R 3 (wr.setCell ⟨gN, dd, none⟩ (.int .i64 (sumS (fun j => contribS p l k j dd) i + rd (rdJob p.Jobs v.Item).Drop dd))).drew wk.heap.size (fun k => k = gN) (.slice (some ⟨gN, 0, none⟩) p.Dims.toNat cN) (nowAt p l k i (dd + 1))) := ⟨by
                        rw [← HNX.out]
                        have h := Kd.R_putn HN.out (dd : Int) (sumS (fun j => contribS p l k j dd) i + rd (rdJob p.Jobs v.Item).Drop dd)
                        rw [Int.toNat_natCast] at h
                        exact Kd.R_drew h⟩
                      have HBn : Aside0 (Below wk.heap.size wk (wr.setCell ⟨gN, dd, none⟩ (.int .i64 (sumS (fun j => contribS p l k j dd) i + rd (rdJob p.Jobs v.Item).Drop dd))).drew) := ⟨below_drew (Below.setCell HWk.out hgN _)⟩
                      go_region
                      go_wp2
                      go_roundw
                      case rel => exact ⟨dd + 1, by omega, by go_num, HNn, HBn⟩
                      case measure => simp [intOf]; omega
                    · have d1 : decide ((k : Int) ≤ (i : Int)) = false := decide_eq_false (by omega)
                      have HCO := Aside0.mk (show contribS p l k i dd = rd (rdJob p.Jobs v.Item).Pick dd by simp [contribS, eqv, hs2, k1, hki])
                      clear hj2 g3 g4 eaj k1
                      have ew : IntKind.i64.wrap (sumS (fun j => contribS p l k j dd) i + rd (rdJob p.Jobs v.Item).Pick dd) = sumS (fun j => contribS p l k j dd) i + rd (rdJob p.Jobs v.Item).Pick dd := IntWalk.i64_in _ (by omega)
                      have HNX : Aside0 ((nowAt p l k i dd).set dd (sumS (fun j => contribS p l k j dd) i + rd (rdJob p.Jobs v.Item).Pick dd) = nowAt p l k i (dd + 1)) := ⟨by rw [← nowAt_set p l k i dd hdn, HCO.out]; try rw [Int.sub_eq_add_neg]⟩
                      go_wp2
                      have HNn : Aside0 ((Kd.int .i64).R 3 (wr.setCell ⟨gN, dd, none⟩ (.int .i64 (sumS (fun j => contribS p l k j dd) i + rd (rdJob p.Jobs v.Item).Pick dd))).drew wk.heap.size (fun k => k = gN) (.slice (some ⟨gN, 0, none⟩) p.Dims.toNat cN) (nowAt p l k i (dd + 1))) := ⟨by
                        rw [← HNX.out]
                        have h := Kd.R_putn HN.out (dd : Int) (sumS (fun j => contribS p l k j dd) i + rd (rdJob p.Jobs v.Item).Pick dd)
                        rw [Int.toNat_natCast] at h
                        exact Kd.R_drew h⟩
                      have HBn : Aside0 (Below wk.heap.size wk (wr.setCell ⟨gN, dd, none⟩ (.int .i64 (sumS (fun j => contribS p l k j dd) i + rd (rdJob p.Jobs v.Item).Pick dd))).drew) := ⟨below_drew (Below.setCell HWk.out hgN _)⟩
                      go_region
                      go_wp2
                      go_roundw
                      case rel => exact ⟨dd + 1, by omega, by go_num, HNn, HBn⟩
                      case measure => simp [intOf]; omega
                  · have hj2 := LAW.out.ship _ i0 i1
                    obtain ⟨m1, m2, m3⟩ := am_rd hj2 dd hdl
                    have m4 : (dd : Int) < ((rdShipment p.Shipments v.Item).Amount.length : Int) := by omega
                    obtain ⟨aj, A2, c2_, A3, c3_, A4, c4_, eaj, -, -, -, -, -, -, y6, -, -, -, -, -, -, -, g3⟩ := atShipment (HQ.out.below HBw.out).h5 v.Item i0 i1
                    have eaj' : a5 = some aj := eaj
                    subst eaj'
                    obtain ⟨adD, eD, yD⟩ := Kd.at_int g3 (dd : Int) t0 m4
                    subst eD
                    simp only [Int.toNat_natCast] at yD
                    have dk1 : (v.Kind == 1) = false := by simp; omega
                    by_cases hki : i < k
                    · have d1 : decide ((i : Int) < (k : Int)) = true := decide_eq_true (by omega)
                      by_cases k3 : v.Kind = 2
                      · have dk2 : (v.Kind == 2) = true := by simp [k3]
                        have HCO := Aside0.mk (show contribS p l k i dd = rd (rdShipment p.Shipments v.Item).Amount dd by simp [contribS, eqv, hs2, k3, hki])
                        clear hj2 g3 eaj k2 k3
                        have ew : IntKind.i64.wrap (sumS (fun j => contribS p l k j dd) i + rd (rdShipment p.Shipments v.Item).Amount dd) = sumS (fun j => contribS p l k j dd) i + rd (rdShipment p.Shipments v.Item).Amount dd := IntWalk.i64_in _ (by omega)
                        have HNX : Aside0 ((nowAt p l k i dd).set dd (sumS (fun j => contribS p l k j dd) i + rd (rdShipment p.Shipments v.Item).Amount dd) = nowAt p l k i (dd + 1)) := ⟨by rw [← nowAt_set p l k i dd hdn, HCO.out]; try rw [Int.sub_eq_add_neg]⟩
                        go_wp2
                        have HNn : Aside0 ((Kd.int .i64).R 3 (wr.setCell ⟨gN, dd, none⟩ (.int .i64 (sumS (fun j => contribS p l k j dd) i + rd (rdShipment p.Shipments v.Item).Amount dd))).drew wk.heap.size (fun k => k = gN) (.slice (some ⟨gN, 0, none⟩) p.Dims.toNat cN) (nowAt p l k i (dd + 1))) := ⟨by
                          rw [← HNX.out]
                          have h := Kd.R_putn HN.out (dd : Int) (sumS (fun j => contribS p l k j dd) i + rd (rdShipment p.Shipments v.Item).Amount dd)
                          rw [Int.toNat_natCast] at h
                          exact Kd.R_drew h⟩
                        have HBn : Aside0 (Below wk.heap.size wk (wr.setCell ⟨gN, dd, none⟩ (.int .i64 (sumS (fun j => contribS p l k j dd) i + rd (rdShipment p.Shipments v.Item).Amount dd))).drew) := ⟨below_drew (Below.setCell HWk.out hgN _)⟩
                        go_region
                        go_wp2
                        go_roundw
                        case rel => exact ⟨dd + 1, by omega, by go_num, HNn, HBn⟩
                        case measure => simp [intOf]; omega
                      · have dk2 : (v.Kind == 2) = false := by simp [k3]
                        have k4 : v.Kind = 3 := by omega
                        have dk3 : (v.Kind == 3) = true := by simp [k4]
                        have HCO := Aside0.mk (show contribS p l k i dd = - rd (rdShipment p.Shipments v.Item).Amount dd by simp [contribS, eqv, hs2, k4, hki])
                        clear hj2 g3 eaj k2 k3 k4
                        have ew : IntKind.i64.wrap (sumS (fun j => contribS p l k j dd) i - rd (rdShipment p.Shipments v.Item).Amount dd) = sumS (fun j => contribS p l k j dd) i - rd (rdShipment p.Shipments v.Item).Amount dd := IntWalk.i64_in _ (by omega)
                        have HNX : Aside0 ((nowAt p l k i dd).set dd (sumS (fun j => contribS p l k j dd) i - rd (rdShipment p.Shipments v.Item).Amount dd) = nowAt p l k i (dd + 1)) := ⟨by rw [← nowAt_set p l k i dd hdn, HCO.out]; try rw [Int.sub_eq_add_neg]⟩
                        go_wp2
                        have HNn : Aside0 ((Kd.int .i64).R 3 (wr.setCell ⟨gN, dd, none⟩ (.int .i64 (sumS (fun j => contribS p l k j dd) i - rd (rdShipment p.Shipments v.Item).Amount dd))).drew wk.heap.size (fun k => k = gN) (.slice (some ⟨gN, 0, none⟩) p.Dims.toNat cN) (nowAt p l k i (dd + 1))) := ⟨by
                          rw [← HNX.out]
                          have h := Kd.R_putn HN.out (dd : Int) (sumS (fun j => contribS p l k j dd) i - rd (rdShipment p.Shipments v.Item).Amount dd)
                          rw [Int.toNat_natCast] at h
                          exact Kd.R_drew h⟩
                        have HBn : Aside0 (Below wk.heap.size wk (wr.setCell ⟨gN, dd, none⟩ (.int .i64 (sumS (fun j => contribS p l k j dd) i - rd (rdShipment p.Shipments v.Item).Amount dd))).drew) := ⟨below_drew (Below.setCell HWk.out hgN _)⟩
                        go_region
                        go_wp2
                        go_roundw
                        case rel => exact ⟨dd + 1, by omega, by go_num, HNn, HBn⟩
                        case measure => simp [intOf]; omega
                    · have d1 : decide ((i : Int) < (k : Int)) = false := decide_eq_false (by omega)
                      have HNs := Aside0.mk (nowAt_same p l k i dd hdn (by
                        rcases k2 with h | h <;> simp [contribS, eqv, hs2, h, hki]))
                      have dk2 : ((v.Kind == 2) = true ∧ (v.Kind == 3) = false) ∨ ((v.Kind == 2) = false ∧ (v.Kind == 3) = true) := by
                        rcases k2 with h | h <;> simp [h]
                      clear hj2 g3 eaj k2
                      rcases dk2 with ⟨dk2, dk3⟩ | ⟨dk2, dk3⟩
                      all_goals
                        go_wp2
                        go_roundw
                        case rel => exact ⟨dd + 1, by omega, by go_num, HNs.out ▸ HN, HWk⟩
                        case measure => simp [intOf]; omega
                · have edd : dd = p.Dims.toNat := by omega
                  have HNe : Aside0 ((Kd.int .i64).R 3 wr wk.heap.size (fun k => k = gN) (.slice (some ⟨gN, 0, none⟩) p.Dims.toNat cN) (nowAt p l k (i + 1) 0)) := ⟨by have h := HN.out; rw [edd, nowAt_next] at h; exact h⟩
                  have d1 : decide ((dd : Int) < p.Dims) = false := decide_eq_false hdl
                  go_wp2
                  go_roundw
                  case rel => exact ⟨i + 1, by omega, by go_num, HNe, HWk⟩
                  case measure => simp [intOf]; omega
        · obtain rfl : i = l.length := by omega
          have HOr : Aside0 (kInts.R 22 wr (w.heap.size + 1) (fun _ => True) u5 ((List.range k).map (nowS p l))) := ⟨Kd.R_below HO.out HWk.out⟩
          have hwk : w.heap.size + 1 ≤ wk.heap.size := by omega
          obtain ⟨cellsN, hcN⟩ := own_typed (Kd.own_of_R HN.out) gN (by simp [Value.ownBlock])
          have HM : Aside0 (kInts.M wr (w.heap.size + 1) (fun k => k = gN) (nowS p l k) [.slice (some ⟨gN, 0, none⟩) p.Dims.toNat cN]) := ⟨⟨_, rfl, Kd.R_lower HN.out hwk⟩⟩
          have HNE : Aside0 (some gN ≠ u5.ownBlock) := ⟨Kd.R_ne HOr.out hcN (by decide)⟩
          have HW2 : Aside0 (Below (w.heap.size + 1) (w.alloc (.cells #[.int .i64 p.Dims, .int .i64 p.Time.N, .slice a1 p.Time.Cells.length c1, .int .i64 p.Dist.N, .slice a2 p.Dist.Cells.length c2, .slice a3 p.Vehicles.length c3, .slice a4 p.Jobs.length c4, .slice a5 p.Shipments.length c5] 29)) wr) := ⟨by simpa using below_to HW'.out HWk.out⟩
          have hszw := HWk.out.size
          have hll : ((List.range k).map (nowS p l)).length = k := by simp
          clear hcN
          go_wp2_with (at_builtin; refine Kd.R_append kInts (w0 := w.alloc (.cells #[.int .i64 p.Dims, .int .i64 p.Time.N, .slice a1 p.Time.Cells.length c1, .int .i64 p.Dist.N, .slice a2 p.Dist.Cells.length c2, .slice a3 p.Vehicles.length c3, .slice a4 p.Jobs.length c4, .slice a5 p.Shipments.length c5] 29)) (W := wr) (w.heap.size + 1) rfl (.tmp 161) (.tmp 163) 82 22 (.slice none 0 0) 24 rfl Try.underlying82 (by kernel_rfl) rfl (by decide) (by omega) u5 ((List.range k).map (nowS p l)) (nowS p l k) _ (fun _ => True) (fun k => k = gN) rfl rfl HM.out (fun m hm => ⟨trivial, by rw [hm]; exact HNE.out⟩) (fun _ _ => trivial) HOr.out HW2.out (by omega) (by rw [hll]; omega) ?_; intro v2 w2 ho hb hg hat; have HO2 := Aside0.mk ho; have HB2 := Aside0.mk hb; clear ho hb hg hat)
          go_roundw
          case rel => exact ⟨k + 1, by omega, by go_num, ⟨by rw [List.range_succ, List.map_append]; exact HO2.out⟩, HB2⟩
          case measure => simp [intOf]; omega
    · obtain rfl : k = l.length + 1 := by omega
      obtain ⟨A', c', rfl, hle, hC⟩ := Kd.R_reads HO.out
      have HL : Aside0 (((List.range (l.length + 1)).map (nowS p l)).length = (loadsS p l).length) := ⟨rfl⟩
      have HCf := Aside0.mk hC
      clear hC
      go_wp2
      go_ret
      exact ⟨A', c', rfl, hle, Kd.R_lower HO.out (by omega), HB0.out⟩
theorem refLoads_any (q : PV) (p : TProblem) (l : List TVisit) (A : Option Addr) (c : Nat) (w : World) (hlp : Lens p) (law : Law p) (hq : q.Ok p w) (hr : Kd.C kVisit w A l.length l) (hl : l.length ≤ 200) :
    Calls Try.prog 56 #[q.val p, .slice A l.length c] w (ListPost kInts (loadsS p l) w) := by
  refine (refLoads_own q p l A c w hlp law hq hr hl).mono ?_
  rintro e w' ⟨A', c', rfl, hle, hR, hb⟩
  obtain ⟨A2, c2, e2, _, hC⟩ := Kd.R_reads hR
  injection e2 with eA en ec
  subst eA
  exact ⟨A', c', rfl, hle, hC, hb⟩
end Go.Proofs.Ytemjpgmfignhnaa
