/- The walk of ModelAsks: it answers true.
Conditions: lists no longer than memory allows. -/
import Derived.Test.YtemjpgmfignhnaaA12
import Derived.Test.YtemjpgmfignhnaaCp
import Derived.Test.YtemjpgmfignhnaaGoodOf
import Derived.Test.YtemjpgmfignhnaaM0
import Derived.Test.YtemjpgmfignhnaaM4
import Derived.Test.YtemjpgmfignhnaaM3
namespace Go.Proofs.Ytemjpgmfignhnaa
open Go.RowKit Go.Proofs.YtemjpgmfignhnaaW.PrintWords Go.Proofs.YtemjpgmfignhnaaW.PrintLast Go.Proofs.YtemjpgmfignhnaaW.PrintMore
set_option linter.unusedVariables false
set_option linter.unusedSimpArgs false
attribute [local go_sem] cell_growBy Option.some_or
theorem windowsB_len {l : List TWindow} (h : windowsB l = true) : l.length ≤ 4 := by
  unfold windowsB windowsS at h
  split at h
  · simp at h
  · omega
theorem Law.stopB {p : TProblem} (h : Law p) {v : TVisit} (hs : (stopS p v).2 = true) : Go.Proofs.Ytemjpgmfignhnaa.stopB (stopS p v).1 p.Time.N = true := by
  unfold stopS at hs ⊢
  split at hs
  · rename_i hb
    rw [if_pos hb]
    simp only [Bool.and_eq_true] at hb
    obtain ⟨ht, hth⟩ := hb
    by_cases h1 : v.Kind = 1
    · simp only [taskOf, h1, if_true, thereB] at hth ⊢
      have hr := upB_true (show upB v.Item ((p.Jobs.length : Int) - 1) = true by simpa using hth)
      have hb := h.gj _ (rdJob_mem p.Jobs v.Item hr.1 (by omega))
      simp only [jobB, Bool.and_eq_true] at hb
      exact hb.1
    · have hk : v.Kind = 2 ∨ v.Kind = 3 := by
        apply Classical.byContradiction
        intro hn
        rw [taskOf_none h1 (fun e => hn (.inl e)) (fun e => hn (.inr e))] at ht
        cases ht
      have et : taskOf v = (⟨true, v.Item⟩, true) := by
        unfold taskOf
        rw [if_neg h1, if_pos hk]
      rw [et] at hth
      have hr := upB_true (show upB v.Item ((p.Shipments.length : Int) - 1) = true by simpa [thereB] using hth)
      have hb := h.gs _ (rdShip_mem p.Shipments v.Item hr.1 (by omega))
      simp only [shipB, Bool.and_eq_true] at hb
      simp only [if_neg h1]
      split
      · exact hb.1
      · exact hb.2.1
  · cases hs
theorem Law.stopLen {p : TProblem} (h : Law p) {v : TVisit} (hs : (stopS p v).2 = true) : (stopS p v).1.Windows.length ≤ 4 := by
  have := h.stopB hs
  simp only [Go.Proofs.Ytemjpgmfignhnaa.stopB, Bool.and_eq_true] at this
  exact windowsB_len this.2
theorem Law.stopLen' {p : TProblem} (h : Law p) (v : TVisit) : (stopS p v).1.Windows.length ≤ 4 := by
  cases hb : (stopS p v).2 with
  | true => exact h.stopLen hb
  | false =>
    unfold stopS at hb ⊢
    split at hb
    · cases hb
    · rename_i hn
      rw [if_neg hn]
      exact Nat.zero_le _
set_option maxHeartbeats 16000000 in
set_option maxRecDepth 100000 in
theorem modelAsks_any (q : PV) (p : TProblem) (t : TTask) (v : TVisit) (w : World) (hg : GProblem p) (hq : q.Ok p w) :
    Calls Try.prog 8 #[q.val p, .agg #[.bool t.Ship, .int .i64 t.Item], .agg #[.int .i64 v.Kind, .int .i64 v.Item]] w fun e w' => e = .returned (.bool true) ∧ Below w.heap.size w w' := by
  have HQ := Aside0.mk hq
  have HG := Aside0.mk hg
  have HL := Aside0.mk (good_of hg)
  have HC := Aside0.mk (fun W (hb : Below w.heap.size w W) => copied_any q p W (hq.below hb) hg)
  have HLW := Aside0.mk (fun W (hb : Below w.heap.size w W) => lawful_any q p W HL.out (hq.below hb))
  have HF := Aside0.mk (fun W (hb : Below w.heap.size w W) => refFacts_any q p t W HL.out.toLens (hq.below hb))
  have HSt := Aside0.mk (fun W (hb : Below w.heap.size w W) => refStop_any q p v W HL.out.toLens (hq.below hb))
  clear hq hg
  by_cases hc : checkS p = 0
  · have LAW := Aside0.mk (law_of hc)
    have HCT : Aside0 (decide (checkS p = 0) = true) := ⟨by simp [hc]⟩
    have hs4 := Aside0.mk (LAW.out.stopLen' v)
    have hMS := Aside0.mk (fun (o : OV) W (hok : o.pv.Ok p W) => modStop_any o.pv p v W HL.out.toLens hok (fun _ => by
      have := hs4.out
      refine ⟨by omega, ?_⟩
      unfold maxLen
      omega))
    clear hc
    obtain ⟨tship, titem⟩ := t
    obtain ⟨vk, vi⟩ := v
    unfold PV.val at HC HF HSt hMS HLW ⊢
    go_enter Try.func8, Try.ntmps8
    go_wp2_with (first
      | (go_at_call 25; refine (awake12_any _).mono ?_; skip; rintro e w1 ⟨rfl, hb⟩; have HB1 := Aside0.mk hb; obtain ⟨qc1, qf1⟩ := bcell hb; have hs1 := hb.size; (try simp at hs1); (try have z01 : w.heap.size < w1.heap.size := (by omega)); (try have z11 : w.heap.size + 1 < w1.heap.size := (by omega)); (try have z21 : w.heap.size + 1 + 1 < w1.heap.size := (by omega)); (try have z31 : w.heap.size + 1 + 1 + 1 < w1.heap.size := (by omega)); (try have z41 : w.heap.size + 1 + 1 + 1 + 1 < w1.heap.size := (by omega)); clear hs1 hb; skip)
      | (go_at_call 29; refine (HLW.out _ (by repeat (first | exact Below.refl _ _ | apply below_alloc | apply pw_below_drewN | apply below_drew1 | apply below_drew | (refine Below.setCell ?_ (by (try simp); (try omega)) _) | (refine below_to ?_ HB6.out) | (refine below_to ?_ HB5.out) | (refine below_to ?_ HB4.out) | (refine below_to ?_ HB3.out) | (refine below_to ?_ HB2.out) | (refine below_to ?_ HB1.out)))).mono ?_; rw [HCT.out]; rintro e w2 ⟨rfl, hb⟩; have HB2 := Aside0.mk hb; obtain ⟨qc2, qf2⟩ := bcell hb; have hs2 := hb.size; (try simp at hs2); (try have z02 : w.heap.size < w2.heap.size := (by omega)); (try have z12 : w.heap.size + 1 < w2.heap.size := (by omega)); (try have z22 : w.heap.size + 1 + 1 < w2.heap.size := (by omega)); (try have z32 : w.heap.size + 1 + 1 + 1 < w2.heap.size := (by omega)); (try have z42 : w.heap.size + 1 + 1 + 1 + 1 < w2.heap.size := (by omega)); clear hs2 hb; skip)
      | (go_at_call 27; refine (HC.out _ (by repeat (first | exact Below.refl _ _ | apply below_alloc | apply pw_below_drewN | apply below_drew1 | apply below_drew | (refine Below.setCell ?_ (by (try simp); (try omega)) _) | (refine below_to ?_ HB6.out) | (refine below_to ?_ HB5.out) | (refine below_to ?_ HB4.out) | (refine below_to ?_ HB3.out) | (refine below_to ?_ HB2.out) | (refine below_to ?_ HB1.out)))).mono ?_; rintro e w3 ⟨o, rfl, hown, hb⟩; have HOK := Aside0.mk (hown.ok HL.out.toLens); clear hown; have HB3 := Aside0.mk hb; obtain ⟨qc3, qf3⟩ := bcell hb; have hs3 := hb.size; (try simp at hs3); (try have z03 : w.heap.size < w3.heap.size := (by omega)); (try have z13 : w.heap.size + 1 < w3.heap.size := (by omega)); (try have z23 : w.heap.size + 1 + 1 < w3.heap.size := (by omega)); (try have z33 : w.heap.size + 1 + 1 + 1 < w3.heap.size := (by omega)); (try have z43 : w.heap.size + 1 + 1 + 1 + 1 < w3.heap.size := (by omega)); clear hs3 hb)
      | (go_at_call 42; refine (HF.out _ (by repeat (first | exact Below.refl _ _ | apply below_alloc | apply pw_below_drewN | apply below_drew1 | apply below_drew | (refine Below.setCell ?_ (by (try simp); (try omega)) _) | (refine below_to ?_ HB6.out) | (refine below_to ?_ HB5.out) | (refine below_to ?_ HB4.out) | (refine below_to ?_ HB3.out) | (refine below_to ?_ HB2.out) | (refine below_to ?_ HB1.out)))).mono ?_; skip; rintro e w4 ⟨rfl, hb⟩; have HB4 := Aside0.mk hb; obtain ⟨qc4, qf4⟩ := bcell hb; have hs4 := hb.size; (try simp at hs4); (try have z04 : w.heap.size < w4.heap.size := (by omega)); (try have z14 : w.heap.size + 1 < w4.heap.size := (by omega)); (try have z24 : w.heap.size + 1 + 1 < w4.heap.size := (by omega)); (try have z34 : w.heap.size + 1 + 1 + 1 < w4.heap.size := (by omega)); (try have z44 : w.heap.size + 1 + 1 + 1 + 1 < w4.heap.size := (by omega)); clear hs4 hb; have y4_3 : w3.heap.size < w4.heap.size := (by have := HB4.out.size; (try simp at this); omega))
      | (go_at_call 41; refine (of_any ⟨vk, vi⟩ _).mono ?_; skip; rintro e w5 ⟨rfl, hb⟩; have HB5 := Aside0.mk hb; obtain ⟨qc5, qf5⟩ := bcell hb; have hs5 := hb.size; (try simp at hs5); (try have z05 : w.heap.size < w5.heap.size := (by omega)); (try have z15 : w.heap.size + 1 < w5.heap.size := (by omega)); (try have z25 : w.heap.size + 1 + 1 < w5.heap.size := (by omega)); (try have z35 : w.heap.size + 1 + 1 + 1 < w5.heap.size := (by omega)); (try have z45 : w.heap.size + 1 + 1 + 1 + 1 < w5.heap.size := (by omega)); clear hs5 hb; have y5_3 : w3.heap.size < w5.heap.size := (by have := HB5.out.size; (try simp at this); omega))
      | (go_at_call 43; refine (refOf_any ⟨vk, vi⟩ _).mono ?_; skip; rintro e w6 ⟨rfl, hb⟩; have HB6 := Aside0.mk hb; obtain ⟨qc6, qf6⟩ := bcell hb; have hs6 := hb.size; (try simp at hs6); (try have z06 : w.heap.size < w6.heap.size := (by omega)); (try have z16 : w.heap.size + 1 < w6.heap.size := (by omega)); (try have z26 : w.heap.size + 1 + 1 < w6.heap.size := (by omega)); (try have z36 : w.heap.size + 1 + 1 + 1 < w6.heap.size := (by omega)); (try have z46 : w.heap.size + 1 + 1 + 1 + 1 < w6.heap.size := (by omega)); clear hs6 hb; have y6_3 : w3.heap.size < w6.heap.size := (by have := HB6.out.size; (try simp at this); omega); have y6_5 : w5.heap.size < w6.heap.size := (by have := HB6.out.size; (try simp at this); omega))
      | (go_at_call 36; refine (hMS.out o _ (HOK.out.below (by repeat (first | exact Below.refl _ _ | apply below_alloc | apply pw_below_drewN | apply below_drew1 | apply below_drew | (refine Below.setCell ?_ (by (try simp); (try omega)) _) | (refine below_to ?_ HB16.out) | (refine below_to ?_ HB15.out) | (refine below_to ?_ HB14.out) | (refine below_to ?_ HB13.out) | (refine below_to ?_ HB12.out) | (refine below_to ?_ HB11.out) | (refine below_to ?_ HB10.out) | (refine below_to ?_ HB9.out) | (refine below_to ?_ HB8.out) | (refine below_to ?_ HB7.out) | (refine below_to ?_ HB6.out) | (refine below_to ?_ HB5.out) | (refine below_to ?_ HB4.out) | (refine below_to ?_ HB3.out) | (refine below_to ?_ HB2.out) | (refine below_to ?_ HB1.out))))).mono ?_; rintro e w7 ⟨A7, c7, rfl, hle7, hb, hrow7⟩; have HR7 := Aside0.mk hrow7; clear hrow7 hle7; have HB7 := Aside0.mk hb; obtain ⟨qc7, qf7⟩ := bcell hb; have hs7 := hb.size; (try simp at hs7); (try have z07 : w.heap.size < w7.heap.size := (by omega)); (try have z17 : w.heap.size + 1 < w7.heap.size := (by omega)); (try have z27 : w.heap.size + 1 + 1 < w7.heap.size := (by omega)); (try have z37 : w.heap.size + 1 + 1 + 1 < w7.heap.size := (by omega)); (try have z47 : w.heap.size + 1 + 1 + 1 + 1 < w7.heap.size := (by omega)); clear hs7 hb; have y7_3 : w3.heap.size < w7.heap.size := (by have := HB7.out.size; (try simp at this); omega); have y7_5 : w5.heap.size < w7.heap.size := (by have := HB7.out.size; (try simp at this); omega); have y7_6 : w6.heap.size < w7.heap.size := (by have := HB7.out.size; (try simp at this); omega))
      | (go_at_call 37; refine (HSt.out _ (by repeat (first | exact Below.refl _ _ | apply below_alloc | apply pw_below_drewN | apply below_drew1 | apply below_drew | (refine Below.setCell ?_ (by (try simp); (try omega)) _) | (refine below_to ?_ HB16.out) | (refine below_to ?_ HB15.out) | (refine below_to ?_ HB14.out) | (refine below_to ?_ HB13.out) | (refine below_to ?_ HB12.out) | (refine below_to ?_ HB11.out) | (refine below_to ?_ HB10.out) | (refine below_to ?_ HB9.out) | (refine below_to ?_ HB8.out) | (refine below_to ?_ HB7.out) | (refine below_to ?_ HB6.out) | (refine below_to ?_ HB5.out) | (refine below_to ?_ HB4.out) | (refine below_to ?_ HB3.out) | (refine below_to ?_ HB2.out) | (refine below_to ?_ HB1.out)))).mono ?_; rintro e w8 ⟨A8, c8, rfl, hle8, hC8, hb⟩; have HC8 := Aside0.mk hC8; clear hle8 hC8; have HB8 := Aside0.mk hb; obtain ⟨qc8, qf8⟩ := bcell hb; have hs8 := hb.size; (try simp at hs8); (try have z08 : w.heap.size < w8.heap.size := (by omega)); (try have z18 : w.heap.size + 1 < w8.heap.size := (by omega)); (try have z28 : w.heap.size + 1 + 1 < w8.heap.size := (by omega)); (try have z38 : w.heap.size + 1 + 1 + 1 < w8.heap.size := (by omega)); (try have z48 : w.heap.size + 1 + 1 + 1 + 1 < w8.heap.size := (by omega)); clear hs8 hb; have y8_3 : w3.heap.size < w8.heap.size := (by have := HB8.out.size; (try simp at this); omega); have y8_5 : w5.heap.size < w8.heap.size := (by have := HB8.out.size; (try simp at this); omega); have y8_6 : w6.heap.size < w8.heap.size := (by have := HB8.out.size; (try simp at this); omega); have y8_7 : w7.heap.size < w8.heap.size := (by have := HB8.out.size; (try simp at this); omega)))
    refine gen_world (fun wS hqS hsS hS => ?_)
    simp only [World.size_alloc] at hsS
    have HBS : Aside0 (Below w.heap.size w wS) := ⟨by rw [hS.out]; exact (by repeat (first | exact Below.refl _ _ | apply below_alloc | apply pw_below_drewN | apply below_drew1 | apply below_drew | (refine Below.setCell ?_ (by (try simp); (try omega)) _) | (refine below_to ?_ HB16.out) | (refine below_to ?_ HB15.out) | (refine below_to ?_ HB14.out) | (refine below_to ?_ HB13.out) | (refine below_to ?_ HB12.out) | (refine below_to ?_ HB11.out) | (refine below_to ?_ HB10.out) | (refine below_to ?_ HB9.out) | (refine below_to ?_ HB8.out) | (refine below_to ?_ HB7.out) | (refine below_to ?_ HB6.out) | (refine below_to ?_ HB5.out) | (refine below_to ?_ HB4.out) | (refine below_to ?_ HB3.out) | (refine below_to ?_ HB2.out) | (refine below_to ?_ HB1.out)))⟩
    have HOS : Aside0 (o.pv.Ok p wS) := ⟨HOK.out.below (by rw [hS.out]; exact (by repeat (first | exact Below.refl _ _ | apply below_alloc | apply pw_below_drewN | apply below_drew1 | apply below_drew | (refine Below.setCell ?_ (by (try simp); (try omega)) _) | (refine below_to ?_ HB16.out) | (refine below_to ?_ HB15.out) | (refine below_to ?_ HB14.out) | (refine below_to ?_ HB13.out) | (refine below_to ?_ HB12.out) | (refine below_to ?_ HB11.out) | (refine below_to ?_ HB10.out) | (refine below_to ?_ HB9.out) | (refine below_to ?_ HB8.out) | (refine below_to ?_ HB7.out) | (refine below_to ?_ HB6.out) | (refine below_to ?_ HB5.out) | (refine below_to ?_ HB4.out) | (refine below_to ?_ HB3.out) | (refine below_to ?_ HB2.out) | (refine below_to ?_ HB1.out))))⟩
    have HC8S : Aside0 (Kd.C kWindow wS A8 (stopS p ⟨vk, vi⟩).1.Windows.length (stopS p ⟨vk, vi⟩).1.Windows) := ⟨Kd.C_below HC8.out (by rw [hS.out]; exact (by repeat (first | exact Below.refl _ _ | apply below_alloc | apply pw_below_drewN | apply below_drew1 | apply below_drew | (refine Below.setCell ?_ (by (try simp); (try omega)) _) | (refine below_to ?_ HB16.out) | (refine below_to ?_ HB15.out) | (refine below_to ?_ HB14.out) | (refine below_to ?_ HB13.out) | (refine below_to ?_ HB12.out) | (refine below_to ?_ HB11.out) | (refine below_to ?_ HB10.out) | (refine below_to ?_ HB9.out) | (refine below_to ?_ HB8.out) | (refine below_to ?_ HB7.out) | (refine below_to ?_ HB6.out) | (refine below_to ?_ HB5.out) | (refine below_to ?_ HB4.out) | (refine below_to ?_ HB3.out) | (refine below_to ?_ HB2.out) | (refine below_to ?_ HB1.out))))⟩
    have HWL : Aside0 ((stopS p ⟨vk, vi⟩).1.Windows.length ≤ 4611686018427387904) := ⟨by have := hs4.out; omega⟩
    have HC7 : Aside0 (Kd.C kWindow wS A7 (stopS p ⟨vk, vi⟩).1.Windows.length (stopS p ⟨vk, vi⟩).1.Windows) := ⟨by
      rcases HR7.out with ⟨h0, rfl⟩ | ⟨g, rfl, hg, hrow⟩
      · rw [h0]
        exact Kd.C_nil _ _
      · exact Kd.C_below (hrow.reads HWL.out) (by rw [hS.out]; exact (by repeat (first | exact Below.refl _ _ | apply below_alloc | apply pw_below_drewN | apply below_drew1 | apply below_drew | (refine Below.setCell ?_ (by (try simp); (try omega)) _) | (refine below_to ?_ HB16.out) | (refine below_to ?_ HB15.out) | (refine below_to ?_ HB14.out) | (refine below_to ?_ HB13.out) | (refine below_to ?_ HB12.out) | (refine below_to ?_ HB11.out) | (refine below_to ?_ HB10.out) | (refine below_to ?_ HB9.out) | (refine below_to ?_ HB8.out) | (refine below_to ?_ HB7.out) | (refine below_to ?_ HB6.out) | (refine below_to ?_ HB5.out) | (refine below_to ?_ HB4.out) | (refine below_to ?_ HB3.out) | (refine below_to ?_ HB2.out) | (refine below_to ?_ HB1.out))))⟩
    have HT : Aside0 ((tasksS p).length ≤ 4611686018427387904) := ⟨by
      rw [(tasksS_spec p).1.length_eq]
      have := LAW.out.nt
      simp [jobTasks_length, shipTasks_length]
      omega⟩
    have HV : Aside0 ((visitsS ⟨tship, titem⟩).length ≤ 4611686018427387904) := ⟨by unfold visitsS; split <;> simp⟩
    have u0 : w.heap.size < wS.heap.size := by omega
    have u1 : w.heap.size + 1 < wS.heap.size := by omega
    have u2 : w.heap.size + 1 + 1 < wS.heap.size := by omega
    have u3 : w3.heap.size < wS.heap.size := by omega
    have u5 : w5.heap.size < wS.heap.size := by omega
    have u6 : w6.heap.size < wS.heap.size := by omega
    have u7 : w7.heap.size < wS.heap.size := by omega
    have u8 : w8.heap.size < wS.heap.size := by omega
    go_region_held3 (fun W' => Below wS.heap.size wS W' ∧ ∀ b o, b < wS.heap.size → W'.cell? ⟨b, o, none⟩ = wS.cell? ⟨b, o, none⟩) (first | exact held_start _ | exact held_step (by assumption) (by assumption))
        (first
          | (go_at_call 34; refine (tasks_any o.pv p _ HL.out.toLens (HOS.out.below (And.left (show Below wS.heap.size wS _ ∧ _ from by assumption))) LAW.out.prio LAW.out.nt).mono ?_; rintro e w9 ⟨A9, c9, rfl, hle9, hC9, hb, hown9⟩; have HC9 := Aside0.mk hC9; clear hC9 hown9 hle9)
          | (go_at_call 39; refine (refTasks_any q p _ HL.out.toLens (HQ.out.below (below_to HBS.out (And.left (show Below wS.heap.size wS _ ∧ _ from by assumption)))) LAW.out.nt).mono ?_; rintro e w10 ⟨A10, c10, rfl, hle10, hC10, hb⟩; have HC10 := Aside0.mk hC10; have HC9' := Aside0.mk (Kd.C_below HC9.out hb); clear hC10 hle10)
          | (go_at_call 35; refine (sameTasks_any (tasksS p) A9 A10 c9 c10 _ HC9'.out HC10.out HT.out).mono ?_; rintro e w11 ⟨rfl, hb⟩)
          | (go_at_call 33; refine (there_any o.pv p ⟨tship, titem⟩ _ HL.out.toLens).mono ?_; rintro e w12 ⟨rfl, hb⟩)
          | (go_at_call 44; refine (refThere_any q p ⟨tship, titem⟩ _ HL.out.toLens).mono ?_; rintro e w13 ⟨rfl, hb⟩)
          | (go_at_call 32; refine (priority_any o.pv p ⟨tship, titem⟩ _ HL.out.toLens (HOS.out.below (And.left (show Below wS.heap.size wS _ ∧ _ from by assumption)))).mono ?_; rintro e w14 ⟨rfl, hb⟩)
          | (go_at_call 45; refine (skills_any o.pv p ⟨tship, titem⟩ _ HL.out.toLens (HOS.out.below (And.left (show Below wS.heap.size wS _ ∧ _ from by assumption)))).mono ?_; rintro e w15 ⟨rfl, hb⟩)
          | (go_at_call 40; refine (visits_any ⟨tship, titem⟩ _).mono ?_; rintro e w16 ⟨A16, c16, rfl, hle16, hC16, hb⟩; have HC16 := Aside0.mk hC16; clear hC16 hle16)
          | (go_at_call 47; refine (refVisits_any ⟨tship, titem⟩ _).mono ?_; rintro e w17 ⟨A17, c17, rfl, hle17, hC17, hb⟩; have HC17 := Aside0.mk hC17; have HC16' := Aside0.mk (Kd.C_below HC16.out hb); clear hC17 hle17)
          | (go_at_call 46; refine (sameVisits_any (visitsS ⟨tship, titem⟩) A16 A17 c16 c17 _ HC16'.out HC17.out HV.out).mono ?_; rintro e w18 ⟨rfl, hb⟩)
          | (go_at_call 38; refine (sameStop_any (stopS p ⟨vk, vi⟩).1 A7 A8 c7 c8 _ (Kd.C_below HC7.out (And.left (show Below wS.heap.size wS _ ∧ _ from by assumption))) (Kd.C_below HC8S.out (And.left (show Below wS.heap.size wS _ ∧ _ from by assumption))) HWL.out).mono ?_; rintro e w19 ⟨rfl, hb⟩))
    have HBF := Aside0.mk (below_to HBS.out (And.left (show Below wS.heap.size wS _ ∧ _ from by assumption)))
    go_wp2
    go_ret
    exact ⟨rfl, HBF.out⟩
  · have HCF : Aside0 (decide (checkS p = 0) = false) := ⟨by simp [hc]⟩
    clear hc
    go_enter Try.func8, Try.ntmps8
    go_wp2_with (first
      | (go_at_call 25; refine (awake12_any _).mono ?_; skip; rintro e w1 ⟨rfl, hb⟩; have HB1 := Aside0.mk hb; obtain ⟨qc1, qf1⟩ := bcell hb; have hs1 := hb.size; (try simp at hs1); (try have z01 : w.heap.size < w1.heap.size := (by omega)); (try have z11 : w.heap.size + 1 < w1.heap.size := (by omega)); (try have z21 : w.heap.size + 1 + 1 < w1.heap.size := (by omega)); (try have z31 : w.heap.size + 1 + 1 + 1 < w1.heap.size := (by omega)); (try have z41 : w.heap.size + 1 + 1 + 1 + 1 < w1.heap.size := (by omega)); clear hs1 hb; skip)
      | (go_at_call 29; refine (HLW.out _ (by repeat (first | exact Below.refl _ _ | apply below_alloc | apply pw_below_drewN | apply below_drew1 | apply below_drew | (refine Below.setCell ?_ (by (try simp); (try omega)) _) | (refine below_to ?_ HB6.out) | (refine below_to ?_ HB5.out) | (refine below_to ?_ HB4.out) | (refine below_to ?_ HB3.out) | (refine below_to ?_ HB2.out) | (refine below_to ?_ HB1.out)))).mono ?_; rw [HCF.out]; rintro e w2 ⟨rfl, hb⟩; have HB2 := Aside0.mk hb; obtain ⟨qc2, qf2⟩ := bcell hb; have hs2 := hb.size; (try simp at hs2); (try have z02 : w.heap.size < w2.heap.size := (by omega)); (try have z12 : w.heap.size + 1 < w2.heap.size := (by omega)); (try have z22 : w.heap.size + 1 + 1 < w2.heap.size := (by omega)); (try have z32 : w.heap.size + 1 + 1 + 1 < w2.heap.size := (by omega)); (try have z42 : w.heap.size + 1 + 1 + 1 + 1 < w2.heap.size := (by omega)); clear hs2 hb; skip))
    go_ret
    exact ⟨rfl, (by repeat (first | exact Below.refl _ _ | apply below_alloc | apply pw_below_drewN | apply below_drew1 | apply below_drew | (refine Below.setCell ?_ (by (try simp); (try omega)) _) | (refine below_to ?_ HB6.out) | (refine below_to ?_ HB5.out) | (refine below_to ?_ HB4.out) | (refine below_to ?_ HB3.out) | (refine below_to ?_ HB2.out) | (refine below_to ?_ HB1.out)))⟩
theorem modelAsks_row (q : PV) (p : TProblem) (t : TTask) (v : TVisit) (w : World) (hg : GProblem p) (hq : q.Ok p w) (_ : GTask t) (_ : GVisit v) :
    Calls Try.prog 8 #[q.val p, .agg #[.bool t.Ship, .int .i64 t.Item], .agg #[.int .i64 v.Kind, .int .i64 v.Item]] w fun e w' => e = .returned (.bool true) ∧ Below w.heap.size w w' := modelAsks_any q p t v w hg hq
end Go.Proofs.Ytemjpgmfignhnaa
