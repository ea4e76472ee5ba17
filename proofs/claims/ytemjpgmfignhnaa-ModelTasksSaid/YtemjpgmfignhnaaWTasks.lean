/- The walk of ModelTasks: it answers true.
Conditions: lists no longer than memory allows. -/
import Derived.Test.YtemjpgmfignhnaaA12
import Derived.Test.YtemjpgmfignhnaaCp
import Derived.Test.YtemjpgmfignhnaaGoodOf
import Derived.Test.YtemjpgmfignhnaaM0
import Derived.Test.YtemjpgmfignhnaaM4
import Derived.Test.YtemjpgmfignhnaaM3
import Derived.Carry
namespace Go.Proofs.Ytemjpgmfignhnaa
open Go.RowKit Go.Proofs.YtemjpgmfignhnaaW.PrintWords Go.Proofs.YtemjpgmfignhnaaW.PrintLast Go.Proofs.YtemjpgmfignhnaaW.PrintMore
set_option linter.unusedVariables false
set_option linter.unusedSimpArgs false
attribute [local go_sem] cell_growBy Option.some_or
theorem fresh_take {ts : List TTask} (hn : ts.Nodup) (k : Nat) (hk : k < ts.length) : (ts.take k).any (eqTask ts[k]) = false := by
  rw [List.any_eq_false]
  intro x hx he
  rw [eqTask_iff] at he
  subst he
  obtain ⟨i, hi, hx⟩ := List.mem_iff_getElem.1 hx
  rw [List.getElem_take] at hx
  rw [List.length_take] at hi
  exact (List.pairwise_iff_getElem.1 hn) i k (by omega) hk (by omega) hx
theorem thereB_all {p : TProblem} {t : TTask} (h : t ∈ jobTasks p.Jobs.length ++ shipTasks p.Shipments.length) : thereB p t = true := by
  rcases List.mem_append.1 h with h | h
  · simp only [jobTasks, List.mem_map, List.mem_range] at h
    obtain ⟨i, hi, rfl⟩ := h
    exact upB_mk (show (0 : Int) ≤ (i : Int) by omega) (show (i : Int) ≤ (p.Jobs.length : Int) - 1 by omega)
  · simp only [shipTasks, List.mem_map, List.mem_range] at h
    obtain ⟨i, hi, rfl⟩ := h
    exact upB_mk (show (0 : Int) ≤ (i : Int) by omega) (show (i : Int) ≤ (p.Shipments.length : Int) - 1 by omega)
theorem tasksS_length (p : TProblem) : (tasksS p).length = p.Jobs.length + p.Shipments.length := by
  rw [(tasksS_spec p).1.length_eq]
  simp [jobTasks_length, shipTasks_length]
theorem visits_of (p : TProblem) (law : Law p) (t : TTask) (ht : thereB p t = true) (m : Nat) (hm : m < (visitsS t).length) :
    taskOf (visitsS t)[m] = (t, true) ∧ (stopS p (visitsS t)[m]).2 = true ∧ 0 ≤ (stopS p (visitsS t)[m]).1.Place ∧ (stopS p (visitsS t)[m]).1.Place < p.Time.N := by
  have h1 : taskOf (visitsS t)[m] = (t, true) := by
    obtain ⟨s, i⟩ := t
    cases s
    · simp only [visitsS] at hm ⊢
      match m, hm with
      | 0, _ => rfl
    · simp only [visitsS] at hm ⊢
      match m, hm with
      | 0, _ => rfl
      | 1, _ => rfl
  have h2 : (stopS p (visitsS t)[m]).2 = true := by simp [stopS, h1, ht]
  have h3 := law.stopB h2
  simp only [Go.Proofs.Ytemjpgmfignhnaa.stopB, Bool.and_eq_true] at h3
  have h4 := upB_true h3.1.1
  exact ⟨h1, h2, h4.1, by omega⟩
set_option maxHeartbeats 16000000 in
set_option maxRecDepth 100000 in
theorem modelTasks_any (q : PV) (p : TProblem) (w : World) (hg : GProblem p) (hq : q.Ok p w) :
    Calls Try.prog 7 #[q.val p] w fun e w' => e = .returned (.bool true) ∧ Below w.heap.size w w' := by
  have HQ := Aside0.mk hq
  have HG := Aside0.mk hg
  have HL := Aside0.mk (good_of hg)
  have HC := Aside0.mk (fun W (hb : Below w.heap.size w W) => copied_any q p W (hq.below hb) hg)
  have HLW := Aside0.mk (fun W (hb : Below w.heap.size w W) => lawful_any q p W HL.out (hq.below hb))
  have HPR := Aside0.mk (fun t W (hb : Below w.heap.size w W) => priority_any q p t W HL.out.toLens (hq.below hb))
  have HMS := Aside0.mk (fun (law : Law p) (v : TVisit) W (hb : Below w.heap.size w W) => modStop_any q p v W HL.out.toLens (hq.below hb) (fun _ => by
    have := law.stopLen' v
    refine ⟨by omega, ?_⟩
    unfold maxLen
    omega))
  clear hq hg
  by_cases hc : checkS p = 0
  · have LAW := Aside0.mk (law_of hc)
    have HCT : Aside0 (decide (checkS p = 0) = true) := ⟨by simp [hc]⟩
    clear hc
    have hn4 : p.Jobs.length ≤ 12 := by have := LAW.out.nt; omega
    have hn5 : p.Shipments.length ≤ 12 := by have := LAW.out.nt; omega
    unfold PV.val at HC HPR HLW HMS ⊢
    have hmk := fun W => run_makeMap (P := Try.prog) 62 W
    go_enter Try.func7, Try.ntmps7
    go_wp2_with (first
      | (go_at_call 25; refine (awake12_any _).mono ?_; skip; rintro e w1 ⟨rfl, hb⟩; have HB1 := Aside0.mk hb; obtain ⟨qc1, qf1⟩ := bcell hb; have hs1 := hb.size; (try simp at hs1); (try have z01 : w.heap.size < w1.heap.size := (by omega)); (try have z11 : w.heap.size + 1 < w1.heap.size := (by omega)); (try have z21 : w.heap.size + 1 + 1 < w1.heap.size := (by omega)); (try have z31 : w.heap.size + 1 + 1 + 1 < w1.heap.size := (by omega)); (try have z41 : w.heap.size + 1 + 1 + 1 + 1 < w1.heap.size := (by omega)); clear hs1 hb; skip)
      | (go_at_call 29; refine (HLW.out _ (by repeat (first | exact Below.refl _ _ | apply below_alloc | apply pw_below_drewN | apply below_drew1 | apply below_drew | (refine Below.setCell ?_ (by (try simp); (try omega)) _) | (refine below_to ?_ HB6.out) | (refine below_to ?_ HB5.out) | (refine below_to ?_ HB4.out) | (refine below_to ?_ HB3.out) | (refine below_to ?_ HB2.out) | (refine below_to ?_ HB1.out)))).mono ?_; rw [HCT.out]; rintro e w2 ⟨rfl, hb⟩; have HB2 := Aside0.mk hb; obtain ⟨qc2, qf2⟩ := bcell hb; have hs2 := hb.size; (try simp at hs2); (try have z02 : w.heap.size < w2.heap.size := (by omega)); (try have z12 : w.heap.size + 1 < w2.heap.size := (by omega)); (try have z22 : w.heap.size + 1 + 1 < w2.heap.size := (by omega)); (try have z32 : w.heap.size + 1 + 1 + 1 < w2.heap.size := (by omega)); (try have z42 : w.heap.size + 1 + 1 + 1 + 1 < w2.heap.size := (by omega)); clear hs2 hb; skip)
      | (go_at_call 27; refine (HC.out _ (by repeat (first | exact Below.refl _ _ | apply below_alloc | apply pw_below_drewN | apply below_drew1 | apply below_drew | (refine Below.setCell ?_ (by (try simp); (try omega)) _) | (refine below_to ?_ HB6.out) | (refine below_to ?_ HB5.out) | (refine below_to ?_ HB4.out) | (refine below_to ?_ HB3.out) | (refine below_to ?_ HB2.out) | (refine below_to ?_ HB1.out)))).mono ?_; rintro e w3 ⟨o, rfl, hown, hb⟩; have HOK := Aside0.mk (hown.ok HL.out.toLens); clear hown; have HB3 := Aside0.mk hb; obtain ⟨qc3, qf3⟩ := bcell hb; have hs3 := hb.size; (try simp at hs3); (try have z03 : w.heap.size < w3.heap.size := (by omega)); (try have z13 : w.heap.size + 1 < w3.heap.size := (by omega)); (try have z23 : w.heap.size + 1 + 1 < w3.heap.size := (by omega)); (try have z33 : w.heap.size + 1 + 1 + 1 < w3.heap.size := (by omega)); (try have z43 : w.heap.size + 1 + 1 + 1 + 1 < w3.heap.size := (by omega)); clear hs3 hb)
      | (go_at_call 34; refine (tasks_any o.pv p _ HL.out.toLens HOK.out LAW.out.prio LAW.out.nt).mono ?_; rintro e w5 ⟨A5, c5, rfl, hle5, hC5, hb, hown5⟩; have HC5 := Aside0.mk hC5; clear hC5 hown5 hle5; have HB5 := Aside0.mk hb; obtain ⟨qc5, qf5⟩ := bcell hb; have hs5 := hb.size; (try simp at hs5); (try have z05 : w.heap.size < w5.heap.size := (by omega)); (try have z15 : w.heap.size + 1 < w5.heap.size := (by omega)); (try have z25 : w.heap.size + 1 + 1 < w5.heap.size := (by omega)); (try have z35 : w.heap.size + 1 + 1 + 1 < w5.heap.size := (by omega)); (try have z45 : w.heap.size + 1 + 1 + 1 + 1 < w5.heap.size := (by omega)); clear hs5 hb))
    have HB5w : Aside0 (Below w.heap.size w w5) := ⟨(by repeat (first | exact Below.refl _ _ | apply below_alloc | apply pw_below_drewN | apply below_drew1 | apply below_drew | (refine Below.setCell ?_ (by (try simp); (try omega)) _) | (refine below_to ?_ HB6.out) | (refine below_to ?_ HB5.out) | (refine below_to ?_ HB4.out) | (refine below_to ?_ HB3.out) | (refine below_to ?_ HB2.out) | (refine below_to ?_ HB1.out)))⟩
    have HTL := Aside0.mk (tasksS_length p)
    have HSP := Aside0.mk (tasksS_spec p)
    have hT13 : (tasksS p).length ≤ 12 := by
      rw [HTL.out]
      have := LAW.out.nt
      omega
    have HPB : Aside0 (w5.heap[w.heap.size]? = some (.cells #[.int .i64 p.Dims, .int .i64 p.Time.N, .slice q.a1 p.Time.Cells.length q.c1, .int .i64 p.Dist.N, .slice q.a2 p.Dist.Cells.length q.c2, .slice q.a3 p.Vehicles.length q.c3, .slice q.a4 p.Jobs.length q.c4, .slice q.a5 p.Shipments.length q.c5] 29 (0, 0))) := ⟨by
      have h1 := HB5.out.block w.heap.size (by omega)
      have h2 := HB3.out.block w.heap.size (by omega)
      have h3 := HB2.out.block w.heap.size (by omega)
      have h4 := HB1.out.block w.heap.size (by simp)
      rw [h1, h2, h3, h4]
      exact blk_new _ _⟩
    generalize tasksS p = ts at *
    clear qc1 qf1 qc2 qf2 qc3 qf3 qc5 qf5 HB1 HB2 HB3 HB5
    have HND := Aside0.mk (RT_nodup HSP.out.2)
    go_loopw [5, 26] (fun v i wr => ∃ (k : Nat) (L : Int), k ≤ ts.length ∧ i = .int .i64 k ∧ v = .int .i64 L ∧ Aside0 (∀ j (h : j < ts.length), k ≤ j → prioS p ts[j] ≤ L) ∧ Aside0 (SetAt taskV wr w5.heap.size (ts.take k)) ∧ Aside0 (Below w5.heap.size w5 wr)) (fun _ i _ => ts.length - (intOf i).toNat)
    case atStart =>
      refine ⟨0, 101, Nat.zero_le _, rfl, rfl, ⟨fun j h _ => ?_⟩, ⟨#[], 0, blk_is rfl, rfl, fun e he => (by cases he)⟩, ⟨below_alloc (Below.refl _ _) _⟩⟩
      have := (LAW.out.prio ts[j]).2
      omega
    case round =>
      obtain ⟨k, L, hk, rfl, rfl, HPL, HST, HW⟩ := hrel
      have HPBr : Aside0 (wr.heap[w.heap.size]? = some (.cells #[.int .i64 p.Dims, .int .i64 p.Time.N, .slice q.a1 p.Time.Cells.length q.c1, .int .i64 p.Dist.N, .slice q.a2 p.Dist.Cells.length q.c2, .slice q.a3 p.Vehicles.length q.c3, .slice q.a4 p.Jobs.length q.c4, .slice q.a5 p.Shipments.length q.c5] 29 (0, 0))) := ⟨(HW.out.block w.heap.size (by omega)).trans HPB.out⟩
      have HBr : Aside0 (Below w.heap.size w wr) := ⟨below_to HB5w.out HW.out⟩
      have hbsz := HST.out.lt
      by_cases hlt : k < ts.length
      · obtain ⟨ad, ea, x0, x1⟩ := atNTask (Kd.C_below HC5.out HW.out) k hlt
        subst ea
        obtain ⟨wo, rfl⟩ : ∃ wo : World, wo = wr := ⟨_, rfl⟩
        have r0 : (0 : Int) ≤ (k : Int) := by omega
        have r1 : (k : Int) < (ts.length : Int) := by omega
        have hth := thereB_all (HSP.out.1.mem_iff.1 (List.getElem_mem hlt))
        have hpr := HPL.out k hlt (Nat.le_refl _)
        have dpr : decide (L < (factsS p ts[k]).1) = false := decide_eq_false (by simpa [prioS] using hpr)
        have hb0 := blk_alloc HPBr.out (.cells #[.bool ts[k].Ship, .int .i64 ts[k].Item] 48 (0, 0))
        have hpa0 := blk_cell hb0 0
        have hpa1 := blk_cell hb0 1
        have hpa2 := blk_cell hb0 2
        have hpa3 := blk_cell hb0 3
        have hpa4 := blk_cell hb0 4
        have hpa5 := blk_cell hb0 5
        have hpa6 := blk_cell hb0 6
        have hpa7 := blk_cell hb0 7
        simp only [List.getElem?_toArray, List.getElem?_cons_succ, List.getElem?_cons_zero] at hpa0 hpa1 hpa2 hpa3 hpa4 hpa5 hpa6 hpa7
        have hsd : 0 < 1 := by decide
        have hwb : Aside0 (Below w.heap.size w (wo.alloc (.cells #[.bool ts[k].Ship, .int .i64 ts[k].Item] 48))) := ⟨below_alloc HBr.out _⟩
        have hszt : (wo.alloc (.cells #[.bool ts[k].Ship, .int .i64 ts[k].Item] 48)).heap.size = wo.heap.size + 1 := by simp
        have HB0 := Aside0.mk hb0
        have HT0 : Aside0 ((wo.alloc (.cells #[.bool ts[k].Ship, .int .i64 ts[k].Item] 48)).heap[wo.heap.size]? = some (.cells #[.bool ts[k].Ship, .int .i64 ts[k].Item] 48 (0, 0))) := ⟨blk_new _ _⟩
        have HS0 : Aside0 (SetAt taskV (wo.alloc (.cells #[.bool ts[k].Ship, .int .i64 ts[k].Item] 48)) w5.heap.size (ts.take k)) := ⟨HST.out.keep (below_alloc (Below.refl wo.heap.size wo) _ |>.block _ hbsz)⟩
        have hfr := fresh_take HND.out k hlt
        have hw5 : w.heap.size < wo.heap.size := by omega
        clear hb0 hpr
        go_wp2_with (first
          | (go_at_call 32; refine (HPR.out ts[k] _ hwb.out).mono ?_; rintro e w6 ⟨rfl, hb⟩; have hp6 := (hb.block w.heap.size (by omega)).trans HB0.out; have ht6 := (hb.block wo.heap.size (by omega)).trans HT0.out; have hs6 := HS0.out.keep (hb.block w5.heap.size (by omega)); have hlk := hs6.lookup keyTask Try.underlying62 (fun _ => rfl) ts[k]; rw [hfr] at hlk; have HS6 := Aside0.mk hs6; have HB6 := Aside0.mk hb; have h6s := hb.size; rw [hszt] at h6s; have pb0 := blk_cell hp6 0; have pb1 := blk_cell hp6 1; have pb2 := blk_cell hp6 2; have pb3 := blk_cell hp6 3; have pb4 := blk_cell hp6 4; have pb5 := blk_cell hp6 5; have pb6 := blk_cell hp6 6; have pb7 := blk_cell hp6 7; simp only [List.getElem?_toArray, List.getElem?_cons_succ, List.getElem?_cons_zero] at pb0 pb1 pb2 pb3 pb4 pb5 pb6 pb7; have tb0 := blk_cell ht6 0; have tb1 := blk_cell ht6 1; simp only [List.getElem?_toArray, List.getElem?_cons_succ, List.getElem?_cons_zero] at tb0 tb1; have HP6 := Aside0.mk hp6; have HT6 := Aside0.mk ht6; clear hp6 ht6 hs6 hb hpa0 hpa1 hpa2 hpa3 hpa4 hpa5 hpa6 hpa7))
        refine (there_any q p ts[k] _ HL.out.toLens).mono ?_
        rw [hth]
        rintro e w7 ⟨rfl, hb⟩
        have hp7 := (hb.block w.heap.size (by omega)).trans HP6.out
        have ht7 := (hb.block wo.heap.size (by omega)).trans HT6.out
        have hs7 := HS6.out.keep (hb.block w5.heap.size (by omega))
        obtain ⟨w8, hup, hs8, hsz8, hbl8, ho8, htp8, hou8⟩ := hs7.update keyTask Try.underlying62 ts[k] hfr
        have HP8 := Aside0.mk ((hbl8 w.heap.size (by omega)).trans hp7)
        have HT8 := Aside0.mk ((hbl8 wo.heap.size (by omega)).trans ht7)
        have HS8 := Aside0.mk hs8
        have h7s := hb.size
        have HB8 : Aside0 (Below w5.heap.size wo w8) := ⟨⟨ho8.trans (hb.os.trans HB6.out.os), htp8.trans (hb.tape.trans HB6.out.tape), hou8.trans (hb.output.trans HB6.out.output), by omega, fun i hi => (hbl8 i (by omega)).trans ((hb.block i (by omega)).trans ((HB6.out.block i (by omega)).trans ((below_alloc (Below.refl wo.heap.size wo) _).block i (by omega))))⟩⟩
        have pc0 := blk_cell hp7 0; have pc1 := blk_cell hp7 1; have pc2 := blk_cell hp7 2; have pc3 := blk_cell hp7 3; have pc4 := blk_cell hp7 4; have pc5 := blk_cell hp7 5; have pc6 := blk_cell hp7 6; have pc7 := blk_cell hp7 7; simp only [List.getElem?_toArray, List.getElem?_cons_succ, List.getElem?_cons_zero] at pc0 pc1 pc2 pc3 pc4 pc5 pc6 pc7
        have tc0 := blk_cell ht7 0; have tc1 := blk_cell ht7 1; simp only [List.getElem?_toArray, List.getElem?_cons_succ, List.getElem?_cons_zero] at tc0 tc1
        have z8 := HT8.out
        have td0 := blk_cell z8 0; have td1 := blk_cell z8 1; simp only [List.getElem?_toArray, List.getElem?_cons_succ, List.getElem?_cons_zero] at td0 td1
        clear hp7 ht7 hs7 hb hs8 ho8 htp8 hou8 hbl8 hlk z8
        go_wp2_with (go_at_call 40; refine (visits_any ts[k] _).mono ?_; rintro e w9 ⟨A9, c9, rfl, hle9, hC9, hb⟩; have HC9 := Aside0.mk hC9; have HB9 := Aside0.mk hb; have h9s := hb.size; have HP9 := Aside0.mk ((hb.block w.heap.size (by omega)).trans HP8.out); have HT9 := Aside0.mk ((hb.block wo.heap.size (by omega)).trans HT8.out); have HS9 := Aside0.mk (HS8.out.keep (hb.block w5.heap.size (by omega))); clear hb hC9 hle9)
        have hnv : (visitsS ts[k]).length ≤ 2 := by unfold visitsS; split <;> simp
        have HB9o : Aside0 (Below w5.heap.size wo w9) := ⟨⟨HB9.out.os.trans HB8.out.os, HB9.out.tape.trans HB8.out.tape, HB9.out.output.trans HB8.out.output, by omega, fun i hi => (HB9.out.block i (by omega)).trans (HB8.out.block i hi)⟩⟩
        have HB9w : Aside0 (Below w.heap.size w w9) := ⟨⟨HB9o.out.os.trans HBr.out.os, HB9o.out.tape.trans HBr.out.tape, HB9o.out.output.trans HBr.out.output, by have := HBr.out.size; omega, fun i hi => (HB9o.out.block i (by omega)).trans (HBr.out.block i hi)⟩⟩
        have HTH := Aside0.mk hth
        have HPK := Aside0.mk (show ∀ j (h : j < ts.length), k + 1 ≤ j → prioS p ts[j] ≤ (factsS p ts[k]).1 from fun j h hj => by
          rcases (List.pairwise_iff_getElem.1 HSP.out.2) k j hlt h (by omega) with h1 | ⟨h1, _⟩
          · exact Int.le_of_lt h1
          · exact Int.le_of_eq h1.symm)
        clear hup HS8 HP8 HT8 HB8 HB9 HS6 HP6 HT6 HB6 HS0 HT0 HB0 td0 td1 tc0 tc1 tb0 tb1 pb0 pb1 pb2 pb3 pb4 pb5 pb6 pb7 pc0 pc1 pc2 pc3 pc4 pc5 pc6 pc7 x0 x1 dpr hth hfr
        go_loopw [53] (fun i wr => ∃ m : Nat, m ≤ (visitsS ts[k]).length ∧ i = .int .i64 m ∧ Aside0 (Below w9.heap.size w9 wr)) (fun i _ => (visitsS ts[k]).length - (intOf i).toNat)
        case atStart => exact ⟨0, Nat.zero_le _, rfl, ⟨Below.refl _ _⟩⟩
        case round =>
          obtain ⟨m, hm, rfl, HW2⟩ := hrel
          by_cases hml : m < (visitsS ts[k]).length
          · obtain ⟨hv1, hv2, hv3, hv4⟩ := visits_of p LAW.out ts[k] HTH.out m hml
            obtain ⟨adv, eav, y0, y1⟩ := atNVisit (Kd.C_below HC9.out HW2.out) m hml
            subst eav
            have s0 : (0 : Int) ≤ (m : Int) := by omega
            have s1 : (m : Int) < ((visitsS ts[k]).length : Int) := by omega
            generalize (visitsS ts[k])[m] = v at *
            have HE := Aside0.mk hv1
            have HB10 : Aside0 (Below w.heap.size w (wr.alloc (.cells #[.int .i64 v.Kind, .int .i64 v.Item] 57))) := ⟨below_alloc (below_to HB9w.out HW2.out) _⟩
            have HP10 : Aside0 ((wr.alloc (.cells #[.int .i64 v.Kind, .int .i64 v.Item] 57)).heap[w.heap.size]? = _) := ⟨blk_alloc ((HW2.out.block w.heap.size (by omega)).trans HP9.out) _⟩
            have HT10 : Aside0 ((wr.alloc (.cells #[.int .i64 v.Kind, .int .i64 v.Item] 57)).heap[wo.heap.size]? = _) := ⟨blk_alloc ((HW2.out.block wo.heap.size (by omega)).trans HT9.out) _⟩
            have HV10 : Aside0 ((wr.alloc (.cells #[.int .i64 v.Kind, .int .i64 v.Item] 57)).heap[wr.heap.size]? = _) := ⟨blk_new _ _⟩
            have hwrs : (wr.alloc (.cells #[.int .i64 v.Kind, .int .i64 v.Item] 57)).heap.size = wr.heap.size + 1 := by simp
            have hw9r := HW2.out.size
            clear hv1
            go_wp2_with (go_at_call 41; refine (of_any v _).mono ?_; rw [HE.out]; rintro e w10 ⟨rfl, hb⟩; have h10s := hb.size; have HB11 := Aside0.mk (below_to HB10.out hb); have HB10r := Aside0.mk (below_to (below_alloc (Below.refl wr.heap.size wr) _) hb); have hp11 := blk_alloc ((hb.block w.heap.size (by omega)).trans HP10.out) (.cells #[.bool ts[k].Ship, .int .i64 ts[k].Item] 48 (0, 0)); have hv11 := blk_alloc ((hb.block wr.heap.size (by omega)).trans HV10.out) (.cells #[.bool ts[k].Ship, .int .i64 ts[k].Item] 48 (0, 0)); have HT11 := Aside0.mk (blk_alloc ((hb.block wo.heap.size (by omega)).trans HT10.out) (.cells #[.bool ts[k].Ship, .int .i64 ts[k].Item] 48 (0, 0))); rw [hwrs] at h10s; have HP11 := Aside0.mk hp11; have pd0 := blk_cell hp11 0; have pd1 := blk_cell hp11 1; have pd2 := blk_cell hp11 2; have pd3 := blk_cell hp11 3; have pd4 := blk_cell hp11 4; have pd5 := blk_cell hp11 5; have pd6 := blk_cell hp11 6; have pd7 := blk_cell hp11 7; simp only [List.getElem?_toArray, List.getElem?_cons_succ, List.getElem?_cons_zero] at pd0 pd1 pd2 pd3 pd4 pd5 pd6 pd7; have ve0 := blk_cell hv11 0; have ve1 := blk_cell hv11 1; simp only [List.getElem?_toArray, List.getElem?_cons_succ, List.getElem?_cons_zero] at ve0 ve1; clear hb hp11 hv11)
            have hs10 : (w10.alloc (.cells #[.bool ts[k].Ship, .int .i64 ts[k].Item] 48)).heap.size = w10.heap.size + 1 := by simp
            refine (HMS.out LAW.out v _ (below_alloc HB11.out _)).mono ?_
            rw [show stopS p v = ((stopS p v).1, true) from by rw [← hv2]]
            rintro e w11 ⟨A11, c11, rfl, hle11, hb, hrow11⟩
            have h11s := hb.size
            rw [hs10] at h11s
            have HF11 := Aside0.mk (below_to (below_alloc HB10r.out (.cells #[.bool ts[k].Ship, .int .i64 ts[k].Item] 48)) hb)
            have hp12 := blk_alloc ((hb.block w.heap.size (by omega)).trans HP11.out) (.cells #[.int .i64 (stopS p v).1.Place, .int .i64 (stopS p v).1.Service, .slice A11 (stopS p v).1.Windows.length c11] 43)
            have ht12 := blk_alloc ((hb.block wo.heap.size (by omega)).trans HT11.out) (.cells #[.int .i64 (stopS p v).1.Place, .int .i64 (stopS p v).1.Service, .slice A11 (stopS p v).1.Windows.length c11] 43)
            have ho12 := blk_alloc ((hb.block w10.heap.size (by omega)).trans (blk_new w10 _)) (.cells #[.int .i64 (stopS p v).1.Place, .int .i64 (stopS p v).1.Service, .slice A11 (stopS p v).1.Windows.length c11] 43)
            have pf0 := blk_cell hp12 0
            have pf1 := blk_cell hp12 1
            have pf2 := blk_cell hp12 2
            have pf3 := blk_cell hp12 3
            have pf4 := blk_cell hp12 4
            have pf5 := blk_cell hp12 5
            have pf6 := blk_cell hp12 6
            have pf7 := blk_cell hp12 7
            simp only [List.getElem?_toArray, List.getElem?_cons_succ, List.getElem?_cons_zero] at pf0 pf1 pf2 pf3 pf4 pf5 pf6 pf7
            have tf0 := blk_cell ht12 0
            have tf1 := blk_cell ht12 1
            simp only [List.getElem?_toArray, List.getElem?_cons_succ, List.getElem?_cons_zero] at tf0 tf1
            have tg0 := blk_cell ho12 0
            have tg1 := blk_cell ho12 1
            simp only [List.getElem?_toArray, List.getElem?_cons_succ, List.getElem?_cons_zero] at tg0 tg1
            have d1 : decide ((stopS p v).1.Place < 0) = false := decide_eq_false (by omega)
            have d2 : decide (p.Time.N ≤ (stopS p v).1.Place) = false := decide_eq_false (by omega)
            clear hp12 ht12 ho12 hrow11 hle11 hb hv3 hv4 pd0 pd1 pd2 pd3 pd4 pd5 pd6 pd7 ve0 ve1
            go_wp2
            go_roundw
            case rel => exact ⟨m + 1, by omega, by go_num, ⟨below_to HW2.out (below_alloc HF11.out _)⟩⟩
            case measure => simp [intOf]; omega
          · obtain rfl : m = (visitsS ts[k]).length := by omega
            go_wp2
            go_roundw
            case rel =>
              refine ⟨k + 1, _, by omega, by go_num, rfl, HPK, ⟨?_⟩, ⟨?_⟩⟩
              · have h := HS9.out.keep (HW2.out.block w5.heap.size (by omega))
                rw [List.take_succ_eq_append_getElem hlt]
                exact h
              · have h1 : Below w5.heap.size w5 w9 := ⟨HB9o.out.os.trans HW.out.os, HB9o.out.tape.trans HW.out.tape, HB9o.out.output.trans HW.out.output, by have := HW.out.size; omega, fun i hi => (HB9o.out.block i hi).trans (HW.out.block i hi)⟩
                exact below_to h1 HW2.out
            case measure => simp [intOf]; omega
      · obtain rfl : k = ts.length := by omega
        have hlen : (ts.length : Int) = (p.Jobs.length : Int) + (p.Shipments.length : Int) := by have := HTL.out; omega
        have hb0 := HPBr.out
        have pa0 := blk_cell hb0 0
        have pa1 := blk_cell hb0 1
        have pa2 := blk_cell hb0 2
        have pa3 := blk_cell hb0 3
        have pa4 := blk_cell hb0 4
        have pa5 := blk_cell hb0 5
        have pa6 := blk_cell hb0 6
        have pa7 := blk_cell hb0 7
        simp only [List.getElem?_toArray, List.getElem?_cons_succ, List.getElem?_cons_zero] at pa0 pa1 pa2 pa3 pa4 pa5 pa6 pa7
        clear hb0
        go_wp2
        go_ret
        exact ⟨rfl, HBr.out⟩
  · have HCF : Aside0 (decide (checkS p = 0) = false) := ⟨by simp [hc]⟩
    clear hc
    go_enter Try.func7, Try.ntmps7
    go_wp2_with (first
      | (go_at_call 25; refine (awake12_any _).mono ?_; skip; rintro e w1 ⟨rfl, hb⟩; have HB1 := Aside0.mk hb; obtain ⟨qc1, qf1⟩ := bcell hb; have hs1 := hb.size; (try simp at hs1); (try have z01 : w.heap.size < w1.heap.size := (by omega)); (try have z11 : w.heap.size + 1 < w1.heap.size := (by omega)); (try have z21 : w.heap.size + 1 + 1 < w1.heap.size := (by omega)); (try have z31 : w.heap.size + 1 + 1 + 1 < w1.heap.size := (by omega)); (try have z41 : w.heap.size + 1 + 1 + 1 + 1 < w1.heap.size := (by omega)); clear hs1 hb; skip)
      | (go_at_call 29; refine (HLW.out _ (by repeat (first | exact Below.refl _ _ | apply below_alloc | apply pw_below_drewN | apply below_drew1 | apply below_drew | (refine Below.setCell ?_ (by (try simp); (try omega)) _) | (refine below_to ?_ HB6.out) | (refine below_to ?_ HB5.out) | (refine below_to ?_ HB4.out) | (refine below_to ?_ HB3.out) | (refine below_to ?_ HB2.out) | (refine below_to ?_ HB1.out)))).mono ?_; rw [HCF.out]; rintro e w2 ⟨rfl, hb⟩; have HB2 := Aside0.mk hb; obtain ⟨qc2, qf2⟩ := bcell hb; have hs2 := hb.size; (try simp at hs2); (try have z02 : w.heap.size < w2.heap.size := (by omega)); (try have z12 : w.heap.size + 1 < w2.heap.size := (by omega)); (try have z22 : w.heap.size + 1 + 1 < w2.heap.size := (by omega)); (try have z32 : w.heap.size + 1 + 1 + 1 < w2.heap.size := (by omega)); (try have z42 : w.heap.size + 1 + 1 + 1 + 1 < w2.heap.size := (by omega)); clear hs2 hb; skip))
    go_ret
    exact ⟨rfl, (by repeat (first | exact Below.refl _ _ | apply below_alloc | apply pw_below_drewN | apply below_drew1 | apply below_drew | (refine Below.setCell ?_ (by (try simp); (try omega)) _) | (refine below_to ?_ HB6.out) | (refine below_to ?_ HB5.out) | (refine below_to ?_ HB4.out) | (refine below_to ?_ HB3.out) | (refine below_to ?_ HB2.out) | (refine below_to ?_ HB1.out)))⟩
end Go.Proofs.Ytemjpgmfignhnaa
