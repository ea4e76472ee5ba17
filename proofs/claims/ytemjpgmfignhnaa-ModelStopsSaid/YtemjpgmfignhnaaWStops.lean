/- The walk of ModelStops: it answers true.
Conditions: lists no longer than memory allows. -/
import Derived.Test.YtemjpgmfignhnaaA12
import Derived.Test.YtemjpgmfignhnaaCp
import Derived.Test.YtemjpgmfignhnaaGoodOf
import Derived.Test.YtemjpgmfignhnaaM0
import Derived.Test.YtemjpgmfignhnaaM4
import Derived.Test.YtemjpgmfignhnaaM3
namespace Go.Proofs.Ytemjpgmfignhnaa
open Go.RowKit Go.Proofs.YtemjpgmfignhnaaW.PrintWords Go.Proofs.YtemjpgmfignhnaaW.PrintLast Go.Proofs.YtemjpgmfignhnaaW.PrintMore
set_option linter.unusedVariables false
set_option linter.unusedSimpArgs false
attribute [local go_sem] cell_growBy Option.some_or
set_option maxHeartbeats 16000000 in
set_option maxRecDepth 100000 in
theorem modelStops_any (q : PV) (p : TProblem) (v : TVisit) (w : World) (hg : GProblem p) (hq : q.Ok p w) (_ : GVisit v) :
    Calls Try.prog 6 #[q.val p, .agg #[.int .i64 v.Kind, .int .i64 v.Item]] w fun e w' => e = .returned (.bool true) ∧ Below w.heap.size w w' := by
  have HQ := Aside0.mk hq
  have HG := Aside0.mk hg
  have HL := Aside0.mk (good_of hg)
  have HC := Aside0.mk (fun W (hb : Below w.heap.size w W) => copied_any q p W (hq.below hb) hg)
  have HLW := Aside0.mk (fun W (hb : Below w.heap.size w W) => lawful_any q p W HL.out (hq.below hb))
  have HSt := Aside0.mk (fun W (hb : Below w.heap.size w W) => refStop_any q p v W HL.out.toLens (hq.below hb))
  clear hq hg
  by_cases hc : checkS p = 0
  · have LAW := Aside0.mk (law_of hc)
    have HCT : Aside0 (decide (checkS p = 0) = true) := ⟨by simp [hc]⟩
    have HC0 := Aside0.mk hc
    have hs4 := Aside0.mk (LAW.out.stopLen' v)
    have hMS := Aside0.mk (fun (o : OV) W (hok : o.pv.Ok p W) => modStop_any o.pv p v W HL.out.toLens hok (fun _ => by
      have := hs4.out
      refine ⟨by omega, ?_⟩
      unfold maxLen
      omega))
    clear hc
    obtain ⟨vk, vi⟩ := v
    unfold PV.val at HC HSt hMS HLW ⊢
    go_enter Try.func6, Try.ntmps6
    go_wp2_with (first
      | (go_at_call 25; refine (awake12_any _).mono ?_; skip; rintro e w1 ⟨rfl, hb⟩; have HB1 := Aside0.mk hb; obtain ⟨qc1, qf1⟩ := bcell hb; have hs1 := hb.size; (try simp at hs1); (try have z01 : w.heap.size < w1.heap.size := (by omega)); (try have z11 : w.heap.size + 1 < w1.heap.size := (by omega)); (try have z21 : w.heap.size + 1 + 1 < w1.heap.size := (by omega)); (try have z31 : w.heap.size + 1 + 1 + 1 < w1.heap.size := (by omega)); (try have z41 : w.heap.size + 1 + 1 + 1 + 1 < w1.heap.size := (by omega)); clear hs1 hb; skip)
      | (go_at_call 29; refine (HLW.out _ (by repeat (first | exact Below.refl _ _ | apply below_alloc | apply pw_below_drewN | apply below_drew1 | apply below_drew | (refine Below.setCell ?_ (by (try simp); (try omega)) _) | (refine below_to ?_ HB6.out) | (refine below_to ?_ HB5.out) | (refine below_to ?_ HB4.out) | (refine below_to ?_ HB3.out) | (refine below_to ?_ HB2.out) | (refine below_to ?_ HB1.out)))).mono ?_; rw [HCT.out]; rintro e w2 ⟨rfl, hb⟩; have HB2 := Aside0.mk hb; obtain ⟨qc2, qf2⟩ := bcell hb; have hs2 := hb.size; (try simp at hs2); (try have z02 : w.heap.size < w2.heap.size := (by omega)); (try have z12 : w.heap.size + 1 < w2.heap.size := (by omega)); (try have z22 : w.heap.size + 1 + 1 < w2.heap.size := (by omega)); (try have z32 : w.heap.size + 1 + 1 + 1 < w2.heap.size := (by omega)); (try have z42 : w.heap.size + 1 + 1 + 1 + 1 < w2.heap.size := (by omega)); clear hs2 hb; skip)
      | (go_at_call 27; refine (HC.out _ (by repeat (first | exact Below.refl _ _ | apply below_alloc | apply pw_below_drewN | apply below_drew1 | apply below_drew | (refine Below.setCell ?_ (by (try simp); (try omega)) _) | (refine below_to ?_ HB6.out) | (refine below_to ?_ HB5.out) | (refine below_to ?_ HB4.out) | (refine below_to ?_ HB3.out) | (refine below_to ?_ HB2.out) | (refine below_to ?_ HB1.out)))).mono ?_; rintro e w3 ⟨o, rfl, hown, hb⟩; have HOK := Aside0.mk (hown.ok HL.out.toLens); clear hown; have HB3 := Aside0.mk hb; obtain ⟨qc3, qf3⟩ := bcell hb; have hs3 := hb.size; (try simp at hs3); (try have z03 : w.heap.size < w3.heap.size := (by omega)); (try have z13 : w.heap.size + 1 < w3.heap.size := (by omega)); (try have z23 : w.heap.size + 1 + 1 < w3.heap.size := (by omega)); (try have z33 : w.heap.size + 1 + 1 + 1 < w3.heap.size := (by omega)); (try have z43 : w.heap.size + 1 + 1 + 1 + 1 < w3.heap.size := (by omega)); clear hs3 hb)
      | (go_at_call 36; refine (hMS.out o _ (HOK.out.below (by repeat (first | exact Below.refl _ _ | apply below_alloc | apply pw_below_drewN | apply below_drew1 | apply below_drew | (refine Below.setCell ?_ (by (try simp); (try omega)) _) | (refine below_to ?_ HB16.out) | (refine below_to ?_ HB15.out) | (refine below_to ?_ HB14.out) | (refine below_to ?_ HB13.out) | (refine below_to ?_ HB12.out) | (refine below_to ?_ HB11.out) | (refine below_to ?_ HB10.out) | (refine below_to ?_ HB9.out) | (refine below_to ?_ HB8.out) | (refine below_to ?_ HB7.out) | (refine below_to ?_ HB6.out) | (refine below_to ?_ HB5.out) | (refine below_to ?_ HB4.out) | (refine below_to ?_ HB3.out) | (refine below_to ?_ HB2.out) | (refine below_to ?_ HB1.out))))).mono ?_; rintro e w4 ⟨A4, c4, rfl, hle4, hb, hrow4⟩; have HR4 := Aside0.mk hrow4; clear hrow4 hle4; have HB4 := Aside0.mk hb; obtain ⟨qc4, qf4⟩ := bcell hb; have hs4 := hb.size; (try simp at hs4); (try have z04 : w.heap.size < w4.heap.size := (by omega)); (try have z14 : w.heap.size + 1 < w4.heap.size := (by omega)); (try have z24 : w.heap.size + 1 + 1 < w4.heap.size := (by omega)); (try have z34 : w.heap.size + 1 + 1 + 1 < w4.heap.size := (by omega)); (try have z44 : w.heap.size + 1 + 1 + 1 + 1 < w4.heap.size := (by omega)); clear hs4 hb; have y4_3 : w3.heap.size < w4.heap.size := (by have := HB4.out.size; (try simp at this); omega)))
    have HA4 : Aside0 (∀ a, A4 = some a → w3.heap.size + 1 ≤ a.block ∧ a.block < w4.heap.size ∧ ∃ cur, w4.heap[a.block]? = some (.cells cur 40 (0, 0)) ∧ (stopS p ⟨vk, vi⟩).1.Windows.length * 2 ≤ cur.size ∧ a = ⟨a.block, 0, none⟩) := ⟨fun a ha => by
      rcases HR4.out with ⟨h0, h1⟩ | ⟨g, h1, hg, hrow⟩
      · rw [h1] at ha
        cases ha
      · rw [h1] at ha
        obtain rfl := Option.some.inj ha
        have hl := hrow.lt
        obtain ⟨cur, inner, hc, ht, hr⟩ := hrow
        refine ⟨by simpa using hg, hl, cur, hc, ?_, rfl⟩
        have h2 := hr.1
        rw [← ht, List.length_take] at h2
        have h3 : kWindow.sz = 2 := rfl
        rw [h3] at h2
        simp at h2
        omega⟩
    have HN4 : Aside0 (0 < (stopS p ⟨vk, vi⟩).1.Windows.length → ∃ a, A4 = some a) := ⟨fun hn => by
      rcases HR4.out with ⟨h0, h1⟩ | ⟨g, h1, hg, hrow⟩
      · rw [h0] at hn
        cases hn
      · exact ⟨_, h1⟩⟩
    clear HR4
    go_loopw [31] (fun i wr => ∃ k : Nat, k ≤ (stopS p ⟨vk, vi⟩).1.Windows.length ∧ i = .int .i64 k ∧ Aside0 (KeepA A4 (w4.alloc (.cells #[.int .i64 (stopS p ⟨vk, vi⟩).1.Place, .int .i64 (stopS p ⟨vk, vi⟩).1.Service, .slice A4 (stopS p ⟨vk, vi⟩).1.Windows.length c4] 43)) wr) ∧ Aside0 (∀ a, A4 = some a → ∃ cur, wr.heap[a.block]? = some (.cells cur 40 (0, 0)) ∧ (stopS p ⟨vk, vi⟩).1.Windows.length * 2 ≤ cur.size)) (fun i _ => (stopS p ⟨vk, vi⟩).1.Windows.length - (intOf i).toNat)
    case atStart =>
      exact ⟨0, Nat.zero_le _, rfl, ⟨KeepA.refl _ _⟩, ⟨fun a ha => by
        obtain ⟨_, _, cur, hc, hn, _⟩ := HA4.out a ha
        exact ⟨cur, blk_alloc hc _, hn⟩⟩⟩
    case round =>
      obtain ⟨k, hk, rfl, HK, HCU⟩ := hrel
      have habx : wr.heap[w4.heap.size]? = some (.cells #[.int .i64 (stopS p ⟨vk, vi⟩).1.Place, .int .i64 (stopS p ⟨vk, vi⟩).1.Service, .slice A4 (stopS p ⟨vk, vi⟩).1.Windows.length c4] 43 (0, 0)) :=
        (HK.out.block w4.heap.size (by simp) (fun a ha => by have := (HA4.out a ha).2.1; omega)).trans (blk_new _ _)
      by_cases hlt : k < (stopS p ⟨vk, vi⟩).1.Windows.length
      · obtain ⟨a, rfl⟩ := HN4.out (by omega)
        obtain ⟨g1, g2, _, _, _, g3⟩ := HA4.out a rfl
        obtain ⟨cur, hc, hn⟩ := HCU.out a rfl
        generalize a.block = g at *
        subst g3
        have c0 : wr.cell? ⟨g, k * 2, none⟩ = some cur[k * 2] := by rw [blk_cell hc]; exact Array.getElem?_eq_getElem (by omega)
        have c1 : wr.cell? ⟨g, k * 2 + 1, none⟩ = some cur[k * 2 + 1] := by rw [blk_cell hc]; exact Array.getElem?_eq_getElem (by omega)
        have hf := fun i => blk_frozen hc i
        have b2 := blk_cell habx 2
        simp at b2
        have r0 : (0 : Int) ≤ (k : Int) := by omega
        have r1 : (k : Int) < ((stopS p ⟨vk, vi⟩).1.Windows.length : Int) := by omega
        have HCS := Aside0.mk hc
        have hs4' := hs4.out
        clear hc habx
        go_wp2
        go_roundw
        case rel => exact ⟨k + 1, by omega, by go_num, ⟨(HK.out.set _ _).set _ _⟩, ⟨fun a ha => by obtain rfl := Option.some.inj ha; exact ⟨_, blk_set (blk_set HCS.out _ _) _ _, by simpa using hn⟩⟩⟩
        case measure => simp [intOf]; omega
      · obtain rfl : k = (stopS p ⟨vk, vi⟩).1.Windows.length := by omega
        obtain ⟨w5, rfl⟩ : ∃ w5 : World, w5 = wr := ⟨_, rfl⟩
        have hb := HK.out.over (below_alloc HB4.out _) (fun a ha => by simpa using (HA4.out a ha).1)
        clear HK HCU habx hlt hk
        have HB5 := Aside0.mk hb; obtain ⟨qc5, qf5⟩ := bcell hb; have hs5 := hb.size; (try simp at hs5); (try have z05 : w.heap.size < w5.heap.size := (by omega)); (try have z15 : w.heap.size + 1 < w5.heap.size := (by omega)); (try have z25 : w.heap.size + 1 + 1 < w5.heap.size := (by omega)); (try have z35 : w.heap.size + 1 + 1 + 1 < w5.heap.size := (by omega)); (try have z45 : w.heap.size + 1 + 1 + 1 + 1 < w5.heap.size := (by omega)); clear hs5 hb
        have y5_3 : w3.heap.size < w5.heap.size := (by have := HB5.out.size; (try simp at this); omega)
        have HOK5 : Aside0 (o.pv.Ok p w5) := ⟨HOK.out.below (below_to (below_alloc (Below.refl _ _) _) HB5.out)⟩
        have HBw5 : Aside0 (Below w.heap.size w w5) := ⟨below_to (by exact (by repeat (first | exact Below.refl _ _ | apply below_alloc | apply pw_below_drewN | apply below_drew1 | apply below_drew | (refine Below.setCell ?_ (by (try simp); (try omega)) _) | (refine below_to ?_ HB16.out) | (refine below_to ?_ HB15.out) | (refine below_to ?_ HB14.out) | (refine below_to ?_ HB13.out) | (refine below_to ?_ HB12.out) | (refine below_to ?_ HB11.out) | (refine below_to ?_ HB10.out) | (refine below_to ?_ HB9.out) | (refine below_to ?_ HB8.out) | (refine below_to ?_ HB7.out) | (refine below_to ?_ HB6.out) | (refine below_to ?_ HB5.out) | (refine below_to ?_ HB4.out) | (refine below_to ?_ HB3.out) | (refine below_to ?_ HB2.out) | (refine below_to ?_ HB1.out)))) HB5.out⟩
        clear qc4 qf4 y4_3 HB4
        go_wp2_with (go_at_call 34; refine (tasks_any o.pv p _ HL.out.toLens HOK5.out LAW.out.prio LAW.out.nt).mono ?_; rintro e w6 ⟨A6, c6, rfl, hle6, hC6, hb, hown6⟩; have HO6 := Aside0.mk hown6; clear hC6 hown6 hle6; have HB6 := Aside0.mk hb; obtain ⟨qc6, qf6⟩ := bcell hb; have hs6 := hb.size; (try simp at hs6); (try have z06 : w.heap.size < w6.heap.size := (by omega)); (try have z16 : w.heap.size + 1 < w6.heap.size := (by omega)); (try have z26 : w.heap.size + 1 + 1 < w6.heap.size := (by omega)); (try have z36 : w.heap.size + 1 + 1 + 1 < w6.heap.size := (by omega)); (try have z46 : w.heap.size + 1 + 1 + 1 + 1 < w6.heap.size := (by omega)); clear hs6 hb; have y6_3 : w3.heap.size < w6.heap.size := (by have := HB6.out.size; (try simp at this); omega))
        have HA6 : Aside0 (∀ a, A6 = some a → 0 < (tasksS p).length → w5.heap.size ≤ a.block ∧ ∃ cur, w6.heap[a.block]? = some (.cells cur 48 (0, 0)) ∧ (tasksS p).length * 2 ≤ cur.size ∧ a = ⟨a.block, 0, none⟩) := ⟨fun a ha hn => by
          obtain ⟨g, h1, hg, cur, hc, ht⟩ := HO6.out hn
          rw [h1] at ha
          obtain rfl := Option.some.inj ha
          have h2 := (ht ((tasksS p).length - 1) (by omega)).2
          have h3 := (Array.getElem?_eq_some_iff.1 h2).1
          exact ⟨hg, cur, hc, by omega, rfl⟩⟩
        have HN6 : Aside0 (0 < (tasksS p).length → ∃ a, A6 = some a) := ⟨fun hn => by
          obtain ⟨g, h1, _⟩ := HO6.out hn
          exact ⟨_, h1⟩⟩
        have hT13 : (tasksS p).length ≤ 12 := by
          rw [(tasksS_spec p).1.length_eq]
          have := LAW.out.nt
          simp [jobTasks_length, shipTasks_length]
          omega
        clear HO6
        go_loopw [44] (fun i wr => ∃ k : Nat, k ≤ (tasksS p).length ∧ i = .int .i64 k ∧ Aside0 (KeepA (if 0 < (tasksS p).length then A6 else none) w6 wr) ∧ Aside0 (∀ a, A6 = some a → 0 < (tasksS p).length → ∃ cur, wr.heap[a.block]? = some (.cells cur 48 (0, 0)) ∧ (tasksS p).length * 2 ≤ cur.size)) (fun i _ => (tasksS p).length - (intOf i).toNat)
        case atStart =>
          exact ⟨0, Nat.zero_le _, rfl, ⟨KeepA.refl _ _⟩, ⟨fun a ha hn => by
            obtain ⟨_, cur, hc, hn, _⟩ := HA6.out a ha hn
            exact ⟨cur, hc, hn⟩⟩⟩
        case round =>
          obtain ⟨k, hk, rfl, HK, HCU⟩ := hrel
          by_cases hlt : k < (tasksS p).length
          · obtain ⟨a, rfl⟩ := HN6.out (by omega)
            obtain ⟨g1, _, _, _, g3⟩ := HA6.out a rfl (by omega)
            obtain ⟨cur, hc, hn⟩ := HCU.out a rfl (by omega)
            generalize a.block = g at *
            subst g3
            have c0 : wr.cell? ⟨g, k * 2, none⟩ = some cur[k * 2] := by rw [blk_cell hc]; exact Array.getElem?_eq_getElem (by omega)
            have c1 : wr.cell? ⟨g, k * 2 + 1, none⟩ = some cur[k * 2 + 1] := by rw [blk_cell hc]; exact Array.getElem?_eq_getElem (by omega)
            have hf := fun i => blk_frozen hc i
            have r0 : (0 : Int) ≤ (k : Int) := by omega
            have r1 : (k : Int) < ((tasksS p).length : Int) := by omega
            have HCS := Aside0.mk hc
            clear hc
            go_wp2
            go_roundw
            case rel => exact ⟨k + 1, by omega, by go_num, ⟨by have h := HK.out; rw [if_pos (by omega)] at h ⊢; exact (h.set _ _).set _ _⟩, ⟨fun a ha _ => by obtain rfl := Option.some.inj ha; exact ⟨_, blk_set (blk_set HCS.out _ _) _ _, by simpa using hn⟩⟩⟩
            case measure => simp [intOf]; omega
          · obtain rfl : k = (tasksS p).length := by omega
            obtain ⟨w7, rfl⟩ : ∃ w7 : World, w7 = wr := ⟨_, rfl⟩
            have hb : Below w5.heap.size w5 w7 := HK.out.over HB6.out (fun a ha => by
              split at ha
              · rename_i h0
                exact (HA6.out a ha h0).1
              · cases ha)
            clear HK HCU hlt hk qc6 qf6 y6_3 HB6
            have HB7 := Aside0.mk hb; obtain ⟨qc7, qf7⟩ := bcell hb; have hs7 := hb.size; (try simp at hs7); (try have z07 : w.heap.size < w7.heap.size := (by omega)); (try have z17 : w.heap.size + 1 < w7.heap.size := (by omega)); (try have z27 : w.heap.size + 1 + 1 < w7.heap.size := (by omega)); (try have z37 : w.heap.size + 1 + 1 + 1 < w7.heap.size := (by omega)); (try have z47 : w.heap.size + 1 + 1 + 1 + 1 < w7.heap.size := (by omega)); clear hs7 hb
            have y7_3 : w3.heap.size < w7.heap.size := (by have := HB7.out.size; (try simp at this); omega)
            have y7_0 : w.heap.size < w7.heap.size := (by have := HB7.out.size; (try simp at this); omega)
            have y7_1 : w.heap.size + 1 < w7.heap.size := (by have := HB7.out.size; (try simp at this); omega)
            go_wp2_with (first
              | (go_at_call 36; refine (hMS.out o _ (HOK5.out.below HB7.out)).mono ?_; rintro e w8 ⟨A8, c8, rfl, hle8, hb, hrow8⟩; have HR8 := Aside0.mk hrow8; clear hrow8 hle8; have HB8 := Aside0.mk hb; obtain ⟨qc8, qf8⟩ := bcell hb; have hs8 := hb.size; (try simp at hs8); (try have z08 : w.heap.size < w8.heap.size := (by omega)); (try have z18 : w.heap.size + 1 < w8.heap.size := (by omega)); (try have z28 : w.heap.size + 1 + 1 < w8.heap.size := (by omega)); (try have z38 : w.heap.size + 1 + 1 + 1 < w8.heap.size := (by omega)); (try have z48 : w.heap.size + 1 + 1 + 1 + 1 < w8.heap.size := (by omega)); clear hs8 hb; have y8_3 : w3.heap.size < w8.heap.size := (by have := HB8.out.size; (try simp at this); omega); have y8_0 : w.heap.size < w8.heap.size := (by have := HB8.out.size; (try simp at this); omega); have y8_1 : w.heap.size + 1 < w8.heap.size := (by have := HB8.out.size; (try simp at this); omega))
              | (go_at_call 37; refine (HSt.out _ (below_to HBw5.out (by exact (by repeat (first | exact Below.refl _ _ | apply below_alloc | apply pw_below_drewN | apply below_drew1 | apply below_drew | (refine Below.setCell ?_ (by (try simp); (try omega)) _) | (refine below_to ?_ HB16.out) | (refine below_to ?_ HB15.out) | (refine below_to ?_ HB14.out) | (refine below_to ?_ HB13.out) | (refine below_to ?_ HB12.out) | (refine below_to ?_ HB11.out) | (refine below_to ?_ HB10.out) | (refine below_to ?_ HB9.out) | (refine below_to ?_ HB8.out) | (refine below_to ?_ HB7.out) | (refine below_to ?_ HB6.out) | (refine below_to ?_ HB5.out) | (refine below_to ?_ HB4.out) | (refine below_to ?_ HB3.out) | (refine below_to ?_ HB2.out) | (refine below_to ?_ HB1.out)))))).mono ?_; rintro e w9 ⟨A9, c9, rfl, hle9, hC9, hb⟩; have HC9 := Aside0.mk hC9; clear hle9 hC9; have HB9 := Aside0.mk hb; obtain ⟨qc9, qf9⟩ := bcell hb; have hs9 := hb.size; (try simp at hs9); (try have z09 : w.heap.size < w9.heap.size := (by omega)); (try have z19 : w.heap.size + 1 < w9.heap.size := (by omega)); (try have z29 : w.heap.size + 1 + 1 < w9.heap.size := (by omega)); (try have z39 : w.heap.size + 1 + 1 + 1 < w9.heap.size := (by omega)); (try have z49 : w.heap.size + 1 + 1 + 1 + 1 < w9.heap.size := (by omega)); clear hs9 hb; have y9_3 : w3.heap.size < w9.heap.size := (by have := HB9.out.size; (try simp at this); omega); have y9_8 : w8.heap.size < w9.heap.size := (by have := HB9.out.size; (try simp at this); omega)))
            refine gen_world (fun wS hqS hsS hS => ?_)
            simp only [World.size_alloc] at hsS
            have HBS : Aside0 (Below w.heap.size w wS) := ⟨below_to HBw5.out (by rw [hS.out]; exact (by repeat (first | exact Below.refl _ _ | apply below_alloc | apply pw_below_drewN | apply below_drew1 | apply below_drew | (refine Below.setCell ?_ (by (try simp); (try omega)) _) | (refine below_to ?_ HB16.out) | (refine below_to ?_ HB15.out) | (refine below_to ?_ HB14.out) | (refine below_to ?_ HB13.out) | (refine below_to ?_ HB12.out) | (refine below_to ?_ HB11.out) | (refine below_to ?_ HB10.out) | (refine below_to ?_ HB9.out) | (refine below_to ?_ HB8.out) | (refine below_to ?_ HB7.out) | (refine below_to ?_ HB6.out) | (refine below_to ?_ HB5.out) | (refine below_to ?_ HB4.out) | (refine below_to ?_ HB3.out) | (refine below_to ?_ HB2.out) | (refine below_to ?_ HB1.out))))⟩
            have HOS : Aside0 (o.pv.Ok p wS) := ⟨HOK5.out.below (by rw [hS.out]; exact (by repeat (first | exact Below.refl _ _ | apply below_alloc | apply pw_below_drewN | apply below_drew1 | apply below_drew | (refine Below.setCell ?_ (by (try simp); (try omega)) _) | (refine below_to ?_ HB16.out) | (refine below_to ?_ HB15.out) | (refine below_to ?_ HB14.out) | (refine below_to ?_ HB13.out) | (refine below_to ?_ HB12.out) | (refine below_to ?_ HB11.out) | (refine below_to ?_ HB10.out) | (refine below_to ?_ HB9.out) | (refine below_to ?_ HB8.out) | (refine below_to ?_ HB7.out) | (refine below_to ?_ HB6.out) | (refine below_to ?_ HB5.out) | (refine below_to ?_ HB4.out) | (refine below_to ?_ HB3.out) | (refine below_to ?_ HB2.out) | (refine below_to ?_ HB1.out))))⟩
            have HC9S : Aside0 (Kd.C kWindow wS A9 (stopS p ⟨vk, vi⟩).1.Windows.length (stopS p ⟨vk, vi⟩).1.Windows) := ⟨Kd.C_below HC9.out (by rw [hS.out]; exact (by repeat (first | exact Below.refl _ _ | apply below_alloc | apply pw_below_drewN | apply below_drew1 | apply below_drew | (refine Below.setCell ?_ (by (try simp); (try omega)) _) | (refine below_to ?_ HB16.out) | (refine below_to ?_ HB15.out) | (refine below_to ?_ HB14.out) | (refine below_to ?_ HB13.out) | (refine below_to ?_ HB12.out) | (refine below_to ?_ HB11.out) | (refine below_to ?_ HB10.out) | (refine below_to ?_ HB9.out) | (refine below_to ?_ HB8.out) | (refine below_to ?_ HB7.out) | (refine below_to ?_ HB6.out) | (refine below_to ?_ HB5.out) | (refine below_to ?_ HB4.out) | (refine below_to ?_ HB3.out) | (refine below_to ?_ HB2.out) | (refine below_to ?_ HB1.out))))⟩
            have HWL : Aside0 ((stopS p ⟨vk, vi⟩).1.Windows.length ≤ 4611686018427387904) := ⟨by have := hs4.out; omega⟩
            have HC8 : Aside0 (Kd.C kWindow wS A8 (stopS p ⟨vk, vi⟩).1.Windows.length (stopS p ⟨vk, vi⟩).1.Windows) := ⟨by
              rcases HR8.out with ⟨h0, rfl⟩ | ⟨g, rfl, hg, hrow⟩
              · rw [h0]
                exact Kd.C_nil _ _
              · exact Kd.C_below (hrow.reads HWL.out) (by rw [hS.out]; exact (by repeat (first | exact Below.refl _ _ | apply below_alloc | apply pw_below_drewN | apply below_drew1 | apply below_drew | (refine Below.setCell ?_ (by (try simp); (try omega)) _) | (refine below_to ?_ HB16.out) | (refine below_to ?_ HB15.out) | (refine below_to ?_ HB14.out) | (refine below_to ?_ HB13.out) | (refine below_to ?_ HB12.out) | (refine below_to ?_ HB11.out) | (refine below_to ?_ HB10.out) | (refine below_to ?_ HB9.out) | (refine below_to ?_ HB8.out) | (refine below_to ?_ HB7.out) | (refine below_to ?_ HB6.out) | (refine below_to ?_ HB5.out) | (refine below_to ?_ HB4.out) | (refine below_to ?_ HB3.out) | (refine below_to ?_ HB2.out) | (refine below_to ?_ HB1.out))))⟩
            have HT : Aside0 ((tasksS p).length ≤ 4611686018427387904) := ⟨by omega⟩
            have u0 : w.heap.size < wS.heap.size := by omega
            have u1 : w.heap.size + 1 < wS.heap.size := by omega
            have u3 : w3.heap.size < wS.heap.size := by omega
            have u8 : w8.heap.size < wS.heap.size := by omega
            have u9 : w9.heap.size < wS.heap.size := by omega
            go_region_held3 (fun W' => Below wS.heap.size wS W' ∧ ∀ b o, b < wS.heap.size → W'.cell? ⟨b, o, none⟩ = wS.cell? ⟨b, o, none⟩) (first | exact held_start _ | exact held_step (by assumption) (by assumption))
                (first
                  | (go_at_call 38; refine (sameStop_any (stopS p ⟨vk, vi⟩).1 A8 A9 c8 c9 _ (Kd.C_below HC8.out (And.left (show Below wS.heap.size wS _ ∧ _ from by assumption))) (Kd.C_below HC9S.out (And.left (show Below wS.heap.size wS _ ∧ _ from by assumption))) HWL.out).mono ?_; rintro e w19 ⟨rfl, hb⟩)
                  | (go_at_call 34; refine (tasks_any o.pv p _ HL.out.toLens (HOS.out.below (And.left (show Below wS.heap.size wS _ ∧ _ from by assumption))) LAW.out.prio LAW.out.nt).mono ?_; rintro e w20 ⟨A20, c20, rfl, hle20, hC20, hb, hown20⟩; have HC20 := Aside0.mk hC20; clear hC20 hown20 hle20)
                  | (go_at_call 39; refine (refTasks_any q p _ HL.out.toLens (HQ.out.below (below_to HBS.out (And.left (show Below wS.heap.size wS _ ∧ _ from by assumption)))) LAW.out.nt).mono ?_; rintro e w21 ⟨A21, c21, rfl, hle21, hC21, hb⟩; have HC21 := Aside0.mk hC21; have HC20' := Aside0.mk (Kd.C_below HC20.out hb); clear hC21 hle21)
                  | (go_at_call 35; refine (sameTasks_any (tasksS p) A20 A21 c20 c21 _ HC20'.out HC21.out HT.out).mono ?_; rintro e w22 ⟨rfl, hb⟩)
                  | (go_at_call 26; refine (modCheck_any o.pv p _ HL.out (HOS.out.below (And.left (show Below wS.heap.size wS _ ∧ _ from by assumption)))).mono ?_; rw [HC0.out]; rintro e w23 ⟨rfl, hb⟩))
            have HBF := Aside0.mk (below_to HBS.out (And.left (show Below wS.heap.size wS _ ∧ _ from by assumption)))
            go_wp2
            go_ret
            exact ⟨rfl, HBF.out⟩
  · have HCF : Aside0 (decide (checkS p = 0) = false) := ⟨by simp [hc]⟩
    clear hc
    go_enter Try.func6, Try.ntmps6
    go_wp2_with (first
      | (go_at_call 25; refine (awake12_any _).mono ?_; skip; rintro e w1 ⟨rfl, hb⟩; have HB1 := Aside0.mk hb; obtain ⟨qc1, qf1⟩ := bcell hb; have hs1 := hb.size; (try simp at hs1); (try have z01 : w.heap.size < w1.heap.size := (by omega)); (try have z11 : w.heap.size + 1 < w1.heap.size := (by omega)); (try have z21 : w.heap.size + 1 + 1 < w1.heap.size := (by omega)); (try have z31 : w.heap.size + 1 + 1 + 1 < w1.heap.size := (by omega)); (try have z41 : w.heap.size + 1 + 1 + 1 + 1 < w1.heap.size := (by omega)); clear hs1 hb; skip)
      | (go_at_call 29; refine (HLW.out _ (by repeat (first | exact Below.refl _ _ | apply below_alloc | apply pw_below_drewN | apply below_drew1 | apply below_drew | (refine Below.setCell ?_ (by (try simp); (try omega)) _) | (refine below_to ?_ HB6.out) | (refine below_to ?_ HB5.out) | (refine below_to ?_ HB4.out) | (refine below_to ?_ HB3.out) | (refine below_to ?_ HB2.out) | (refine below_to ?_ HB1.out)))).mono ?_; rw [HCF.out]; rintro e w2 ⟨rfl, hb⟩; have HB2 := Aside0.mk hb; obtain ⟨qc2, qf2⟩ := bcell hb; have hs2 := hb.size; (try simp at hs2); (try have z02 : w.heap.size < w2.heap.size := (by omega)); (try have z12 : w.heap.size + 1 < w2.heap.size := (by omega)); (try have z22 : w.heap.size + 1 + 1 < w2.heap.size := (by omega)); (try have z32 : w.heap.size + 1 + 1 + 1 < w2.heap.size := (by omega)); (try have z42 : w.heap.size + 1 + 1 + 1 + 1 < w2.heap.size := (by omega)); clear hs2 hb; skip))
    go_ret
    exact ⟨rfl, (by repeat (first | exact Below.refl _ _ | apply below_alloc | apply pw_below_drewN | apply below_drew1 | apply below_drew | (refine Below.setCell ?_ (by (try simp); (try omega)) _) | (refine below_to ?_ HB6.out) | (refine below_to ?_ HB5.out) | (refine below_to ?_ HB4.out) | (refine below_to ?_ HB3.out) | (refine below_to ?_ HB2.out) | (refine below_to ?_ HB1.out)))⟩
end Go.Proofs.Ytemjpgmfignhnaa
