/- Contracts: layer 12's fixed fact, and Lawful.
Conditions: lists no longer than memory allows. -/
import Derived.Test.YtemjpgmfignhnaaM3
import Derived.Test.YtemjpgmfignhnaaC12k
import Derived.Test.YtemjpgmfignhnaaC12l
namespace Go.Proofs.Ytemjpgmfignhnaa
open Go.RowKit Go.Proofs.YtemjpgmfignhnaaW.PrintWords Go.Proofs.YtemjpgmfignhnaaW.PrintLast Go.Proofs.YtemjpgmfignhnaaW.PrintMore
set_option linter.unusedVariables false
set_option linter.unusedSimpArgs false
attribute [local go_sem] cell_growBy Option.some_or
set_option maxHeartbeats 8000000 in
set_option maxRecDepth 100000 in
theorem lawful_any (q : PV) (p : TProblem) (w : World) (hl : Good p) (hq : q.Ok p w) :
    Calls Try.prog 29 #[q.val p] w fun e w' => e = .returned (.bool (decide (checkS p = 0))) ∧ Below w.heap.size w w' := by
  have HC := Aside0.mk (fun W (hb : Below w.heap.size w W) => refCheck_any q p W hl (hq.below hb))
  have d : (checkS p == 0) = decide (checkS p = 0) := rfl
  clear hl hq
  unfold PV.val at HC ⊢
  go_enter Try.func29, Try.ntmps29
  go_wp2_with (go_at_call 28; refine (HC.out _ (by repeat (first | exact Below.refl _ _ | apply below_alloc | apply pw_below_drewN | apply below_drew1 | apply below_drew | (refine Below.setCell ?_ (by (try simp); (try omega)) _) | (refine below_to ?_ HB6.out) | (refine below_to ?_ HB5.out) | (refine below_to ?_ HB4.out) | (refine below_to ?_ HB3.out) | (refine below_to ?_ HB2.out) | (refine below_to ?_ HB1.out)))).mono ?_; skip; rintro e w1 ⟨rfl, hb⟩; have HB1 := Aside0.mk hb; obtain ⟨qc1, qf1⟩ := bcell hb; have hs1 := hb.size; (try simp at hs1); (try have z01 : w.heap.size < w1.heap.size := (by omega)); (try have z11 : w.heap.size + 1 < w1.heap.size := (by omega)); (try have z21 : w.heap.size + 1 + 1 < w1.heap.size := (by omega)); (try have z31 : w.heap.size + 1 + 1 + 1 < w1.heap.size := (by omega)); (try have z41 : w.heap.size + 1 + 1 + 1 + 1 < w1.heap.size := (by omega)); clear hs1 hb; skip)
  go_ret
  exact ⟨by first | rfl | simp [d], (by repeat (first | exact Below.refl _ _ | apply below_alloc | apply pw_below_drewN | apply below_drew1 | apply below_drew | (refine Below.setCell ?_ (by (try simp); (try omega)) _) | (refine below_to ?_ HB6.out) | (refine below_to ?_ HB5.out) | (refine below_to ?_ HB4.out) | (refine below_to ?_ HB3.out) | (refine below_to ?_ HB2.out) | (refine below_to ?_ HB1.out)))⟩
set_option maxHeartbeats 8000000 in
set_option maxRecDepth 100000 in
theorem awake12_any (w : World) : Calls Try.prog 25 #[] w fun e w' => e = .returned (.bool true) ∧ Below w.heap.size w w' := by
  go_enter Try.func25, Try.ntmps25
  go_wp2_with fail
  refine (line_any _).mono ?_
  rintro e w1 ⟨gc, gw, gv, gj, he, hin⟩
  have he' : e = .returned (.agg #[.int .i64 0, .int .i64 2, .slice (some ⟨gc, 0, none⟩) 4 4, .int .i64 2, .slice (some ⟨gc, 0, none⟩) 4 4, .slice (some ⟨gv, 0, none⟩) 1 1, .slice (some ⟨gj, 0, none⟩) 2 2, .slice none 0 0]) := he
  subst he'
  clear he
  have HIN := Aside0.mk hin
  have hb := hin.below
  have HOK := Aside0.mk hin.ok
  clear hin
  have HB1 := Aside0.mk hb; obtain ⟨qc1, qf1⟩ := bcell hb; have hs1 := hb.size; (try simp at hs1); (try have z01 : w.heap.size < w1.heap.size := (by omega)); (try have z11 : w.heap.size + 1 < w1.heap.size := (by omega)); (try have z21 : w.heap.size + 1 + 1 < w1.heap.size := (by omega)); (try have z31 : w.heap.size + 1 + 1 + 1 < w1.heap.size := (by omega)); (try have z41 : w.heap.size + 1 + 1 + 1 + 1 < w1.heap.size := (by omega)); clear hs1 hb
  go_wp2_with fail
  refine (tasks_any (linePV gc gv gj) lineP _ good_line.toLens (HOK.out.below (by repeat (first | exact Below.refl _ _ | apply below_alloc | apply pw_below_drewN | apply below_drew1 | apply below_drew | (refine Below.setCell ?_ (by (try simp); (try omega)) _) | (refine below_to ?_ HB6.out) | (refine below_to ?_ HB5.out) | (refine below_to ?_ HB4.out) | (refine below_to ?_ HB3.out) | (refine below_to ?_ HB2.out) | (refine below_to ?_ HB1.out)))) (law_of check_line).prio (by decide)).mono ?_
  rw [tasks_line]
  rintro e w2 ⟨A, c, rfl, hle, hC, hb, hown⟩
  obtain ⟨g, rfl, hg, htb⟩ := hown (by decide)
  have c1 : w2.cell? ⟨g, 1, none⟩ = some (.int .i64 1) := (htb.cells 0 (by decide)).2
  have C1 := stays c1
  clear hown htb hC hle hg
  have HB2 := Aside0.mk hb; obtain ⟨qc2, qf2⟩ := bcell hb; have hs2 := hb.size; (try simp at hs2); (try have z02 : w.heap.size < w2.heap.size := (by omega)); (try have z12 : w.heap.size + 1 < w2.heap.size := (by omega)); (try have z22 : w.heap.size + 1 + 1 < w2.heap.size := (by omega)); (try have z32 : w.heap.size + 1 + 1 + 1 < w2.heap.size := (by omega)); (try have z42 : w.heap.size + 1 + 1 + 1 + 1 < w2.heap.size := (by omega)); clear hs2 hb
  have zb2 : w1.heap.size < w2.heap.size := by
    have := HB2.out.size
    simp at this
    omega
  go_wp2_with fail
  refine (modCheck_any (linePV gc gv gj) lineP _ good_line (HOK.out.below (by repeat (first | exact Below.refl _ _ | apply below_alloc | apply pw_below_drewN | apply below_drew1 | apply below_drew | (refine Below.setCell ?_ (by (try simp); (try omega)) _) | (refine below_to ?_ HB6.out) | (refine below_to ?_ HB5.out) | (refine below_to ?_ HB4.out) | (refine below_to ?_ HB3.out) | (refine below_to ?_ HB2.out) | (refine below_to ?_ HB1.out))))).mono ?_
  rw [check_line]
  rintro e w3 ⟨rfl, hb⟩
  have HB3 := Aside0.mk hb; obtain ⟨qc3, qf3⟩ := bcell hb; have hs3 := hb.size; (try simp at hs3); (try have z03 : w.heap.size < w3.heap.size := (by omega)); (try have z13 : w.heap.size + 1 < w3.heap.size := (by omega)); (try have z23 : w.heap.size + 1 + 1 < w3.heap.size := (by omega)); (try have z33 : w.heap.size + 1 + 1 + 1 < w3.heap.size := (by omega)); (try have z43 : w.heap.size + 1 + 1 + 1 + 1 < w3.heap.size := (by omega)); clear hs3 hb
  have zb3 : w1.heap.size < w3.heap.size := Nat.lt_of_lt_of_le zb2 HB3.out.size
  have g1 := C1.out w3 HB3.out
  go_wp2_with fail
  refine (cell_any lineM (some ⟨gc, 0, none⟩) 4 0 2 _ ⟨by decide, by decide, by decide⟩ (HOK.out.below (by repeat (first | exact Below.refl _ _ | apply below_alloc | apply pw_below_drewN | apply below_drew1 | apply below_drew | (refine Below.setCell ?_ (by (try simp); (try omega)) _) | (refine below_to ?_ HB6.out) | (refine below_to ?_ HB5.out) | (refine below_to ?_ HB4.out) | (refine below_to ?_ HB3.out) | (refine below_to ?_ HB2.out) | (refine below_to ?_ HB1.out)))).h1).mono ?_
  rw [show cellS lineM 0 2 = -1 from by decide]
  rintro e w4 ⟨rfl, hb⟩
  have HB4 := Aside0.mk hb; obtain ⟨qc4, qf4⟩ := bcell hb; have hs4 := hb.size; (try simp at hs4); (try have z04 : w.heap.size < w4.heap.size := (by omega)); (try have z14 : w.heap.size + 1 < w4.heap.size := (by omega)); (try have z24 : w.heap.size + 1 + 1 < w4.heap.size := (by omega)); (try have z34 : w.heap.size + 1 + 1 + 1 < w4.heap.size := (by omega)); (try have z44 : w.heap.size + 1 + 1 + 1 + 1 < w4.heap.size := (by omega)); clear hs4 hb
  go_wp2
  go_ret
  exact ⟨rfl, (by repeat (first | exact Below.refl _ _ | apply below_alloc | apply pw_below_drewN | apply below_drew1 | apply below_drew | (refine Below.setCell ?_ (by (try simp); (try omega)) _) | (refine below_to ?_ HB6.out) | (refine below_to ?_ HB5.out) | (refine below_to ?_ HB4.out) | (refine below_to ?_ HB3.out) | (refine below_to ?_ HB2.out) | (refine below_to ?_ HB1.out)))⟩
end Go.Proofs.Ytemjpgmfignhnaa
