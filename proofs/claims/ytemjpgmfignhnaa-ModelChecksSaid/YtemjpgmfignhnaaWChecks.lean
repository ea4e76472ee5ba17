/- The walk of ModelChecks: it answers true.
Conditions: lists no longer than memory allows. -/
import Derived.Test.YtemjpgmfignhnaaA12
import Derived.Test.YtemjpgmfignhnaaCp
import Derived.Test.YtemjpgmfignhnaaGoodOf
import Derived.Test.YtemjpgmfignhnaaHeld
namespace Go.Proofs.Ytemjpgmfignhnaa
open Go.RowKit Go.Proofs.YtemjpgmfignhnaaW.PrintWords Go.Proofs.YtemjpgmfignhnaaW.PrintLast Go.Proofs.YtemjpgmfignhnaaW.PrintMore
set_option linter.unusedVariables false
set_option linter.unusedSimpArgs false
attribute [local go_sem] cell_growBy Option.some_or
set_option maxHeartbeats 8000000 in
set_option maxRecDepth 100000 in
theorem modelChecks_any (q : PV) (p : TProblem) (w : World) (hg : GProblem p) (hq : q.Ok p w) :
    Calls Try.prog 3 #[q.val p] w fun e w' => e = .returned (.bool true) ∧ Below w.heap.size w w' := by
  have HQ := Aside0.mk hq
  have HG := Aside0.mk hg
  have HL := Aside0.mk (good_of hg)
  have hl1 := HL.out.n1
  have hl2 := HL.out.n2
  have hl3 := HL.out.n3
  have hl4 := HL.out.n4
  have hl5 := HL.out.n5
  have HC := Aside0.mk (fun W (hb : Below w.heap.size w W) => copied_any q p W (hq.below hb) hg)
  have HR := Aside0.mk (fun W (hb : Below w.heap.size w W) => refCheck_any q p W HL.out (hq.below hb))
  have HM := Aside0.mk (fun (o : OV) W (hok : o.pv.Ok p W) => modCheck_any o.pv p W HL.out hok)
  clear hq hg
  generalize checkS p = r at *
  unfold PV.val at HC HR ⊢
  go_enter Try.func3, Try.ntmps3
  go_wp2_with (first
    | (go_at_call 25; refine (awake12_any _).mono ?_; skip; rintro e w1 ⟨rfl, hb⟩; have HB1 := Aside0.mk hb; obtain ⟨qc1, qf1⟩ := bcell hb; have hs1 := hb.size; (try simp at hs1); (try have z01 : w.heap.size < w1.heap.size := (by omega)); (try have z11 : w.heap.size + 1 < w1.heap.size := (by omega)); (try have z21 : w.heap.size + 1 + 1 < w1.heap.size := (by omega)); (try have z31 : w.heap.size + 1 + 1 + 1 < w1.heap.size := (by omega)); (try have z41 : w.heap.size + 1 + 1 + 1 + 1 < w1.heap.size := (by omega)); clear hs1 hb; skip))
  all_goals first
    | (go_ret; exact ⟨rfl, (by repeat (first | exact Below.refl _ _ | apply below_alloc | apply pw_below_drewN | apply below_drew1 | apply below_drew | (refine Below.setCell ?_ (by (try simp); (try omega)) _) | (refine below_to ?_ HB6.out) | (refine below_to ?_ HB5.out) | (refine below_to ?_ HB4.out) | (refine below_to ?_ HB3.out) | (refine below_to ?_ HB2.out) | (refine below_to ?_ HB1.out)))⟩)
    | skip
  have HB1w : Aside0 (Below w.heap.size w w1) := ⟨(by repeat (first | exact Below.refl _ _ | apply below_alloc | apply pw_below_drewN | apply below_drew1 | apply below_drew | (refine Below.setCell ?_ (by (try simp); (try omega)) _) | (refine below_to ?_ HB6.out) | (refine below_to ?_ HB5.out) | (refine below_to ?_ HB4.out) | (refine below_to ?_ HB3.out) | (refine below_to ?_ HB2.out) | (refine below_to ?_ HB1.out)))⟩
  clear hl1 hl2 hl3 hl4 hl5
  go_region_held3 (fun W' => Below w1.heap.size w1 W' ∧ ∀ b o, b < w1.heap.size → W'.cell? ⟨b, o, none⟩ = w1.cell? ⟨b, o, none⟩) (first | exact held_start _ | exact held_step (by assumption) (by assumption))
      (first
        | (go_at_call 27; refine (HC.out _ (below_to HB1w.out (And.left (show Below w1.heap.size w1 _ ∧ _ from by assumption)))).mono ?_; rintro e w2 ⟨o, rfl, hown, hb⟩; have HOK := Aside0.mk (hown.ok HL.out.toLens); clear hown)
        | (go_at_call 26; refine (HM.out o _ HOK.out).mono ?_; rintro e w3 ⟨rfl, hb⟩)
        | (go_at_call 28; refine (HR.out _ (below_to HB1w.out (And.left (show Below w1.heap.size w1 _ ∧ _ from by assumption)))).mono ?_; rintro e w4 ⟨rfl, hb⟩))
  have HB2 := Aside0.mk (below_to HB1w.out (And.left (show Below w1.heap.size w1 _ ∧ _ from by assumption)))
  go_wp2
  go_ret
  exact ⟨rfl, HB2.out⟩
end Go.Proofs.Ytemjpgmfignhnaa
