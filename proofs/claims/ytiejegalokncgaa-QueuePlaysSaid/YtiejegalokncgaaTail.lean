/- A region that draws its order, whose last operations wait for all that stand ahead of them: its head is walked by a condition S on the worlds, its tail one after the other behind it (S is not asked for there).
Conditions: the head's operations have slots of their own and no guards. -/
import Derived.Test.YtiejegalokncgaaInv
import Derived.Test.YtiejegalokncgaaHeld2
namespace Go.Proofs.Ytiejegalokncgaa
open Go.RowKit Go.Proofs.YtiejegalokncgaaW.PrintWords Go.Proofs.YtiejegalokncgaaW.PrintLast Go.Proofs.YtiejegalokncgaaW.PrintMore
set_option linter.unusedVariables false
set_option linter.unusedSimpArgs false
section
variable {P : Program} {md : Region.Mode} {Q : Exit → Act → World → Prop}
/-- What is asked behind the head: the tail. -/
def TailQ (P : Program) (full : Array Oper) (tail : List Oper) (Q : Exit → Act → World → Prop) : Exit → Act → World → Prop
  | .normal, a, w => wpList P full Q tail a w
  | e, a, w => Q e a w
theorem Oper.wp_tailQ {o : Oper} {full : Array Oper} {tail : List Oper} {a : Act} {w : World} {K K' : Act → World → Prop} (h : ∀ a w, K a w → K' a w) (hh : o.wp P a w K (TailQ P full tail Q)) : o.wp P a w K' Q := by
  unfold Oper.wp at *
  generalize (execOp a.eval o).run P w = r at *
  cases r with
  | ok n w' =>
    cases n <;> simp only [Oper.upon] at hh ⊢ <;>
      first
        | exact h _ _ hh
        | exact Calls.mono hh (fun e w'' he => by cases e <;> first | exact h _ _ he | exact he)
        | exact Rows.mono hh (fun _ _ he => h _ _ he)
  | halt x w' => cases x <;> simp only [Oper.upon] at hh ⊢ <;> exact hh
structure Twin (full : Array Oper) (n : Nat) (lf lh : Array Bool) : Prop where
  sf : lf.size = full.size
  sh : lh.size = n
  same : ∀ i, i < n → lf[i]? = lh[i]?
theorem Twin.set {full : Array Oper} {n i : Nat} {lf lh : Array Bool} (h : Twin full n lf lh) : Twin full n (lf.setIfInBounds i true) (lh.setIfInBounds i true) := by
  refine ⟨by simp [h.sf], by simp [h.sh], fun j hj => ?_⟩
  simp only [Array.getElem?_setIfInBounds, h.same j hj]
  by_cases e : i = j
  · subst e
    have h1 := h.same i hj
    rw [if_pos rfl, if_pos rfl]
    have hl : i < lh.size := by rw [h.sh]; exact hj
    have hf : i < lf.size := by
      rcases Nat.lt_or_ge i lf.size with h' | h'
      · exact h'
      · rw [Array.getElem?_eq_none h', Array.getElem?_eq_getElem hl] at h1
        cases h1
    simp [hl, hf]
  · rw [if_neg e, if_neg e]
theorem Twin.getD {full : Array Oper} {n i : Nat} {lf lh : Array Bool} (h : Twin full n lf lh) (hi : i < n) (d : Bool) : lf.getD i d = lh.getD i d := by
  simp only [Array.getD_eq_getD_getElem?, h.same i hi]
theorem Twin.ready {full head : Array Oper} {n i : Nat} {lf lh : Array Bool} (h : Twin full n lf lh) (hB : headB md full n = true) (hh : ∀ i, i < n → head[i]? = full[i]?) (hi : i < n) (hr : i ∈ Region.ready md full lf) : i ∈ Region.ready md head lh := by
  obtain ⟨h1, o, ho, h2⟩ := mem_ready.1 hr
  obtain ⟨o', d, ho', _⟩ := headB_spec hB i hi
  obtain rfl : o = o' := Option.some.inj (ho.symm.trans ho'.at_)
  exact mem_ready.2 ⟨by rw [← h.getD hi]; exact h1, o, by rw [hh i hi]; exact ho, fun e he hb => by rw [← h.getD (Nat.lt_trans (ho'.back e he) hi)]; exact h2 e he hb⟩
theorem twin_any {full : Array Oper} {tail : List Oper} {head : Array Oper} {n g : Nat} (hB : headB md full n = true) (hn : n ≤ full.size) (hh : ∀ i, i < n → head[i]? = full[i]?)
    (hwait : ∀ listed, HeadInv md full n listed → (∃ i, i < n ∧ listed.getD i true = false) → ∀ t, n ≤ t → t ∉ Region.ready md full listed)
    (hend : ∀ listed a w, HeadInv md full n listed → (∀ i, i < n → listed.getD i false = true) → wpList P full Q tail a w → wpAny P md full Q g listed a w) :
    ∀ (f : Nat) (lh lf : Array Bool) (a : Act) (w : World), Twin full n lf lh → HeadInv md full n lf → unl lf n = f → wpAny P md head (TailQ P full tail Q) f lh a w → wpAny P md full Q (f + g) lf a w
  | 0, lh, lf, a, w, tw, inv, hu, h => by
    rw [Nat.zero_add]
    exact hend lf a w inv (unl_zero n hu) h.2
  | f + 1, lh, lf, a, w, tw, inv, hu, h => by
    rw [show f + 1 + g = (f + g) + 1 by omega]
    obtain ⟨i0, hi0, hun0, hall0⟩ := unl_pos (listed := lf) n (by omega)
    have hls : lf.size = full.size := inv.size
    have hr0 : i0 ∈ Region.ready md full lf := by
      obtain ⟨o, d, ho, _⟩ := headB_spec hB i0 hi0
      exact mem_ready.2 ⟨getD_in (by omega) hun0, o, ho.at_, fun e he _ => hall0 _ (ho.back e he)⟩
    refine ⟨fun h => absurd hr0 (by rw [h]; simp), fun i hi => ?_⟩
    have hin : i < n := by
      rcases Nat.lt_or_ge i n with h' | h'
      · exact h'
      · exact absurd hi (hwait lf inv ⟨i0, hi0, getD_in (by omega) hun0⟩ i h')
    obtain ⟨o, d, ho, _⟩ := headB_spec hB i hin
    have hun := (mem_ready.1 hi).1
    have hK : ∀ a' w', wpAny P md head (TailQ P full tail Q) f (lh.setIfInBounds i true) a' w' → wpAny P md full Q (f + g) (lf.setIfInBounds i true) a' w' := by
      intro a' w' h'
      refine twin_any hB hn hh hwait hend f _ _ a' w' tw.set (inv.set hi hin) ?_ h'
      have := unl_set (show i < lf.size by omega) (getD_both hun) n hin
      omega
    have h1 := h.2 i (tw.ready hB hh hin hi)
    unfold wpOp at h1 ⊢
    rw [hh i hin] at h1
    simp only [ho.at_] at h1 ⊢
    have hw1 : Region.wanted o (yielded head a.tmps) = true := by simp [Region.wanted, ho.guard]
    have hw2 : Region.wanted o (yielded full a.tmps) = true := by simp [Region.wanted, ho.guard]
    rw [if_pos hw1] at h1
    rw [if_pos hw2]
    exact h1.imp (Oper.wp_tailQ hK) (fun h => ⟨h.1, h.2⟩)
/-- The beginning: the head's operations alone are left to walk, under S. -/
theorem wp_region_tailH {S : World → Prop} {id : Nat} {a0 : Act} {w : World} {l : List Oper} (n : Nat) (hm : P.follows .mixedOrders = true) (hH : headB .any l.toArray n = true) (hT : tailB .any l.toArray n = true) (hS : S w.drew)
    (h : S w.drew → wpAnyH P .any (l.take n).toArray (TailQ P l.toArray (l.drop n) Q) S n (Array.replicate n false) a0 w.drew) : (Code.region id l.toArray true).wp P Q a0 w := by
  simp only [tailB, Bool.and_eq_true, decide_eq_true_eq, Bool.or_eq_true] at hT
  obtain ⟨⟨hn, hsc⟩, hseq⟩ := hT
  refine wp_region_any hm ?_
  have inv0 : HeadInv .any l.toArray n (Array.replicate l.toArray.size false) :=
    ⟨by simp, fun j oj _ hl => (by rw [getD_replicate_false] at hl; cases hl), fun t _ ht => getD_in (by simpa using ht) (getD_replicate_false _ _)⟩
  have hunl : ∀ m, unl (Array.replicate l.toArray.size false) m = m := by
    intro m
    induction m with
    | zero => rfl
    | succ m ih => rw [unl, ih, getD_replicate_false]; rfl
  have hwait : ∀ listed, HeadInv .any l.toArray n listed → (∃ i, i < n ∧ listed.getD i true = false) → ∀ t, n ≤ t → t ∉ Region.ready .any l.toArray listed := by
    intro listed inv ⟨i, hi, hun⟩ t ht hr
    rcases hsc with hsc | ⟨hs, hc⟩
    · obtain ⟨_, o, ho, _⟩ := mem_ready.1 hr
      have := (Array.getElem?_eq_some_iff.1 ho).1
      omega
    · have hlt : n < l.toArray.size := by
        obtain ⟨_, o, ho, _⟩ := mem_ready.1 hr
        have := (Array.getElem?_eq_some_iff.1 ho).1
        omega
      exact tail_waits hs hc hlt inv _ i rfl hi hun t ht hr
  have H := twin_any (P := P) (Q := Q) (md := .any) (full := l.toArray) (tail := l.drop n) (head := (l.take n).toArray) (n := n) (g := l.toArray.size - n) hH hn (fun i hi => by simp [List.getElem?_take, hi]) hwait ?_ n
    (Array.replicate n false) (Array.replicate l.toArray.size false) a0 w.drew ⟨by simp, by simp, fun i hi => by simp at hn; simp [Array.getElem?_replicate, hi, show i < l.length by omega]⟩ inv0 (hunl n) (wpAny_of_held _ _ _ _ (h hS))
  · rwa [show n + (l.toArray.size - n) = l.toArray.size by omega] at H
  · intro listed a w' inv hall hr
    have hls : listed = (Array.range l.toArray.size).map fun i => decide (i < n) := by
      refine Array.ext (by simp [inv.size]) fun k h1 h2 => ?_
      simp only [Array.getElem_map, Array.getElem_range]
      by_cases hk : k < n
      · have := hall k hk
        simp [h1] at this
        simp [hk, this]
      · have := inv.tail k (by omega) (by rw [← inv.size]; exact h1)
        simp [h1] at this
        simp [hk, this]
    have := wpAny_of_seq (P := P) (md := .any) (ops := l.toArray) (Q' := Q) (l.drop n) n listed a w' (fun j => by simp [List.getElem?_drop]) (by rw [show (l.drop n).length = l.toArray.size - n by simp, hls]; exact hseq) hr
    rwa [show (l.drop n).length = l.toArray.size - n by simp] at this
theorem tail_hQ {full : Array Oper} {tail : List Oper} {d : Option Tmp} {v : Value} (h : ∀ c a w, Q (.panic c) (a.put d v) w → Q (.panic c) a w) (c : List PanicEntry) (a : Act) (w : World) (k : TailQ P full tail Q (.panic c) (a.put d v) w) : TailQ P full tail Q (.panic c) a w := h c a w k
/-- The head is done. -/
theorem wpAnyH_tail {S : World → Prop} {ops full : Array Oper} {tail : List Oper} {listed : Array Bool} {a : Act} {w : World} (hr : Region.ready md ops listed = []) (h : wpList P full Q tail a w) (f : Nat) : wpAnyH P md ops (TailQ P full tail Q) S f listed a w :=
  wpAnyH_done hr h f
end
end Go.Proofs.Ytiejegalokncgaa
