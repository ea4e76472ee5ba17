/- A cell of one element of a row is written: the row reads with that element anew.
Conditions: none. -/
import Derived.Test.YtemjpgmfignhnaaCp
import Derived.Test.YtemjpgmfignhnaaM13
namespace Go.Proofs.Ytemjpgmfignhnaa
open Go.RowKit Go.Proofs.YtemjpgmfignhnaaW.PrintWords Go.Proofs.YtemjpgmfignhnaaW.PrintLast Go.Proofs.YtemjpgmfignhnaaW.PrintMore
set_option linter.unusedVariables false
set_option linter.unusedSimpArgs false
section
variable {α : Type} {d : Kd α} {e g : Nat} {W W1 : World} {ok : Nat → Nat → Prop} {xs : List α}
theorem RowIx.put (h : RowIx d e W ok g xs) (hg : ∀ m, ¬ ok m g) (j i : Nat) (x y : α) (hj : xs[j]? = some x) (hi : i < d.sz) (u : Value) (hy : ∀ W' cs, d.K W' x cs → d.K W' y (cs.set i u)) :
  RowIx d e (W.setCell ⟨g, j * d.sz + i, none⟩ u) ok g (xs.set j y) := by
 obtain ⟨cur, hc, hs, hr⟩ := h
 have hjl := (List.getElem?_eq_some_iff.1 hj).1
 have hm : j * d.sz + d.sz ≤ xs.length * d.sz := by rw [← Nat.succ_mul]; exact Nat.mul_le_mul_right _ hjl
 refine ⟨cur.setIfInBounds (j * d.sz + i) u, by simpa using blk_set hc (j * d.sz + i) u, by simpa using hs, fun m z hz => ?_⟩
 have hml : m < xs.length := by simpa using (List.getElem?_eq_some_iff.1 hz).1
 have hfar : ∀ k, ok m k → k < W.heap.size → (W.setCell ⟨g, j * d.sz + i, none⟩ u).heap[k]? = W.heap[k]? := fun k hk _ => Below.heap_setCell W _ u k (fun e => hg m (by have e' : k = g := e; rw [← e']; exact hk))
 by_cases e1 : m = j
 ·subst e1
  obtain rfl : y = z := by
   rw [List.getElem?_set_self hml] at hz
   exact Option.some.inj hz
  have hk := Kd.FK_step (hr m x hj) hfar
  have e2 : ((cur.setIfInBounds (m * d.sz + i) u).toList.drop (m * d.sz)).take d.sz = ((cur.toList.drop (m * d.sz)).take d.sz).set i u := by
   refine List.ext_getElem? fun t => ?_
   rw [Array.toList_setIfInBounds, List.getElem?_take, List.getElem?_drop, List.getElem?_set, List.getElem?_set, List.getElem?_take, List.getElem?_drop, List.length_take, List.length_drop]
   have hcl : cur.toList.length = cur.size := Array.length_toList
   by_cases ht : t < d.sz
   ·rw [if_pos ht, if_pos ht]
    by_cases h2 : i = t
    ·subst h2
     rw [if_pos rfl, if_pos rfl, if_pos (by omega), if_pos (by omega)]
    ·rw [if_neg (by omega), if_neg h2]
   ·rw [if_neg ht, if_neg ht, if_neg (by omega)]
  rw [e2]
  exact fun W2 hW2 => hy W2 _ (hk W2 hW2)
 ·have hz' : xs[m]? = some z := by
   rwa [List.getElem?_set_ne (fun e => e1 e.symm)] at hz
  have hmm : m * d.sz + d.sz ≤ xs.length * d.sz := by rw [← Nat.succ_mul]; exact Nat.mul_le_mul_right _ hml
  have e2 : ((cur.setIfInBounds (j * d.sz + i) u).toList.drop (m * d.sz)).take d.sz = (cur.toList.drop (m * d.sz)).take d.sz := by
   refine List.ext_getElem? fun t => ?_
   rw [Array.toList_setIfInBounds, List.getElem?_take, List.getElem?_drop, List.getElem?_set, List.getElem?_take, List.getElem?_drop]
   by_cases ht : t < d.sz
   ·rw [if_pos ht, if_pos ht, if_neg]
    rcases Nat.lt_or_gt_of_ne e1 with hlt | hgt
    ·have : m * d.sz + d.sz ≤ j * d.sz := by rw [← Nat.succ_mul]; exact Nat.mul_le_mul_right _ hlt
     omega
    ·have : j * d.sz + d.sz ≤ m * d.sz := by rw [← Nat.succ_mul]; exact Nat.mul_le_mul_right _ hgt
     omega
   ·rw [if_neg ht, if_neg ht]
  rw [e2]
  exact Kd.FK_step (hr m z hz') hfar
theorem RowAt.keep_set {ok : Nat → Prop} (h : RowAt d e W ok g xs) {p : Addr} (hg : g ≠ p.block) (hok : ∀ k, ok k → k ≠ p.block) (u : Value) : RowAt d e (W.setCell p u) ok g xs := by
 obtain ⟨cur, inner, hc, ht, hr⟩ := h
 exact ⟨cur, inner, (Below.heap_setCell W p u g hg).trans hc, ht, hr.imp_ (fun x cs hk => Kd.FK_step hk (fun k h2 _ => Below.heap_setCell W p u k (hok k h2)))⟩
end
theorem OwnP.below {n : Nat} {o : OV} {p : TProblem} {w w' : World} (h : OwnP n o p w) (hb : Below w.heap.size w w') : OwnP n o p w' :=
 ⟨h.bt, h.bd, h.bv, h.bj, h.bs, Nat.le_trans h.top hb.size, h.ne, h.l1, h.l2, h.l3, h.l4, h.l5, h.r1.below hb, h.r2.below hb, h.r3.below hb, h.r4.below hb, h.r5.below hb⟩
theorem OwnP.frozen {n : Nat} {o : OV} {p : TProblem} {w : World} (h : OwnP n o p w) (i : Nat) : w.frozen? ⟨o.gv, i, none⟩ = false := by
 obtain ⟨cur, inner, hc, _⟩ := h.r3
 exact blk_frozen hc i
/-- The problem with the k-th vehicle's shift ending later. -/
def lateP (p : TProblem) (k : Nat) (by_ : Int) : TProblem := { p with Vehicles := p.Vehicles.set k (lateVeh (rdVehicle p.Vehicles k) by_) }
theorem OwnP.late {n : Nat} {o : OV} {p : TProblem} {w : World} (h : OwnP n o p w) (k : Nat) (hk : k < p.Vehicles.length) (by_ : Int) :
  OwnP n o (lateP p k by_) (w.setCell ⟨o.gv, k * 11 + 5, none⟩ (.int .i64 ((rdVehicle p.Vehicles k).Shift.To + by_))) := by
 have hv1 := h.bv.1
 have hv2 := h.bv.2
 have hne := h.ne
 have ht := h.bt
 have hd := h.bd
 have hj := h.bj
 have hs := h.bs
 have hlow : ∀ m, m < n → m ≠ o.gv := fun m hm => by omega
 have hlow2 : ∀ m, m < n ∨ o.top ≤ m → m ≠ o.gv := fun m hm => by omega
 refine ⟨h.bt, h.bd, h.bv, h.bj, h.bs, ?_, h.ne, h.l1, h.l2, ?_, h.l4, h.l5, h.r1.keep_set (p := ⟨o.gv, k * 11 + 5, none⟩) (by show o.gt ≠ o.gv; omega) hlow _, h.r2.keep_set (p := ⟨o.gv, k * 11 + 5, none⟩) (by show o.gd ≠ o.gv; omega) hlow _, ?_, h.r4.keep_set (p := ⟨o.gv, k * 11 + 5, none⟩) (by show o.gj ≠ o.gv; omega) hlow2 _, h.r5.keep_set (p := ⟨o.gv, k * 11 + 5, none⟩) (by show o.gs ≠ o.gv; omega) hlow2 _⟩
 ·simpa using h.top
 ·simpa [lateP] using h.l3
 ·have e0 : p.Vehicles[k]? = some (rdVehicle p.Vehicles k) := by simp [rdVehicle, List.getElem?_eq_getElem hk]
  refine RowIx.at_ (ok := fun _ k => k < n ∨ o.top ≤ k) (RowIx.put h.r3.ix (fun m hm => by omega) k 5 _ (lateVeh (rdVehicle p.Vehicles k) by_) e0 (by decide) _ (fun W' cs hK => ?_)) (fun _ _ _ h => h)
  obtain ⟨A2, c2, A10, c10, rfl, l2, g2, l10, g10⟩ := kVehicle_open hK
  exact kVehicle_mk W' (lateVeh (rdVehicle p.Vehicles k) by_) A2 c2 l2 g2 A10 c10 l10 g10
theorem lateP_rd {p : TProblem} {k : Nat} (hk : k < p.Vehicles.length) (by_ : Int) : rdVehicle (lateP p k by_).Vehicles k = lateVeh (rdVehicle p.Vehicles k) by_ := by
 simp [lateP, rdVehicle, hk]
theorem MadeX.late {p : TProblem} {x : TPlan} {by_ : Int} (k : Nat) (hk : k < p.Vehicles.length) (h0 : 0 ≤ by_) (h : MadeX p (rdVehicle p.Vehicles k) x) : MadeX (lateP p k by_) (rdVehicle (lateP p k by_).Vehicles k) x := by
 rw [lateP_rd hk]
 exact ⟨Made.later (p := p) (p' := lateP p k by_) h0 rfl rfl rfl h.made, h.brk, h.arr, h.len⟩
end Go.Proofs.Ytemjpgmfignhnaa
