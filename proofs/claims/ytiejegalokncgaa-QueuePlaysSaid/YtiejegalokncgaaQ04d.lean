/- A queue's order: Pop.
Conditions: none. -/
import Derived.Test.YtiejegalokncgaaQ04c
namespace Go.Proofs.Ytiejegalokncgaa
open Go.RowKit Go.Proofs.YtiejegalokncgaaW.PrintWords Go.Proofs.YtiejegalokncgaaW.PrintLast Go.Proofs.YtiejegalokncgaaW.PrintMore
set_option linter.unusedVariables false
set_option linter.unusedSimpArgs false
section
variable {W : World} {qb mb c : Nat} {gb : Option Nat} {l : List QE} {D : List (IE Int)}
theorem atE_dropLast {l : List QE} {k : Nat} (h : k < l.length - 1) : atE l.dropLast k = atE l k := by
  unfold atE
  rw [List.getD_eq_getElem?_getD, List.getElem?_dropLast, if_pos h, List.getD_eq_getElem?_getD]
theorem cellsQ_dropLast {l : List QE} {k : Nat} (hk : k + 1 = l.length) : cellsQ l.dropLast = (cellsQ l).take (k * 2) := by
  have hne : l ≠ [] := by intro h; subst h; simp at hk
  have h1 := List.dropLast_concat_getLast hne
  have h2 : cellsQ l = cellsQ l.dropLast ++ cellsQ [l.getLast hne] := by rw [← cellsQ_append, h1]
  have h3 : (cellsQ l.dropLast).length = k * 2 := by rw [cellsQ_len, List.length_dropLast]; congr 1; omega
  rw [h2, ← h3, List.take_left]
theorem row_drop {g k : Nat} (hk : k + 1 = l.length) (h : W.ownsRow 0 51 2 (.slice (some ⟨g, 0, none⟩) l.length c) l.length (cellsQ l)) :
    W.ownsRow 0 51 2 (.slice (some ⟨g, 0, none⟩) k c) k (cellsQ l.dropLast) := by
  rcases h.2 with ⟨h', _⟩ | ⟨g', cap, cur, h', hb, hg, hnc, hcm, hcs, htake⟩
  · simp at h'
  · simp only [Value.slice.injEq, Option.some.injEq, Addr.mk.injEq, and_true, true_and] at h'
    obtain ⟨rfl, rfl⟩ := h'
    refine ⟨by rw [cellsQ_len, List.length_dropLast]; congr 1; omega, .inr ⟨g, c, cur, rfl, hb, hg, by omega, hcm, hcs, ?_⟩⟩
    rw [cellsQ_dropLast hk, ← htake, List.take_take]
    congr 1
    omega
theorem pl_pop {l : List QE} {D : List (IE Int)} {k : Nat} (hk : k + 1 = l.length) (pl : ∀ x i, getI D x = some i ↔ ∃ k : Nat, k < l.length ∧ i = (k : Int) ∧ (atE l k).Item = x) (x v : Int) :
    getI (delI D (atE l k).Item) x = some v ↔ ∃ k : Nat, k < l.dropLast.length ∧ v = (k : Int) ∧ (atE l.dropLast k).Item = x := by
  rw [getI_del, List.length_dropLast]
  constructor
  · intro h
    split at h
    · cases h
    · rename_i e1
      obtain ⟨j, h1, h2, h3⟩ := (pl x v).1 h
      have hj : j ≠ k := fun e => e1 (by rw [← h3, e])
      exact ⟨j, by omega, h2, by rw [atE_dropLast (by omega), h3]⟩
  · rintro ⟨j, h1, rfl, rfl⟩
    rw [atE_dropLast (by omega), if_neg]
    · exact (pl _ _).2 ⟨j, by omega, rfl, rfl⟩
    · intro e
      have := pl_inj pl (by omega) (by omega) e
      omega
theorem QOk.pop {g k : Nat} (hk : k + 1 = l.length) (h : QOk W qb mb (some g) c l D) {w1 w2 w3 : World} (h1 : Below W.heap.size W w1) (h2 : w2 = ((w1.setCell ⟨qb, 0, none⟩ (.slice (some ⟨g, 0, none⟩) k c)).drew).drew)
    (hm : IMapAt (fun v : Int => Value.int .i64 v) w3 mb (delI D (atE l k).Item)) (hsz : w3.heap.size = w2.heap.size) (hbl : ∀ k, k ≠ mb → w3.heap[k]? = w2.heap[k]?) (ho : w3.os = w2.os) (ht : w3.tape = w2.tape) (hu : w3.output = w2.output) :
    QOk w3 qb mb (some g) c l.dropLast (delI D (atE l k).Item) ∧ Turn (QS qb mb (some g)) W w3 := by
  obtain ⟨n1, n2, n3, n4, n5⟩ := h.gq (by omega)
  obtain ⟨g', e, hr⟩ := h.row' (by omega)
  obtain rfl := Option.some.inj e
  have hg1 : W.grownBy w1 none := ⟨h1.os, h1.tape, h1.output, h1.size, fun k hk _ => h1.block k hk⟩
  have box1 := blk_below h.box h1
  have box2 : w2.heap[qb]? = some (.cells #[.slice (some ⟨g, 0, none⟩) k c, .map (some mb)] 49 (0, 0)) := by rw [h2]; exact blk_drew (blk_drew (by simpa using blk_set box1 0 (.slice (some ⟨g, 0, none⟩) k c)))
  have hl2 : l.dropLast.length = k := by rw [List.length_dropLast]; omega
  have r1 := row_drop hk (hr.kept hg1 (.inr (by simp [Value.ownBlock])))
  have r2 : w2.ownsRow 0 51 2 (.slice (some ⟨g, 0, none⟩) k c) k (cellsQ l.dropLast) := by
    rw [h2]
    exact (own_setCell r1 (p := ⟨qb, 0, none⟩) (by simp [Value.ownBlock]; exact n1) _).drew.drew
  have hg3 : w2.grownBy w3 (some mb) := ⟨ho, ht, hu, by rw [hsz]; exact Nat.le_refl _, fun k _ hk => hbl k (fun e => hk (by rw [e]))⟩
  have hs1 := h1.size
  refine ⟨⟨(hbl qb (Ne.symm n3)).trans (by rw [hl2]; exact box2), ?_, hm, pl_pop hk h.pl, by have := h.len; omega⟩, ?_⟩
  · rw [hl2]
    exact r2.kept hg3 (.inr (by simp [Value.ownBlock]; exact Ne.symm n2))
  · subst h2
    refine ⟨ho.trans h1.os, ht.trans h1.tape, hu.trans h1.output, ?_, fun k hk hS => ?_⟩
    · rw [hsz]; simpa using hs1
    · have k1 : k ≠ qb := fun e => hS (.inl e)
      have k2 : k ≠ mb := fun e => hS (.inr (.inl e))
      rw [hbl k k2]
      exact (Below.heap_setCell w1 ⟨qb, 0, none⟩ _ k k1).trans (h1.block k hk)
set_option maxHeartbeats 4000000 in
theorem qPop_any (h : QOk W qb mb gb c l D) (k : Nat) (hk : k + 1 = l.length) : Calls Try.prog 44 #[qP qb] W
    fun x w' => x = .returned (.iface 51 (.agg #[.int .i64 (atE l k).Item, .int .i64 (atE l k).Key])) ∧ (∃ c' D', QOk w' qb mb gb c' l.dropLast D') ∧ Turn (QS qb mb gb) W w' := by
  have h0 := h.cell0
  obtain ⟨g, rfl, hg, x0, x1⟩ := h.at_ k (by omega)
  obtain ⟨g', e, hr⟩ := h.row' (by omega)
  obtain rfl := Option.some.inj e
  have hlc : l.length ≤ c := by
    rcases hr.2 with ⟨h', _⟩ | ⟨g', cap, cur, h', hb, hg, hnc, hcm, hcs, htake⟩
    · simp at h'
    · simp only [Value.slice.injEq, Option.some.injEq, Addr.mk.injEq, and_true, true_and] at h'
      omega
  have HQ := Aside0.mk h
  have hln := h.len
  have ek : IntKind.i64.wrap ((l.length : Int) - 1) = (k : Int) := by rw [IntWalk.i64_in _ (by omega)]; omega
  have i0 : (0 : Int) ≤ k := by omega
  have i1 : (k : Int) < l.length := by omega
  have i2 : (k : Int) ≤ (c : Int) := by omega
  have hq := World.block_lt_of_cell? _ ⟨qb, 0, none⟩ h0
  clear h e hln hr
  go_enter Try.func44, Try.ntmps44
  go_upto_region 1 with fail
  go_region_held3 (fun W' => Below W.heap.size W W' ∧ ∀ a : Addr, a.block < W.heap.size → W'.cell? a = W.cell? a) (first | exact hl_start _ | exact hl_of (by repeat (first | with_reducible exact Below.refl _ _ | with_reducible apply below_alloc | with_reducible apply below_drew | with_reducible apply pw_below_drewN | (with_reducible refine Below.setCell ?_ (by first | (simp; done) | (simp; omega) | (dsimp only; omega)) _) | (with_reducible refine below_to ?_ (by assumption)))))
      (first
        | fail)
  go_upto_region 2 with fail
  refine gen_wp (fun w1 => Below W.heap.size W w1 ∧ w1.heap[W.heap.size]? = some (.cells #[.int .i64 (atE l k).Item, .int .i64 (atE l k).Key] 51 (0, 0))) ⟨(by repeat (first | with_reducible exact Below.refl _ _ | with_reducible apply below_alloc | with_reducible apply below_drew | with_reducible apply pw_below_drewN | (with_reducible refine Below.setCell ?_ (by first | (simp; done) | (simp; omega) | (dsimp only; omega)) _) | (with_reducible refine below_to ?_ (by assumption)))), by first | exact blk_new _ _ | exact blk_drew (blk_new _ _)⟩ (fun w1 H1 => ?_)
  clear h0 x0 x1 hq
  have hx1 := blk_below HQ.out.box H1.out.1
  have h0 := blk_cell hx1 0
  simp only [List.getElem?_toArray, List.getElem?_cons_succ, List.getElem?_cons_zero] at h0
  have f0 := blk_frozen hx1 0
  clear hx1
  go_region
  go_upto_region 3 with fail
  refine gen_wp (fun w2 => w2 = (w1.setCell ⟨qb, 0, none⟩ (.slice (some ⟨g, 0, none⟩) k c)).drew) rfl (fun w2 H2 => ?_)
  clear h0 f0
  have hx1 := blk_below HQ.out.box H1.out.1
  have hx2 : w2.heap[qb]? = some (.cells #[.slice (some ⟨g, 0, none⟩) k c, .map (some mb)] 49 (0, 0)) := by rw [H2.out]; exact blk_drew (by simpa using blk_set hx1 0 (.slice (some ⟨g, 0, none⟩) k c))
  have hnq : W.heap.size ≠ qb := Nat.ne_of_gt HQ.out.qlt
  have hy2 : w2.heap[W.heap.size]? = some (.cells #[.int .i64 (atE l k).Item, .int .i64 (atE l k).Key] 51 (0, 0)) := by rw [H2.out]; exact blk_drew (blk_far H1.out.2 hnq _)
  have hnm := HQ.out.qm.1
  have hmm : IMapAt (fun v : Int => Value.int .i64 v) w2.drew mb D := by
    refine HQ.out.map.keep ?_
    rw [H2.out]
    exact (Below.heap_setCell w1 ⟨qb, 0, none⟩ _ mb hnm).trans (H1.out.1.block mb HQ.out.map.lt)
  obtain ⟨w3, hdel, hm3, hsz, hbl, ho, ht, hu⟩ := hmm.del Try.underlying26 Try.underlying3 (atE l k).Item 3 0
  have HE := Aside0.mk (HQ.out.pop hk H1.out.1 (w2 := w2.drew) (by rw [H2.out]) hm3 hsz hbl ho ht hu)
  have hy3 : w3.heap[W.heap.size]? = some (.cells #[.int .i64 (atE l k).Item, .int .i64 (atE l k).Key] 51 (0, 0)) := (hbl _ (Nat.ne_of_gt HQ.out.map.lt)).trans hy2
  have HY3 := Aside0.mk hy3
  have h1 := blk_cell hx2 1
  have y0 := blk_cell hy2 0
  simp only [List.getElem?_toArray, List.getElem?_cons_succ, List.getElem?_cons_zero] at h1 y0
  clear hx1 hx2 hnq hy2 hnm hmm hm3 hsz hbl ho ht hu hy3 H2
  go_region
  clear h1 y0 hdel
  have y0 := blk_cell HY3.out 0
  have y1 := blk_cell HY3.out 1
  simp only [List.getElem?_toArray, List.getElem?_cons_succ, List.getElem?_cons_zero] at y0 y1
  go_wp2
  go_ret
  exact ⟨rfl, ⟨c, _, HE.out.1⟩, HE.out.2⟩
end
end Go.Proofs.Ytiejegalokncgaa
