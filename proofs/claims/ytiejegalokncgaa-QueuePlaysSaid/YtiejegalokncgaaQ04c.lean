/- A queue's order: Push.
Conditions: none. -/
import Derived.Test.YtiejegalokncgaaQ04b
namespace Go.Proofs.Ytiejegalokncgaa
open Go.RowKit Go.Proofs.YtiejegalokncgaaW.PrintWords Go.Proofs.YtiejegalokncgaaW.PrintLast Go.Proofs.YtiejegalokncgaaW.PrintMore
set_option linter.unusedVariables false
set_option linter.unusedSimpArgs false
section
variable {W : World} {qb mb c : Nat} {gb : Option Nat} {l : List QE} {D : List (IE Int)}
theorem pl_push {l : List QE} {D D2 : List (IE Int)} {e : QE} (pl : ∀ x i, getI D x = some i ↔ ∃ k : Nat, k < l.length ∧ i = (k : Int) ∧ (atE l k).Item = x) (hn : getI D e.Item = none)
    (hD : ∀ y, getI D2 y = if y = e.Item then some (l.length : Int) else getI D y) (x v : Int) : getI D2 x = some v ↔ ∃ k : Nat, k < (l ++ [e]).length ∧ v = (k : Int) ∧ (atE (l ++ [e]) k).Item = x := by
  have hlast : atE (l ++ [e]) l.length = e := by simp [atE]
  rw [hD]
  constructor
  · intro h
    split at h
    · rename_i e1
      obtain rfl := Option.some.inj h
      exact ⟨l.length, by simp, rfl, by rw [hlast, e1]⟩
    · obtain ⟨k, h1, h2, h3⟩ := (pl x v).1 h
      exact ⟨k, by simp; omega, h2, by rw [atE_append h1, h3]⟩
  · rintro ⟨k, h1, rfl, rfl⟩
    by_cases hk : k = l.length
    · subst hk
      rw [hlast, if_pos rfl]
    · have hk2 : k < l.length := by simp at h1; omega
      rw [atE_append hk2]
      have h2 := (pl (atE l k).Item (k : Int)).2 ⟨k, hk2, rfl, rfl⟩
      rw [if_neg (fun h => by rw [h, hn] at h2; cases h2)]
      exact h2
theorem QOk.qm (h : QOk W qb mb gb c l D) : mb ≠ qb ∧ mb < W.heap.size ∧ (∀ g, gb = some g → 0 < c ∨ 0 < l.length → g ≠ qb ∧ g ≠ mb) := by
  obtain ⟨clock, h2, _⟩ := h.map
  refine ⟨fun e => ?_, (Array.getElem?_eq_some_iff.1 h2).1, ?_⟩
  · rw [e, h.box] at h2; cases h2
  · rintro g rfl hc
    rcases h.row.2 with ⟨h', _⟩ | ⟨g', cap', cur, h', hb, hg, hnc, hcm, hcs, htake⟩
    · simp [qA] at h'
    · simp only [qA, Option.map_some, Value.slice.injEq, Option.some.injEq, Addr.mk.injEq, and_true, true_and] at h'
      obtain ⟨rfl, rfl⟩ := h'
      refine ⟨(blk_ne h.box hg (by decide)).symm, fun e => ?_⟩
      rw [e, h2] at hg; cases hg
theorem QOk.own_ne (h : QOk W qb mb gb c l D) : some qb ≠ (Value.slice (qA gb) l.length c).ownBlock ∧ some mb ≠ (Value.slice (qA gb) l.length c).ownBlock := by
  obtain ⟨clock, h2, _⟩ := h.map
  rcases h.row.2 with ⟨h', _⟩ | ⟨g', cap', cur, h', hb, hg, hnc, hcm, hcs, htake⟩
  · rw [h']; exact ⟨by simp [Value.ownBlock], by simp [Value.ownBlock]⟩
  · rw [h']
    constructor
    · intro e
      have : qb = g' := Option.some.inj e
      exact blk_ne h.box hg (by decide) this
    · intro e
      have : mb = g' := Option.some.inj e
      rw [← this, h2] at hg
      cases hg
/-- What holds ahead of the append. -/
structure PushMid (w2 : World) (qb mb : Nat) (gb : Option Nat) (c : Nat) (l : List QE) (e : QE) (D D2 : List (IE Int)) (W : World) : Prop where
  box : w2.heap[qb]? = some (.cells #[.slice (qA gb) l.length c, .map (some mb)] 49 (0, 0))
  row : w2.ownsRow 0 51 2 (.slice (qA gb) l.length c) l.length (cellsQ l)
  map : IMapAt (fun v : Int => Value.int .i64 v) w2 mb D2
  dd : ∀ y, getI D2 y = if y = e.Item then some (l.length : Int) else getI D y
  turn : Turn (QS qb mb gb) W w2
theorem push_mid (h : QOk W qb mb gb c l D) (e : QE) {w1 w2 : World} {D2 : List (IE Int)} (hb1 : Below W.heap.size W w1)
    (hm : IMapAt (fun v : Int => Value.int .i64 v) w2 mb D2) (hD : ∀ y, getI D2 y = if y = e.Item then some (l.length : Int) else getI D y) (hsz : w2.heap.size = w1.heap.size) (hbl : ∀ k, k ≠ mb → w2.heap[k]? = w1.heap[k]?) (ho : w2.os = w1.os) (ht : w2.tape = w1.tape) (hu : w2.output = w1.output) :
    PushMid w2 qb mb gb c l e D D2 W := by
  obtain ⟨n1, n2, n3⟩ := h.qm
  have box2 : w2.heap[qb]? = some (.cells #[.slice (qA gb) l.length c, .map (some mb)] 49 (0, 0)) := (hbl qb (Ne.symm n1)).trans (blk_below h.box hb1)
  have hg12 : W.grownBy w2 (some mb) := ⟨ho.trans hb1.os, ht.trans hb1.tape, hu.trans hb1.output, by rw [hsz]; exact hb1.size, fun k hk hne => (hbl k (fun e => hne (by rw [e]))).trans (hb1.block k hk)⟩
  exact ⟨box2, h.row.kept hg12 (.inr (Ne.symm h.own_ne.2)), hm, hD, ⟨hg12.os, hg12.tape, hg12.output, hg12.size, fun k hk hS => hg12.block k hk (fun e => hS (.inr (.inl (Option.some.inj e))))⟩⟩
theorem push_end {w2 wA w3 : World} {D2 : List (IE Int)} {v' : Value} {e : QE} (h : QOk W qb mb gb c l D) (hn : getI D e.Item = none) (hl : l.length < 4096) (m : PushMid w2 qb mb gb c l e D D2 W) (hA : Below w2.heap.size w2 wA)
    (hown3 : w3.ownsRow 0 51 2 v' (l.length + 1) (cellsQ l ++ [.int .i64 e.Item, .int .i64 e.Key])) (hg3 : wA.grownBy w3 (Value.slice (qA gb) l.length c).ownBlock) (hat : v'.ownBlock = (Value.slice (qA gb) l.length c).ownBlock ∨ v'.ownBlock = some wA.heap.size) :
    (∃ gb' c' D', QOk (w3.setCell ⟨qb, 0, none⟩ v') qb mb gb' c' (l ++ [e]) D' ∧ (gb' = gb ∨ ∃ g, gb' = some g ∧ W.heap.size ≤ g)) ∧ Turn (QS qb mb gb) W (w3.setCell ⟨qb, 0, none⟩ v') ∧ w3.cell? ⟨qb, 0, none⟩ = some (.slice (qA gb) l.length c) ∧ w3.frozen? ⟨qb, 0, none⟩ = false := by
  obtain ⟨n1, n2, n3⟩ := h.qm
  obtain ⟨ne1, ne2⟩ := h.own_ne
  have boxA := blk_below m.box hA
  have hmA : IMapAt (fun v : Int => Value.int .i64 v) wA mb D2 := m.map.keep (hA.block mb m.map.lt)
  have box3 : w3.heap[qb]? = some (.cells #[.slice (qA gb) l.length c, .map (some mb)] 49 (0, 0)) := (hg3.block qb (blk_lt boxA) ne1).trans boxA
  have hm3 := hmA.keep (hg3.block mb hmA.lt ne2)
  have box4 : (w3.setCell ⟨qb, 0, none⟩ v').heap[qb]? = some (.cells #[v', .map (some mb)] 49 (0, 0)) := by simpa using blk_set box3 0 v'
  have hm4 : IMapAt (fun v : Int => Value.int .i64 v) (w3.setCell ⟨qb, 0, none⟩ v') mb D2 := hm3.keep (Below.heap_setCell w3 ⟨qb, 0, none⟩ v' mb n1)
  have hsA := hA.size
  have hs2 := m.turn.size
  have hT : Turn (QS qb mb gb) W (w3.setCell ⟨qb, 0, none⟩ v') := by
    refine ⟨hg3.os.trans (hA.os.trans m.turn.os), hg3.tape.trans (hA.tape.trans m.turn.tape), hg3.output.trans (hA.output.trans m.turn.output), ?_, fun k hk hS => ?_⟩
    · have := hg3.size
      simp
      omega
    · have k1 : k ≠ qb := fun e => hS (.inl e)
      have k3 : some k ≠ (Value.slice (qA gb) l.length c).ownBlock := by
        intro e
        apply hS
        right; right
        cases gb with
        | none => simp [qA, Value.ownBlock] at e
        | some g => simpa [qA, Value.ownBlock] using e
      rw [Below.heap_setCell w3 ⟨qb, 0, none⟩ v' k k1, hg3.block k (by omega) k3, hA.block k (by omega), m.turn.block k hk hS]
  refine ⟨?_, hT, blk_cell box3 0, blk_frozen box3 0⟩
  rcases hown3.2 with ⟨_, h5⟩ | ⟨g, cap, cur, rfl, _, hg5, hnc, hcm, hcs, htake⟩
  · omega
  · have gq : g ≠ qb := (blk_ne box3 hg5 (by decide)).symm
    refine ⟨some g, cap, D2, ⟨by simpa [qA] using box4, ?_, hm4, pl_push h.pl hn m.dd, by simp; omega⟩, ?_⟩
    · have h6 := own_setCell hown3 (p := ⟨qb, 0, none⟩) (by simp [Value.ownBlock]; exact Ne.symm gq) (.slice (some ⟨g, 0, none⟩) (l.length + 1) cap)
      rw [cellsQ_append]
      simpa [qA, cellsQ] using h6
    · rcases hat with hat | hat
      · left
        cases gb with
        | none => simp [qA, Value.ownBlock] at hat
        | some g' => simpa [qA, Value.ownBlock] using hat
      · right
        refine ⟨g, rfl, ?_⟩
        have : g = _ := Option.some.inj hat
        omega
theorem push_run {w2 wA : World} {D2 : List (IE Int)} {e : QE} (hl : l.length < 4096) (m : PushMid w2 qb mb gb c l e D D2 W) (hA : Below w2.heap.size w2 wA) {b : Nat} (hb : wA.heap[b]? = some (.cells #[.int .i64 e.Item, .int .i64 e.Key] 51 (0, 0))) :
    ∃ v' w3, (∃ g cap, v' = .slice (some ⟨g, 0, none⟩) (l.length + 1) cap) ∧ (Builtin.append_ #[45, 45] 45 #[.slice (qA gb) l.length c, .slice (some ⟨b, 0, none⟩) 1 1]).run Try.prog wA = .ok v' w3 ∧ w3.ownsRow 0 51 2 v' (l.length + 1) (cellsQ l ++ [.int .i64 e.Item, .int .i64 e.Key]) ∧
      wA.grownBy w3 (Value.slice (qA gb) l.length c).ownBlock ∧ (v'.ownBlock = (Value.slice (qA gb) l.length c).ownBlock ∨ v'.ownBlock = some wA.heap.size) := by
  obtain ⟨i, hi, hiz, his, hib⟩ := info_parts infoentry
  have hgA : w2.grownBy wA none := ⟨hA.os, hA.tape, hA.output, hA.size, fun k hk _ => hA.block k hk⟩
  have hownA : wA.ownsRow 0 51 2 (.slice (qA gb) l.length c) l.length (cellsQ l) := by
    refine m.row.kept hgA ?_
    cases gb with
    | none => exact .inl rfl
    | some g => exact .inr (by simp [qA, Value.ownBlock])
  obtain ⟨v', w3, hr, hown3, hg3, hnil, hat⟩ := run_append_own_at (P := Try.prog) wA 0 45 45 51 i _ 2 16 Try.underlying45 hi hiz his hib rfl (by decide)
    (.slice (qA gb) l.length c) l.length (cellsQ l) hownA ⟨b, 0, none⟩ 1 1 [.int .i64 e.Item, .int .i64 e.Key] rfl (fun j u hu => by rw [add_plain]; exact (blk_cell hb j).trans (by simpa using hu)) (by simp [Value.oneCell']) (by unfold maxLen; omega) (by omega) (Nat.zero_le _)
  refine ⟨v', w3, ?_, hr, hown3, hg3, hat⟩
  rcases hown3.2 with ⟨_, h5⟩ | ⟨g, cap, cur, h6, _⟩
  · omega
  · exact ⟨g, cap, h6⟩
theorem wp_append_run {P : Program} {o : Oper} {a : Act} {w w' : World} {K : Act → World → Prop} {Q : Exit → Act → World → Prop} {s x : Operand} {t : TypeId} {sv xv v' : Value} (ho : o.op = .call { callee := .builtin .append, args := #[s, x], argTypes := #[t, t] })
    (hs : a.eval s = sv) (hx : a.eval x = xv) (hr : (Builtin.append_ #[t, t] o.type #[sv, xv]).run P w = .ok v' w') (h : K (a.put o.dst v') w') : o.wp P a w K Q := by
  unfold Oper.wp execOp
  simp only [ho, resolve, invoke, builtin, Sem.run_bind, Sem.run_pure, Result.andThen_ok, List.map_toArray, List.map_cons, List.map_nil, hs, hx, hr]
  exact h
theorem run_assertE (v : Value) (W : World) : (Instr.typeAssert (.iface 51 v) 20 51 false).run Try.prog W = .ok v W := by kernel_rfl
set_option maxHeartbeats 4000000 in
theorem qPush_any (h : QOk W qb mb gb c l D) (e : QE) (hn : getI D e.Item = none) (hl : l.length < 4096) : Calls Try.prog 45 #[qP qb, .iface 51 (.agg #[.int .i64 e.Item, .int .i64 e.Key])] W
    fun x w' => x = .returned (.tuple #[]) ∧ (∃ gb' c' D', QOk w' qb mb gb' c' (l ++ [e]) D' ∧ (gb' = gb ∨ ∃ g, gb' = some g ∧ W.heap.size ≤ g)) ∧ Turn (QS qb mb gb) W w' := by
  have HQ := Aside0.mk h
  have HN := Aside0.mk hn
  have HL := Aside0.mk hl
  clear h hn hl
  have hta := run_assertE
  go_enter Try.func45, Try.ntmps45
  go_upto_region 1 with fail
  refine gen_wp (fun w1 => Below W.heap.size W w1 ∧ w1.heap[W.heap.size]? = some (.cells #[.int .i64 e.Item, .int .i64 e.Key] 51 (0, 0))) ⟨(by repeat (first | with_reducible exact Below.refl _ _ | with_reducible apply below_alloc | with_reducible apply below_drew | with_reducible apply pw_below_drewN | (with_reducible refine Below.setCell ?_ (by first | (simp; done) | (simp; omega) | (dsimp only; omega)) _) | (with_reducible refine below_to ?_ (by assumption)))), blk_new _ _⟩ (fun w1 H1 => ?_)
  have hx1 := blk_below HQ.out.box H1.out.1
  have h0 := blk_cell hx1 0
  have h1 := blk_cell hx1 1
  have y0 := blk_cell H1.out.2 0
  simp only [List.getElem?_toArray, List.getElem?_cons_succ, List.getElem?_cons_zero] at h0 h1 y0
  have hmW := HQ.out.map
  have hm1 : IMapAt (fun v : Int => Value.int .i64 v) w1.drew mb D := hmW.keep (H1.out.1.block mb hmW.lt)
  obtain ⟨w2, D2, hup, hm2, hD2, -, hsz, hbl, ho, ht, hu⟩ := hm1.update Try.underlying26 Try.underlying3 e.Item (l.length : Int)
  have HM := Aside0.mk (push_mid HQ.out e H1.out.1 hm2 hD2 hsz hbl ho ht hu)
  have hy2 := (hbl W.heap.size (Nat.ne_of_gt HQ.out.map.lt)).trans H1.out.2
  have HY := Aside0.mk hy2
  clear hx1 hmW hm1 hm2 hD2 hsz hbl ho ht hu hy2
  go_region
  clear h0 h1 y0 hup H1
  have h0 := blk_cell HM.out.box 0
  have y0 := blk_cell HY.out 0
  have y1 := blk_cell HY.out 1
  simp only [List.getElem?_toArray, List.getElem?_cons_succ, List.getElem?_cons_zero] at h0 y0 y1
  have hqw := blk_lt HM.out.box
  have hyw := blk_lt HY.out
  go_upto_region 2 with fail
  have hyr : some W.heap.size ≠ (Value.slice (qA gb) l.length c).ownBlock := by
    intro h
    rcases HM.out.row.2 with ⟨h', _⟩ | ⟨g', cap', cur, h', _⟩
    · rw [h'] at h; cases h
    · have := (HQ.out.row.lt W.heap.size h.symm).2
      omega
  refine wp_region_held_drew (S := fun W' => ∀ a : Addr, a.block < w2.heap.size → some a.block ≠ (Value.slice (qA gb) l.length c).ownBlock → a ≠ ⟨qb, 0, none⟩ → W'.cell? a = w2.cell? a) (by kernel_rfl) (hx_start _) (fun hHeld => ?_)
  refine (show wpAnyH _ _ _ _ _ 11 (Array.replicate 11 false) _ _ from ?_)
  refine wpAnyH_take (i := 0) (oi := _) (v := ?_) (by simp only [List.getElem?_toArray, List.getElem?_cons_succ, List.getElem?_cons_zero]; rfl) (by kernel_rfl) (by kernel_rfl) (by kernel_rfl) (by exact fun _ _ _ h => h) (Or.inl ⟨by rfl, ?_⟩) (by assumption) ?_
  rotate_left
  focus (intro w hSw; (try dsimp only at hSw); go_simp; (try with_reducible rfl); done)
  (try simp only [Act.put, List.setIfInBounds_toArray, List.set_cons_zero, List.set_cons_succ])
  refine wpAnyH_take (i := 1) (oi := _) (v := ?_) (by simp only [List.getElem?_toArray, List.getElem?_cons_succ, List.getElem?_cons_zero]; rfl) (by kernel_rfl) (by kernel_rfl) (by kernel_rfl) (by exact fun _ _ _ h => h) (Or.inl ⟨by rfl, ?_⟩) (by assumption) ?_
  rotate_left
  focus (intro w hSw; (try dsimp only at hSw); go_simp; (try with_reducible rfl); done)
  (try simp only [Act.put, List.setIfInBounds_toArray, List.set_cons_zero, List.set_cons_succ])
  refine wpAnyH_take (i := 2) (oi := _) (v := ?_) (by simp only [List.getElem?_toArray, List.getElem?_cons_succ, List.getElem?_cons_zero]; rfl) (by kernel_rfl) (by kernel_rfl) (by kernel_rfl) (by exact fun _ _ _ h => h) (Or.inl ⟨by rfl, ?_⟩) (by assumption) ?_
  rotate_left
  focus (intro w hSw; (try dsimp only at hSw); go_simp; (try with_reducible rfl); done)
  (try simp only [Act.put, List.setIfInBounds_toArray, List.set_cons_zero, List.set_cons_succ])
  refine wpAnyH_take (i := 3) (oi := _) (v := ?_) (by simp only [List.getElem?_toArray, List.getElem?_cons_succ, List.getElem?_cons_zero]; rfl) (by kernel_rfl) (by kernel_rfl) (by kernel_rfl) (by exact fun _ _ _ h => h) (Or.inl ⟨by rfl, ?_⟩) (by assumption) ?_
  rotate_left
  focus (intro w hSw; (try dsimp only at hSw); go_simp; (try with_reducible rfl); done)
  (try simp only [Act.put, List.setIfInBounds_toArray, List.set_cons_zero, List.set_cons_succ])
  have ny : (⟨W.heap.size, 0, none⟩ : Addr) ≠ ⟨qb, 0, none⟩ := by
    intro h
    have h2 : W.heap.size = qb := congrArg Addr.block h
    have := HQ.out.qlt
    omega
  have nz : (⟨W.heap.size, 1, none⟩ : Addr) ≠ ⟨qb, 0, none⟩ := by
    intro h
    have h2 : (1 : Nat) = 0 := congrArg Addr.off h
    omega
  refine wpAnyH_take (i := 5) (oi := _) (v := ?_) (by simp only [List.getElem?_toArray, List.getElem?_cons_succ, List.getElem?_cons_zero]; rfl) (by kernel_rfl) (by kernel_rfl) (by kernel_rfl) (by exact fun _ _ _ h => h) (Or.inl ⟨by rfl, ?_⟩) (by assumption) ?_
  rotate_left
  focus (intro w hSw; (try dsimp only at hSw); go_simp; (try with_reducible rfl); done)
  (try simp only [Act.put, List.setIfInBounds_toArray, List.set_cons_zero, List.set_cons_succ])
  refine wpAnyH_ready (rs := [4, 6]) (by kernel_rfl) (by simp) ?_
  refine AllReadyH.cons (o := _) (by simp only [List.getElem?_toArray, List.getElem?_cons_succ, List.getElem?_cons_zero]; rfl) (fun K hK => ?_) (AllReadyH.cons (o := _) (by simp only [List.getElem?_toArray, List.getElem?_cons_succ, List.getElem?_cons_zero]; rfl) (fun K hK => ?_) AllReadyH.nil)
  · go_simp
    clear hHeld
    refine hK.out _ _ (hx_start _) (fun hHeld => ?_)
    clear hK K
    (try simp only [Act.put, List.setIfInBounds_toArray, List.set_cons_zero, List.set_cons_succ])
    refine wpAnyH_ready (rs := [6]) (by kernel_rfl) (by simp) ?_
    refine AllReadyH.cons (o := _) (by simp only [List.getElem?_toArray, List.getElem?_cons_succ, List.getElem?_cons_zero]; rfl) (fun K hK => ?_) AllReadyH.nil
    go_simp
    clear hHeld
    refine hK.out _ _ (hx_below (by repeat (first | with_reducible exact Below.refl _ _ | with_reducible apply below_alloc | with_reducible apply below_drew | with_reducible apply pw_below_drewN | (with_reducible refine Below.setCell ?_ (by first | (simp; done) | (simp; omega) | (dsimp only; omega)) _) | (with_reducible refine below_to ?_ (by assumption))))) (fun hHeld => ?_)
    clear hK K
    (try simp only [Act.put, List.setIfInBounds_toArray, List.set_cons_zero, List.set_cons_succ])
    refine wpAnyH_ready (rs := [7]) (by kernel_rfl) (by simp) ?_
    refine AllReadyH.cons (o := _) (by simp only [List.getElem?_toArray, List.getElem?_cons_succ, List.getElem?_cons_zero]; rfl) (fun K hK => ?_) AllReadyH.nil
    obtain ⟨v', w3, ⟨g, cap, rfl⟩, hr, hown3, hg3, hat⟩ := push_run HL.out HM.out (wA := (w2.alloc (.cells #[.int .i64 e.Item, .int .i64 e.Key] 51)).drew) (by repeat (first | with_reducible exact Below.refl _ _ | with_reducible apply below_alloc | with_reducible apply below_drew | with_reducible apply pw_below_drewN | (with_reducible refine Below.setCell ?_ (by first | (simp; done) | (simp; omega) | (dsimp only; omega)) _) | (with_reducible refine below_to ?_ (by assumption)))) (blk_drew (blk_new w2 _))
    have HE := Aside0.mk (push_end HQ.out HN.out HL.out HM.out (by repeat (first | with_reducible exact Below.refl _ _ | with_reducible apply below_alloc | with_reducible apply below_drew | with_reducible apply pw_below_drewN | (with_reducible refine Below.setCell ?_ (by first | (simp; done) | (simp; omega) | (dsimp only; omega)) _) | (with_reducible refine below_to ?_ (by assumption)))) hown3 hg3 hat)
    refine wp_append_run rfl rfl rfl hr ?_
    clear hHeld
    refine hK.out _ _ (hx_grown (by repeat (first | with_reducible exact Below.refl _ _ | with_reducible apply below_alloc | with_reducible apply below_drew | with_reducible apply pw_below_drewN | (with_reducible refine Below.setCell ?_ (by first | (simp; done) | (simp; omega) | (dsimp only; omega)) _) | (with_reducible refine below_to ?_ (by assumption)))) hg3) (fun hHeld => ?_)
    clear hK K
    (try simp only [Act.put, List.setIfInBounds_toArray, List.set_cons_zero, List.set_cons_succ])
    refine wpAnyH_take (i := 8) (oi := _) (v := ?_) (by simp only [List.getElem?_toArray, List.getElem?_cons_succ, List.getElem?_cons_zero]; rfl) (by kernel_rfl) (by kernel_rfl) (by kernel_rfl) (by exact fun _ _ _ h => h) (Or.inl ⟨by rfl, ?_⟩) (by assumption) ?_
    rotate_left
    focus (intro w hSw; (try dsimp only at hSw); go_simp; (try with_reducible rfl); done)
    (try simp only [Act.put, List.setIfInBounds_toArray, List.set_cons_zero, List.set_cons_succ])
    refine wpAnyH_take (i := 9) (oi := _) (v := ?_) (by simp only [List.getElem?_toArray, List.getElem?_cons_succ, List.getElem?_cons_zero]; rfl) (by kernel_rfl) (by kernel_rfl) (by kernel_rfl) (by exact fun _ _ _ h => h) (Or.inl ⟨by rfl, ?_⟩) (by assumption) ?_
    rotate_left
    focus (intro w hSw; (try dsimp only at hSw); go_simp; (try with_reducible rfl); done)
    (try simp only [Act.put, List.setIfInBounds_toArray, List.set_cons_zero, List.set_cons_succ])
    refine wpAnyH_ready (rs := [10]) (by kernel_rfl) (by simp) ?_
    refine AllReadyH.cons (o := _) (by simp only [List.getElem?_toArray, List.getElem?_cons_succ, List.getElem?_cons_zero]; rfl) (fun K hK => ?_) AllReadyH.nil
    have z0 := HE.out.2.2.1
    have zf := HE.out.2.2.2
    have hH2 := hHeld
    go_simp
    clear hHeld
    refine hK.out _ _ (hx_set hH2) (fun hHeld => ?_)
    clear hK K
    (try simp only [Act.put, List.setIfInBounds_toArray, List.set_cons_zero, List.set_cons_succ])
    refine wpAnyH_done (by kernel_rfl) ?_ _
    go_wp2
    go_end0
    exact ⟨rfl, HE.out.1, HE.out.2.1⟩
  · go_simp
    clear hHeld
    refine hK.out _ _ (hx_below (by repeat (first | with_reducible exact Below.refl _ _ | with_reducible apply below_alloc | with_reducible apply below_drew | with_reducible apply pw_below_drewN | (with_reducible refine Below.setCell ?_ (by first | (simp; done) | (simp; omega) | (dsimp only; omega)) _) | (with_reducible refine below_to ?_ (by assumption))))) (fun hHeld => ?_)
    clear hK K
    (try simp only [Act.put, List.setIfInBounds_toArray, List.set_cons_zero, List.set_cons_succ])
    refine wpAnyH_ready (rs := [4]) (by kernel_rfl) (by simp) ?_
    refine AllReadyH.cons (o := _) (by simp only [List.getElem?_toArray, List.getElem?_cons_succ, List.getElem?_cons_zero]; rfl) (fun K hK => ?_) AllReadyH.nil
    go_simp
    clear hHeld
    refine hK.out _ _ (hx_below (by repeat (first | with_reducible exact Below.refl _ _ | with_reducible apply below_alloc | with_reducible apply below_drew | with_reducible apply pw_below_drewN | (with_reducible refine Below.setCell ?_ (by first | (simp; done) | (simp; omega) | (dsimp only; omega)) _) | (with_reducible refine below_to ?_ (by assumption))))) (fun hHeld => ?_)
    clear hK K
    (try simp only [Act.put, List.setIfInBounds_toArray, List.set_cons_zero, List.set_cons_succ])
    refine wpAnyH_ready (rs := [7]) (by kernel_rfl) (by simp) ?_
    refine AllReadyH.cons (o := _) (by simp only [List.getElem?_toArray, List.getElem?_cons_succ, List.getElem?_cons_zero]; rfl) (fun K hK => ?_) AllReadyH.nil
    obtain ⟨v', w3, ⟨g, cap, rfl⟩, hr, hown3, hg3, hat⟩ := push_run HL.out HM.out (wA := (w2.alloc (.cells #[.int .i64 e.Item, .int .i64 e.Key] 51)).drew) (by repeat (first | with_reducible exact Below.refl _ _ | with_reducible apply below_alloc | with_reducible apply below_drew | with_reducible apply pw_below_drewN | (with_reducible refine Below.setCell ?_ (by first | (simp; done) | (simp; omega) | (dsimp only; omega)) _) | (with_reducible refine below_to ?_ (by assumption)))) (blk_drew (blk_new w2 _))
    have HE := Aside0.mk (push_end HQ.out HN.out HL.out HM.out (by repeat (first | with_reducible exact Below.refl _ _ | with_reducible apply below_alloc | with_reducible apply below_drew | with_reducible apply pw_below_drewN | (with_reducible refine Below.setCell ?_ (by first | (simp; done) | (simp; omega) | (dsimp only; omega)) _) | (with_reducible refine below_to ?_ (by assumption)))) hown3 hg3 hat)
    refine wp_append_run rfl rfl rfl hr ?_
    clear hHeld
    refine hK.out _ _ (hx_grown (by repeat (first | with_reducible exact Below.refl _ _ | with_reducible apply below_alloc | with_reducible apply below_drew | with_reducible apply pw_below_drewN | (with_reducible refine Below.setCell ?_ (by first | (simp; done) | (simp; omega) | (dsimp only; omega)) _) | (with_reducible refine below_to ?_ (by assumption)))) hg3) (fun hHeld => ?_)
    clear hK K
    (try simp only [Act.put, List.setIfInBounds_toArray, List.set_cons_zero, List.set_cons_succ])
    refine wpAnyH_take (i := 8) (oi := _) (v := ?_) (by simp only [List.getElem?_toArray, List.getElem?_cons_succ, List.getElem?_cons_zero]; rfl) (by kernel_rfl) (by kernel_rfl) (by kernel_rfl) (by exact fun _ _ _ h => h) (Or.inl ⟨by rfl, ?_⟩) (by assumption) ?_
    rotate_left
    focus (intro w hSw; (try dsimp only at hSw); go_simp; (try with_reducible rfl); done)
    (try simp only [Act.put, List.setIfInBounds_toArray, List.set_cons_zero, List.set_cons_succ])
    refine wpAnyH_take (i := 9) (oi := _) (v := ?_) (by simp only [List.getElem?_toArray, List.getElem?_cons_succ, List.getElem?_cons_zero]; rfl) (by kernel_rfl) (by kernel_rfl) (by kernel_rfl) (by exact fun _ _ _ h => h) (Or.inl ⟨by rfl, ?_⟩) (by assumption) ?_
    rotate_left
    focus (intro w hSw; (try dsimp only at hSw); go_simp; (try with_reducible rfl); done)
    (try simp only [Act.put, List.setIfInBounds_toArray, List.set_cons_zero, List.set_cons_succ])
    refine wpAnyH_ready (rs := [10]) (by kernel_rfl) (by simp) ?_
    refine AllReadyH.cons (o := _) (by simp only [List.getElem?_toArray, List.getElem?_cons_succ, List.getElem?_cons_zero]; rfl) (fun K hK => ?_) AllReadyH.nil
    have z0 := HE.out.2.2.1
    have zf := HE.out.2.2.2
    have hH2 := hHeld
    go_simp
    clear hHeld
    refine hK.out _ _ (hx_set hH2) (fun hHeld => ?_)
    clear hK K
    (try simp only [Act.put, List.setIfInBounds_toArray, List.set_cons_zero, List.set_cons_succ])
    refine wpAnyH_done (by kernel_rfl) ?_ _
    go_wp2
    go_end0
    exact ⟨rfl, HE.out.1, HE.out.2.1⟩
end
end Go.Proofs.Ytiejegalokncgaa
