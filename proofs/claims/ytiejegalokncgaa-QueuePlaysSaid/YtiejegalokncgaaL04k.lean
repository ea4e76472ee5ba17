/- The document's queue: Take.
Conditions: none. -/
import Derived.Test.YtiejegalokncgaaL04j
namespace Go.Proofs.Ytiejegalokncgaa
open Go.RowKit Go.Proofs.YtiejegalokncgaaW.PrintWords Go.Proofs.YtiejegalokncgaaW.PrintLast Go.Proofs.YtiejegalokncgaaW.PrintMore
set_option linter.unusedVariables false
set_option linter.unusedSimpArgs false
section
variable {W : World} {rb c : Nat} {gb : Option Nat} {m : List QE}
theorem ROk.below (h : ROk W rb gb c m) {w' : World} (hb : Below W.heap.size W w') : ROk w' rb gb c m :=
  ⟨blk_below h.box hb, h.row.kept (row := none) ⟨hb.os, hb.tape, hb.output, hb.size, fun k hk _ => hb.block k hk⟩ (by cases gb with
    | none => exact .inl rfl
    | some g => exact .inr (by simp [qA, Value.ownBlock])), h.len⟩
theorem RS.turn {w1 w' : World} {S : Nat → Prop} (hb : Below W.heap.size W w1) (ht : Turn S w1 w') : Turn S W w' := Turn.trans (S' := S) (Turn.of_below hb) ht (fun _ _ h => h)
set_option maxHeartbeats 4000000 in
theorem rTake_any (h : ROk W rb gb c m) (hI : ItemsOk m) : Calls Try.prog 13 #[qP rb] W
    fun e w' => e = .returned (.tuple #[.int .i64 (match takeQ m with | some a => a.Item | none => 0), .int .i64 (match takeQ m with | some a => a.Key | none => 0), .bool (takeQ m).isSome]) ∧
      (∃ gb' c', ROk w' rb gb' c' (match takeQ m with | some a => dropQ m a.Item | none => m) ∧ (gb' = gb ∨ gb' = none ∨ ∃ g, gb' = some g ∧ W.heap.size ≤ g)) ∧ Turn (RS rb gb) W w' := by
  have HRO := Aside0.mk h
  have HI := Aside0.mk hI
  have h0 := h.cell0
  have hln := h.len
  have hqw := World.block_lt_of_cell? _ ⟨rb, 0, none⟩ h0
  cases hm : m with
  | nil =>
    have d1 : ((m.length : Int) == 0) = true := by simp [hm]
    have HM := Aside0.mk hm
    rw [← hm]
    have ht : takeQ m = none := takeQ_nil.2 hm
    rw [ht]
    clear h hI hm ht
    go_enter Try.func13, Try.ntmps13
    go_wp2
    exact bodyPost_ret (v := .tuple #[.int .i64 0, .int .i64 0, .bool false]) (by simp [results, Try.results13, go_sem, *]) rfl ⟨rfl, ⟨gb, by first | exact ⟨c, HRO.out, .inl rfl⟩ | exact ⟨⟨c, HRO.out⟩, .inl rfl⟩⟩, Turn.refl _ _⟩
  | cons a0 tl =>
    have hm0 : 0 < m.length := by rw [hm]; simp
    have d1 : ((m.length : Int) == 0) = false := by rw [beq_eq_false_iff_ne]; omega
    obtain ⟨R, hR⟩ : ∃ R, bestQ a0 tl = R := ⟨_, rfl⟩
    have ht : takeQ m = some R := by rw [hm]; exact congrArg some hR
    have hat0 : atE m 0 = a0 := by rw [hm]; rfl
    rw [← hm, ht]
    have HB0 : Aside0 (bestQ (atE m 0) (m.drop 1) = R) := ⟨by rw [hat0, hm]; exact hR⟩
    obtain ⟨g, rfl, hg, x0, x1⟩ := h.at_ 0 hm0
    simp only [Nat.zero_mul, Nat.zero_add] at x0 x1
    have i0 : (0 : Int) < m.length := by omega
    clear h hI hm ht hat0 hR
    go_enter Try.func13, Try.ntmps13
    go_upto_region 4 with fail
    refine gen_wp (fun w1 => Below W.heap.size W w1 ∧ w1.heap[W.heap.size]? = some (.cells #[.int .i64 (atE m 0).Item, .int .i64 (atE m 0).Key] 57 (0, 0))) ⟨(by repeat (first | with_reducible exact Below.refl _ _ | with_reducible apply below_alloc | with_reducible apply below_drew | with_reducible apply pw_below_drewN | (with_reducible refine Below.setCell ?_ (by first | (simp; done) | (simp; omega) | (dsimp only; omega)) _) | (with_reducible refine below_to ?_ (by assumption)))), blk_new _ _⟩ (fun w1 H1 => ?_)
    clear x0 x1 h0
    go_wp2
    go_loopw [6] (fun vi wr => ∃ (i : Nat) (b : QE), 1 ≤ i ∧ i ≤ m.length ∧ vi = .int .i64 i ∧ Aside0 (bestQ b (m.drop i) = R) ∧ Aside0 (wr.heap[W.heap.size]? = some (.cells #[.int .i64 b.Item, .int .i64 b.Key] 57 (0, 0))) ∧ Aside0 (Below W.heap.size W wr)) (fun vi _ => m.length - (intOf vi).toNat)
    case atStart => exact ⟨1, atE m 0, Nat.le_refl _, hm0, rfl, HB0, ⟨H1.out.2⟩, ⟨H1.out.1⟩⟩
    case round =>
      obtain ⟨i, b, hi1, hi, rfl, HBR, HBX, HW⟩ := hrel
      have h0 := (HRO.out.below HW.out).cell0
      by_cases hlt : i < m.length
      · have d2 : decide ((i : Int) < (m.length : Int)) = true := decide_eq_true (by omega)
        obtain ⟨g', e, hg', x0, x1⟩ := (HRO.out.below HW.out).at_ i hlt
        obtain rfl := Option.some.inj e
        have i1 : (0 : Int) ≤ i := by omega
        have i2 : (i : Int) < m.length := by omega
        have hbr := HBR.out
        rw [List.drop_eq_getElem_cons hlt, bestQ, ← atE_get hlt] at hbr
        have HBR2 := Aside0.mk hbr
        clear hbr e
        go_upto_region 8 with fail
        refine gen_wp (fun w2 => Below wr.heap.size wr w2 ∧ w2.heap[wr.heap.size]? = some (.cells #[.int .i64 (atE m i).Item, .int .i64 (atE m i).Key] 57 (0, 0))) ⟨(by repeat (first | with_reducible exact Below.refl _ _ | with_reducible apply below_alloc | with_reducible apply below_drew | with_reducible apply pw_below_drewN | (with_reducible refine Below.setCell ?_ (by first | (simp; done) | (simp; omega) | (dsimp only; omega)) _) | (with_reducible refine below_to ?_ (by assumption)))), blk_new _ _⟩ (fun w2 H2 => ?_)
        clear x0 x1 h0
        have hyb := H2.out.2
        have hbb := blk_below HBX.out H2.out.1
        have y0 := blk_cell hyb 0
        have y1 := blk_cell hyb 1
        have b0 := blk_cell hbb 0
        have b1 := blk_cell hbb 1
        have bf0 := blk_frozen hbb 0
        have bf1 := blk_frozen hbb 1
        simp only [List.getElem?_toArray, List.getElem?_cons_succ, List.getElem?_cons_zero] at y0 y1 b0 b1
        have HB2 : Aside0 (Below W.heap.size W w2) := ⟨below_to HW.out H2.out.1⟩
        have HBB := Aside0.mk hbb
        clear hyb hbb H2
        by_cases k1 : (atE m i).Key < b.Key
        · have e1 : decide ((atE m i).Key < b.Key) = true := decide_eq_true k1
          have HLT : Aside0 ((atE m i).lt b) := ⟨.inl k1⟩
          go_wp2
          go_roundw
          case rel => exact ⟨i + 1, atE m i, by omega, by omega, by go_num, ⟨by have := HBR2.out; rw [if_pos HLT.out] at this; exact this⟩, ⟨by first | exact blk_put (blk_put HBB.out 0 _ rfl) 1 _ rfl | (have := blk_set (blk_set HBB.out 0 (.int .i64 (atE m i).Item)) 1 (.int .i64 (atE m i).Key); simpa using this)⟩, ⟨(HB2.out.setCell (Nat.le_refl _) _).setCell (Nat.le_refl _) _⟩⟩
          case measure => simp [intOf]; omega
        · have e1 : decide ((atE m i).Key < b.Key) = false := decide_eq_false k1
          by_cases k2 : (atE m i).Key = b.Key
          · have e2 : ((atE m i).Key == b.Key) = true := by simp [k2]
            by_cases k3 : (atE m i).Item < b.Item
            · have e3 : decide ((atE m i).Item < b.Item) = true := decide_eq_true k3
              have HLT : Aside0 ((atE m i).lt b) := ⟨.inr ⟨k2, k3⟩⟩
              clear k2
              go_wp2
              go_roundw
              case rel => exact ⟨i + 1, atE m i, by omega, by omega, by go_num, ⟨by have := HBR2.out; rw [if_pos HLT.out] at this; exact this⟩, ⟨by first | exact blk_put (blk_put HBB.out 0 _ rfl) 1 _ rfl | (have := blk_set (blk_set HBB.out 0 (.int .i64 (atE m i).Item)) 1 (.int .i64 (atE m i).Key); simpa using this)⟩, ⟨(HB2.out.setCell (Nat.le_refl _) _).setCell (Nat.le_refl _) _⟩⟩
              case measure => simp [intOf]; omega
            · have e3 : decide ((atE m i).Item < b.Item) = false := decide_eq_false k3
              have HLT : Aside0 (¬ (atE m i).lt b) := ⟨fun h => by rcases h with h | h <;> omega⟩
              clear k2
              go_wp2
              go_roundw
              case rel => exact ⟨i + 1, b, by omega, by omega, by go_num, ⟨by have := HBR2.out; rw [if_neg HLT.out] at this; exact this⟩, HBB, HB2⟩
              case measure => simp [intOf]; omega
          · have e2 : ((atE m i).Key == b.Key) = false := by simp [k2]
            have HLT : Aside0 (¬ (atE m i).lt b) := ⟨fun h => by rcases h with h | h <;> omega⟩
            clear k2
            go_wp2
            go_roundw
            case rel => exact ⟨i + 1, b, by omega, by omega, by go_num, ⟨by have := HBR2.out; rw [if_neg HLT.out] at this; exact this⟩, HBB, HB2⟩
            case measure => simp [intOf]; omega
      · --DEV:fin{
        have d2 : decide ((i : Int) < (m.length : Int)) = false := decide_eq_false (by omega)
        have hbr := HBR.out
        rw [List.drop_of_length_le (by omega)] at hbr
        obtain rfl : b = R := hbr
        have b0 := blk_cell HBX.out 0
        have b1 := blk_cell HBX.out 1
        simp only [List.getElem?_toArray, List.getElem?_cons_succ, List.getElem?_cons_zero] at b0 b1
        have HD := Aside0.mk (rDrop_any (HRO.out.below HW.out) HI.out b.Item)
        go_upto_region 11 with (go_at_call 15; refine HD.out.mono ?_; rintro e w3 ⟨rfl, ⟨gb', c', hq, hgb⟩, ht⟩; have HQ3 := Aside0.mk hq; have HG3 := Aside0.mk hgb; have HT3 := Aside0.mk ht; clear hq hgb ht)
        have hb3 := (HT3.out.block W.heap.size (blk_lt HBX.out) (fun hS => by
          rcases hS with hS | hS
          · have := blk_lt HRO.out.box; omega
          · have := Option.some.inj hS; omega)).trans HBX.out
        clear b0 b1
        have b0 := blk_cell hb3 0
        have b1 := blk_cell hb3 1
        simp only [List.getElem?_toArray, List.getElem?_cons_succ, List.getElem?_cons_zero] at b0 b1
        clear hb3
        go_region
        go_wp2
        have hsz := HW.out.size
        have hgg : gb' = some g ∨ gb' = none ∨ ∃ g, gb' = some g ∧ W.heap.size ≤ g := by
          rcases HG3.out with h | h | ⟨g', h, h2⟩
          · exact .inl h
          · exact .inr (.inl h)
          · exact .inr (.inr ⟨g', h, by omega⟩)
        have ht := RS.turn HW.out HT3.out
        exact bodyPost_ret (v := .tuple #[.int .i64 b.Item, .int .i64 b.Key, .bool true]) (by simp [results, Try.results13, go_sem, *]) rfl ⟨rfl, ⟨gb', by first | exact ⟨c', HQ3.out.below (by first | exact Below.refl _ _ | exact below_drew (Below.refl _ _)), hgg⟩ | exact ⟨⟨c', HQ3.out.below (by first | exact Below.refl _ _ | exact below_drew (Below.refl _ _))⟩, hgg⟩⟩, ⟨ht.os, ht.tape, ht.output, ht.size, ht.block⟩⟩
end
end Go.Proofs.Ytiejegalokncgaa
