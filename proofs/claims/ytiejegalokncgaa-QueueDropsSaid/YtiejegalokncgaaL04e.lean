/- QueueDrops: it answers true.
Conditions: none. -/
import Derived.Test.YtiejegalokncgaaL04d
namespace Go.Proofs.Ytiejegalokncgaa
open Go.RowKit Go.Proofs.YtiejegalokncgaaW.PrintWords Go.Proofs.YtiejegalokncgaaW.PrintLast Go.Proofs.YtiejegalokncgaaW.PrintMore
set_option linter.unusedVariables false
set_option linter.unusedSimpArgs false
set_option maxHeartbeats 8000000 in
set_option maxRecDepth 100000 in
theorem queueDrops_any (l0 : List Int) (A0 : Option Addr) (c0 : Nat) (l1 : List Int) (A1 : Option Addr) (c1 : Nat) (l2 : List Int) (A2 : Option Addr) (c2 : Nat) (w : World) (hn0 : l0.length ≤ 4611686018427387904) (hn1 : l1.length ≤ 4611686018427387904) (hn2 : l2.length ≤ 4611686018427387904)
    (hr0 : Kd.C (Kd.int .i64) w A0 l0.length l0) (hr1 : Kd.C (Kd.int .i64) w A1 l1.length l1) (hr2 : Kd.C (Kd.int .i64) w A2 l2.length l2) :
    Calls Try.prog 7 #[.slice A0 l0.length c0, .slice A1 l1.length c1, .slice A2 l2.length c2] w fun e w' => e = .returned (.bool true) ∧ Below w.heap.size w w' := by
  have HR0 := Aside0.mk hr0
  have HR1 := Aside0.mk hr1
  have HR2 := Aside0.mk hr2
  clear hr0 hr1 hr2
  have hmk := fun W => run_makeMap (P := Try.prog) 43 W
  go_enter Try.func7, Try.ntmps7
  go_upto_region 5 with (first
    | (go_at_call 8; refine (awake04_any _).mono ?_; rintro e w1 ⟨rfl, hb⟩; have HB1 := Aside0.mk hb; clear hb)
    | (go_at_call 9; with_reducible refine (qqNew w _ HB1.out).mono ?_; rintro e w2 ⟨rfl, hq, hb2⟩; have HQ2 := Aside0.mk hq; have HB2 := Aside0.mk hb2; clear hq hb2)
    | (go_at_call 9; with_reducible refine (qqNew w _ HQ2.out.b).mono ?_; rintro e w3 ⟨rfl, hq, hb2⟩; have HQ3 := Aside0.mk hq; have HB3 := Aside0.mk hb2; clear hq hb2))
  obtain ⟨a1, a2⟩ := HQ2.out.q.lts
  obtain ⟨b1, b2⟩ := HQ3.out.q.lts
  have hs12 := HB2.out.size
  have hs23 := HB3.out.size
  refine gen_wp (fun W => Q2 w W (w1.heap.size + 1) w1.heap.size (w2.heap.size + 1) w2.heap.size w3.heap.size none none [] [] []) ⟨(HQ2.out.below HB3.out).below (by repeat (first | with_reducible exact Below.refl _ _ | with_reducible apply below_alloc | with_reducible apply below_drew | with_reducible apply pw_below_drewN | (with_reducible refine Below.setCell ?_ (by first | (simp; done) | (simp; omega) | (dsimp only; omega)) _) | (with_reducible refine below_to ?_ (by assumption)))), HQ3.out.below (by repeat (first | with_reducible exact Below.refl _ _ | with_reducible apply below_alloc | with_reducible apply below_drew | with_reducible apply pw_below_drewN | (with_reducible refine Below.setCell ?_ (by first | (simp; done) | (simp; omega) | (dsimp only; omega)) _) | (with_reducible refine below_to ?_ (by assumption)))), IMapAt.new w3, HQ3.out.b.size, fun k ha hb => ?_, fun ha => ?_, fun hb => ?_⟩ (fun w4 HQ4 => ?_)
  · rcases ha with h | h | h <;> rcases hb with h' | h' | h' <;> first | (exfalso; omega) | (exact absurd h (by simp)) | (exact absurd h' (by simp))
  · rcases ha with h | h | h <;> first | (exfalso; omega) | (exact absurd h (by simp))
  · rcases hb with h | h | h <;> first | (exfalso; omega) | (exact absurd h (by simp))
  clear hmk a1 a2 b1 b2 hs12 hs23 HQ2 HB1 HB2 HQ3 HB3
  generalize w3.heap.size = lb at *
  generalize w2.heap.size + 1 = qb at *
  generalize w2.heap.size = mb at *
  generalize w1.heap.size + 1 = qa at *
  generalize w1.heap.size = ma at *
  go_wp2
  go_loopw [30] (fun vi wr => ∃ (i : Nat) (G : List (IE Bool)), i ≤ l2.length ∧ vi = .int .i64 i ∧ Aside0 (Q2 w wr qa ma qb mb lb none none [] [] G) ∧ Aside0 (∀ x, getI G x = if goneS (l2.take i) x = true then some true else none)) (fun vi _ => l2.length - (intOf vi).toNat)
  case atStart => exact ⟨0, [], Nat.zero_le _, rfl, HQ4, ⟨fun x => rfl⟩⟩
  case round =>
    obtain ⟨i, G, hi, rfl, HQ, HG⟩ := hrel
    by_cases hlt : i < l2.length
    · --DEV:p1{
      have r0 : (0 : Int) ≤ (i : Int) := by omega
      have r1 : (i : Int) < (l2.length : Int) := by omega
      obtain ⟨a0, ea0, x0⟩ := Kd.at_int (Kd.C_below HR2.out HQ.out.a.b) (i : Int) r0 r1
      subst ea0
      have hrd : rd l2 (i : Int) = l2[i] := by simp [rd, List.getElem?_eq_getElem hlt]
      rw [hrd] at x0
      simp only [Int.toNat_natCast] at x0
      have hgd : IMapAt bV wr lb G := HQ.out.g
      obtain ⟨w5, G', hup, hm5, hD5, -, hsz, hbl, ho, ht, hu⟩ := hgd.update (P := Try.prog) (T := 43) Try.underlying43 Try.underlying3 l2[i] true
      have HT5 : Aside0 (Turn (fun k => k = lb) wr w5) := ⟨⟨ho, ht, hu, by rw [hsz]; exact Nat.le_refl _, fun k _ hk => hbl k hk⟩⟩
      have HM5 := Aside0.mk (show _ ∧ _ from ⟨hm5, hD5⟩)
      unfold bV at hup
      clear hgd hm5 hD5 hsz hbl ho ht hu hrd
      go_wp2
      go_roundw
      case rel => exact ⟨i + 1, G', by omega, by go_num, ⟨HQ.out.onG HM5.out.1 HT5.out⟩, ⟨fun x => by
        rw [HM5.out.2, HG.out, goneS_take hlt]
        by_cases e : x = l2[i]
        · rw [if_pos e, if_pos (by simp [e])]
        · rw [if_neg e]
          have : decide (l2[i] = x) = false := decide_eq_false (fun h => e h.symm)
          rw [this, Bool.or_false]⟩⟩
      case measure => simp [intOf]; omega
    · --DEV:p2{
      obtain rfl : i = l2.length := by omega
      have hg := HG.out
      rw [List.take_of_length_le (Nat.le_refl _)] at hg
      have HGG := Aside0.mk hg
      clear hg HG hlt
      go_wp2
      go_loopw [12] (fun vi wr2 => ∃ (i : Nat) (ga gb : Option Nat) (a b : List QE), i ≤ 200 ∧ vi = .int .i64 i ∧ a.length ≤ i ∧ b.length ≤ i ∧ Aside0 (Q2 w wr2 qa ma qb mb lb ga gb a b G) ∧ Aside0 (∀ z, findQ b z = if goneS l2 z = true then none else findQ a z)) (fun vi _ => 200 - (intOf vi).toNat)
      case atStart => exact ⟨0, none, none, [], [], by omega, rfl, Nat.le_refl _, Nat.le_refl _, HQ, ⟨fun z => by split <;> rfl⟩⟩
      case round =>
        obtain ⟨i, ga, gb, a, b, hi, rfl, hla, hlb, HQ2, HE⟩ := hrel
        have HLA := Aside0.mk (show a.length ≤ i ∧ b.length ≤ i from ⟨hla, hlb⟩)
        clear hla hlb
        by_cases hlt : i < l0.length ∧ i < l1.length ∧ i < 200
        · --DEV:p3{
          obtain ⟨g0, g1, g2⟩ := hlt
          have d0 : decide ((i : Int) < (l0.length : Int)) = true := decide_eq_true (by omega)
          have d1 : decide ((i : Int) < (l1.length : Int)) = true := decide_eq_true (by omega)
          have d2 : decide ((i : Int) < 200) = true := decide_eq_true (by omega)
          have r0 : (0 : Int) ≤ (i : Int) := by omega
          have r1 : (i : Int) < (l0.length : Int) := by omega
          have r2 : (i : Int) < (l1.length : Int) := by omega
          obtain ⟨a0, ea0, x0⟩ := Kd.at_int HR0.out (i : Int) r0 r1
          obtain ⟨a1, ea1, y0⟩ := Kd.at_int HR1.out (i : Int) r0 r2
          subst ea0
          subst ea1
          generalize rd l0 (i : Int) = x at *
          generalize rd l1 (i : Int) = y at *
          simp only [Int.toNat_natCast] at x0 y0
          have X0 := stays x0
          have Y0 := stays y0
          clear x0 y0
          have x0 := X0.out _ HQ2.out.a.b
          have y0 := Y0.out _ HQ2.out.a.b
          have hx := World.block_lt_of_cell? _ _ x0
          have hy := World.block_lt_of_cell? _ _ y0
          have HPA := Aside0.mk (putQ_len a x y)
          have HPB := Aside0.mk (putQ_len b x y)
          have HEE := Aside0.mk (drops_put HQ2.out.a.q.items HQ2.out.b.q.items (show a.length < 4096 by have := HLA.out; omega) (show b.length < 4096 by have := HLA.out; omega) HE.out x y)
          go_upto_region 13 with fail
          refine wp_region_tailH (S := fun W' => Below wr.heap.size wr W' ∧ ∀ a : Addr, a.block < wr.heap.size → W'.cell? a = wr.cell? a) 9 (by kernel_rfl) (by kernel_rfl) (by kernel_rfl) (hl_start _) (fun hHeld => ?_)
          simp only [List.take_succ_cons, List.take_zero, List.drop_succ_cons, List.drop_zero]
          refine wpAnyH_take (i := 0) (oi := _) (v := ?_) (by simp only [List.getElem?_toArray, List.getElem?_cons_succ, List.getElem?_cons_zero]; rfl) (by kernel_rfl) (by kernel_rfl) (by kernel_rfl) (tail_hQ (by exact fun _ _ _ h => h)) (Or.inl ⟨by rfl, ?_⟩) (by assumption) ?_
          rotate_left
          focus (intro w hSw; (try dsimp only at hSw); go_simp; (try with_reducible rfl); done)
          (try simp only [Act.put, List.setIfInBounds_toArray, List.set_cons_zero, List.set_cons_succ])
          refine wpAnyH_take (i := 1) (oi := _) (v := ?_) (by simp only [List.getElem?_toArray, List.getElem?_cons_succ, List.getElem?_cons_zero]; rfl) (by kernel_rfl) (by kernel_rfl) (by kernel_rfl) (tail_hQ (by exact fun _ _ _ h => h)) (Or.inl ⟨by rfl, ?_⟩) (by assumption) ?_
          rotate_left
          focus (intro w hSw; (try dsimp only at hSw); go_simp; (try with_reducible rfl); done)
          (try simp only [Act.put, List.setIfInBounds_toArray, List.set_cons_zero, List.set_cons_succ])
          refine wpAnyH_take (i := 2) (oi := _) (v := ?_) (by simp only [List.getElem?_toArray, List.getElem?_cons_succ, List.getElem?_cons_zero]; rfl) (by kernel_rfl) (by kernel_rfl) (by kernel_rfl) (tail_hQ (by exact fun _ _ _ h => h)) (Or.inl ⟨by rfl, ?_⟩) (by assumption) ?_
          rotate_left
          focus (intro w hSw; (try dsimp only at hSw); go_simp; (try with_reducible rfl); done)
          (try simp only [Act.put, List.setIfInBounds_toArray, List.set_cons_zero, List.set_cons_succ])
          refine wpAnyH_take (i := 3) (oi := _) (v := ?_) (by simp only [List.getElem?_toArray, List.getElem?_cons_succ, List.getElem?_cons_zero]; rfl) (by kernel_rfl) (by kernel_rfl) (by kernel_rfl) (tail_hQ (by exact fun _ _ _ h => h)) (Or.inl ⟨by rfl, ?_⟩) (by assumption) ?_
          rotate_left
          focus (intro w hSw; (try dsimp only at hSw); go_simp; (try with_reducible rfl); done)
          (try simp only [Act.put, List.setIfInBounds_toArray, List.set_cons_zero, List.set_cons_succ])
          refine wpAnyH_take (i := 4) (oi := _) (v := ?_) (by simp only [List.getElem?_toArray, List.getElem?_cons_succ, List.getElem?_cons_zero]; rfl) (by kernel_rfl) (by kernel_rfl) (by kernel_rfl) (tail_hQ (by exact fun _ _ _ h => h)) (Or.inl ⟨by rfl, ?_⟩) (by assumption) ?_
          rotate_left
          focus (intro w hSw; (try dsimp only at hSw); go_simp; (try with_reducible rfl); done)
          (try simp only [Act.put, List.setIfInBounds_toArray, List.set_cons_zero, List.set_cons_succ])
          refine wpAnyH_take (i := 5) (oi := _) (v := ?_) (by simp only [List.getElem?_toArray, List.getElem?_cons_succ, List.getElem?_cons_zero]; rfl) (by kernel_rfl) (by kernel_rfl) (by kernel_rfl) (tail_hQ (by exact fun _ _ _ h => h)) (Or.inl ⟨by rfl, ?_⟩) (by assumption) ?_
          rotate_left
          focus (intro w hSw; (try dsimp only at hSw); go_simp; (try with_reducible rfl); done)
          (try simp only [Act.put, List.setIfInBounds_toArray, List.set_cons_zero, List.set_cons_succ])
          refine wpAnyH_take (i := 6) (oi := _) (v := ?_) (by simp only [List.getElem?_toArray, List.getElem?_cons_succ, List.getElem?_cons_zero]; rfl) (by kernel_rfl) (by kernel_rfl) (by kernel_rfl) (tail_hQ (by exact fun _ _ _ h => h)) (Or.inl ⟨by rfl, ?_⟩) (by assumption) ?_
          rotate_left
          focus (intro w hSw; (try dsimp only at hSw); go_simp; (try with_reducible rfl); done)
          (try simp only [Act.put, List.setIfInBounds_toArray, List.set_cons_zero, List.set_cons_succ])
          refine wpAnyH_take (i := 7) (oi := _) (v := ?_) (by simp only [List.getElem?_toArray, List.getElem?_cons_succ, List.getElem?_cons_zero]; rfl) (by kernel_rfl) (by kernel_rfl) (by kernel_rfl) (tail_hQ (by exact fun _ _ _ h => h)) (Or.inl ⟨by rfl, ?_⟩) (by assumption) ?_
          rotate_left
          focus (intro w hSw; (try dsimp only at hSw); go_simp; (try with_reducible rfl); done)
          (try simp only [Act.put, List.setIfInBounds_toArray, List.set_cons_zero, List.set_cons_succ])
          refine wpAnyH_take (i := 8) (oi := _) (v := ?_) (by simp only [List.getElem?_toArray, List.getElem?_cons_succ, List.getElem?_cons_zero]; rfl) (by kernel_rfl) (by kernel_rfl) (by kernel_rfl) (tail_hQ (by exact fun _ _ _ h => h)) (Or.inl ⟨by rfl, ?_⟩) (by assumption) ?_
          rotate_left
          focus (intro w hSw; (try dsimp only at hSw); go_simp; (try with_reducible rfl); done)
          (try simp only [Act.put, List.setIfInBounds_toArray, List.set_cons_zero, List.set_cons_succ])
          refine wpAnyH_tail (by kernel_rfl) ?_ _
          go_upto_region 14 with (go_at_call 10; refine (qqPut (HQ2.out.a.below (by repeat (first | with_reducible exact Below.refl _ _ | with_reducible apply below_alloc | with_reducible apply below_drew | with_reducible apply pw_below_drewN | (with_reducible refine Below.setCell ?_ (by first | (simp; done) | (simp; omega) | (dsimp only; omega)) _) | (with_reducible refine below_to ?_ (by assumption))))) x y).mono ?_; rintro e w5 ⟨rfl, ga5, hq, hg, ht⟩; have HQ5 : Aside0 (Q2 w w5 qa ma qb mb lb ga5 gb (putQ a x y).1 b G) := ⟨(HQ2.out.below (by repeat (first | with_reducible exact Below.refl _ _ | with_reducible apply below_alloc | with_reducible apply below_drew | with_reducible apply pw_below_drewN | (with_reducible refine Below.setCell ?_ (by first | (simp; done) | (simp; omega) | (dsimp only; omega)) _) | (with_reducible refine below_to ?_ (by assumption))))).onA hq hg ht⟩; clear hq hg ht)
          clear x0 y0 hx hy hHeld
          have x0 := X0.out _ HQ5.out.a.b
          have y0 := Y0.out _ HQ5.out.a.b
          have hx := World.block_lt_of_cell? _ _ x0
          have hy := World.block_lt_of_cell? _ _ y0
          have hlk := HQ5.out.g.lookup (P := Try.prog) (T := 43) Try.underlying43 Try.underlying3 (z := .bool false) (fun _ => rfl) x false
          rw [HGG.out] at hlk
          by_cases hgx : goneS l2 x = true
          · rw [if_pos hgx] at hlk
            simp only [Bool.false_eq_true, if_false] at hlk
            have HGX := Aside0.mk hgx
            clear hgx
            go_wp2
            go_roundw
            case rel => exact ⟨i + 1, ga5, gb, _, b, by omega, by go_num, by have := HPA.out; have := HLA.out; omega, by have := HLA.out; omega, HQ5, ⟨fun z => by have := HEE.out z; rw [if_pos HGX.out] at this; exact this⟩⟩
            case measure => simp [intOf]; omega
          · rw [if_neg hgx] at hlk
            simp only [Bool.false_eq_true, if_false] at hlk
            have HGX := Aside0.mk hgx
            clear hgx
            go_upto_region 15 with fail
            refine wp_region_tailH (S := fun W' => Below w5.heap.size w5 W' ∧ ∀ a : Addr, a.block < w5.heap.size → W'.cell? a = w5.cell? a) 9 (by kernel_rfl) (by kernel_rfl) (by kernel_rfl) (hl_start _) (fun hHeld => ?_)
            simp only [List.take_succ_cons, List.take_zero, List.drop_succ_cons, List.drop_zero]
            refine wpAnyH_take (i := 0) (oi := _) (v := ?_) (by simp only [List.getElem?_toArray, List.getElem?_cons_succ, List.getElem?_cons_zero]; rfl) (by kernel_rfl) (by kernel_rfl) (by kernel_rfl) (tail_hQ (by exact fun _ _ _ h => h)) (Or.inl ⟨by rfl, ?_⟩) (by assumption) ?_
            rotate_left
            focus (intro w hSw; (try dsimp only at hSw); go_simp; (try with_reducible rfl); done)
            (try simp only [Act.put, List.setIfInBounds_toArray, List.set_cons_zero, List.set_cons_succ])
            refine wpAnyH_take (i := 1) (oi := _) (v := ?_) (by simp only [List.getElem?_toArray, List.getElem?_cons_succ, List.getElem?_cons_zero]; rfl) (by kernel_rfl) (by kernel_rfl) (by kernel_rfl) (tail_hQ (by exact fun _ _ _ h => h)) (Or.inl ⟨by rfl, ?_⟩) (by assumption) ?_
            rotate_left
            focus (intro w hSw; (try dsimp only at hSw); go_simp; (try with_reducible rfl); done)
            (try simp only [Act.put, List.setIfInBounds_toArray, List.set_cons_zero, List.set_cons_succ])
            refine wpAnyH_take (i := 2) (oi := _) (v := ?_) (by simp only [List.getElem?_toArray, List.getElem?_cons_succ, List.getElem?_cons_zero]; rfl) (by kernel_rfl) (by kernel_rfl) (by kernel_rfl) (tail_hQ (by exact fun _ _ _ h => h)) (Or.inl ⟨by rfl, ?_⟩) (by assumption) ?_
            rotate_left
            focus (intro w hSw; (try dsimp only at hSw); go_simp; (try with_reducible rfl); done)
            (try simp only [Act.put, List.setIfInBounds_toArray, List.set_cons_zero, List.set_cons_succ])
            refine wpAnyH_take (i := 3) (oi := _) (v := ?_) (by simp only [List.getElem?_toArray, List.getElem?_cons_succ, List.getElem?_cons_zero]; rfl) (by kernel_rfl) (by kernel_rfl) (by kernel_rfl) (tail_hQ (by exact fun _ _ _ h => h)) (Or.inl ⟨by rfl, ?_⟩) (by assumption) ?_
            rotate_left
            focus (intro w hSw; (try dsimp only at hSw); go_simp; (try with_reducible rfl); done)
            (try simp only [Act.put, List.setIfInBounds_toArray, List.set_cons_zero, List.set_cons_succ])
            refine wpAnyH_take (i := 4) (oi := _) (v := ?_) (by simp only [List.getElem?_toArray, List.getElem?_cons_succ, List.getElem?_cons_zero]; rfl) (by kernel_rfl) (by kernel_rfl) (by kernel_rfl) (tail_hQ (by exact fun _ _ _ h => h)) (Or.inl ⟨by rfl, ?_⟩) (by assumption) ?_
            rotate_left
            focus (intro w hSw; (try dsimp only at hSw); go_simp; (try with_reducible rfl); done)
            (try simp only [Act.put, List.setIfInBounds_toArray, List.set_cons_zero, List.set_cons_succ])
            refine wpAnyH_take (i := 5) (oi := _) (v := ?_) (by simp only [List.getElem?_toArray, List.getElem?_cons_succ, List.getElem?_cons_zero]; rfl) (by kernel_rfl) (by kernel_rfl) (by kernel_rfl) (tail_hQ (by exact fun _ _ _ h => h)) (Or.inl ⟨by rfl, ?_⟩) (by assumption) ?_
            rotate_left
            focus (intro w hSw; (try dsimp only at hSw); go_simp; (try with_reducible rfl); done)
            (try simp only [Act.put, List.setIfInBounds_toArray, List.set_cons_zero, List.set_cons_succ])
            refine wpAnyH_take (i := 6) (oi := _) (v := ?_) (by simp only [List.getElem?_toArray, List.getElem?_cons_succ, List.getElem?_cons_zero]; rfl) (by kernel_rfl) (by kernel_rfl) (by kernel_rfl) (tail_hQ (by exact fun _ _ _ h => h)) (Or.inl ⟨by rfl, ?_⟩) (by assumption) ?_
            rotate_left
            focus (intro w hSw; (try dsimp only at hSw); go_simp; (try with_reducible rfl); done)
            (try simp only [Act.put, List.setIfInBounds_toArray, List.set_cons_zero, List.set_cons_succ])
            refine wpAnyH_take (i := 7) (oi := _) (v := ?_) (by simp only [List.getElem?_toArray, List.getElem?_cons_succ, List.getElem?_cons_zero]; rfl) (by kernel_rfl) (by kernel_rfl) (by kernel_rfl) (tail_hQ (by exact fun _ _ _ h => h)) (Or.inl ⟨by rfl, ?_⟩) (by assumption) ?_
            rotate_left
            focus (intro w hSw; (try dsimp only at hSw); go_simp; (try with_reducible rfl); done)
            (try simp only [Act.put, List.setIfInBounds_toArray, List.set_cons_zero, List.set_cons_succ])
            refine wpAnyH_take (i := 8) (oi := _) (v := ?_) (by simp only [List.getElem?_toArray, List.getElem?_cons_succ, List.getElem?_cons_zero]; rfl) (by kernel_rfl) (by kernel_rfl) (by kernel_rfl) (tail_hQ (by exact fun _ _ _ h => h)) (Or.inl ⟨by rfl, ?_⟩) (by assumption) ?_
            rotate_left
            focus (intro w hSw; (try dsimp only at hSw); go_simp; (try with_reducible rfl); done)
            (try simp only [Act.put, List.setIfInBounds_toArray, List.set_cons_zero, List.set_cons_succ])
            refine wpAnyH_tail (by kernel_rfl) ?_ _
            go_wp2_with (go_at_call 10; refine (qqPut (HQ5.out.b.below (by repeat (first | with_reducible exact Below.refl _ _ | with_reducible apply below_alloc | with_reducible apply below_drew | with_reducible apply pw_below_drewN | (with_reducible refine Below.setCell ?_ (by first | (simp; done) | (simp; omega) | (dsimp only; omega)) _) | (with_reducible refine below_to ?_ (by assumption))))) x y).mono ?_; rintro e w6 ⟨rfl, gb6, hq, hg, ht⟩; have HQ6 : Aside0 (Q2 w w6 qa ma qb mb lb ga5 gb6 (putQ a x y).1 (putQ b x y).1 G) := ⟨(HQ5.out.below (by repeat (first | with_reducible exact Below.refl _ _ | with_reducible apply below_alloc | with_reducible apply below_drew | with_reducible apply pw_below_drewN | (with_reducible refine Below.setCell ?_ (by first | (simp; done) | (simp; omega) | (dsimp only; omega)) _) | (with_reducible refine below_to ?_ (by assumption))))).onB hq hg ht⟩; clear hq hg ht)
            go_roundw
            case rel => exact ⟨i + 1, ga5, gb6, _, _, by omega, by go_num, by have := HPA.out; have := HLA.out; omega, by have := HPB.out; have := HLA.out; omega, HQ6, ⟨fun z => by have := HEE.out z; rw [if_neg HGX.out] at this; exact this⟩⟩
            case measure => simp [intOf]; omega
        · --DEV:p4{
          rcases (show l0.length ≤ i ∨ i < l0.length ∧ l1.length ≤ i ∨ i < l0.length ∧ i < l1.length ∧ 200 ≤ i by omega) with h | ⟨h, h'⟩ | ⟨h, h', h''⟩
          · have d0 : decide ((i : Int) < (l0.length : Int)) = false := decide_eq_false (by omega)
            clear hlt
            go_upto_region 16 with fail
            go_wp2
            go_loopw [82] (fun vi wr => ∃ (k : Nat) (a2 : List QE), k ≤ l2.length ∧ vi = .int .i64 k ∧ Aside0 (Q2 w wr qa ma qb mb lb ga gb a2 b G) ∧ Aside0 (∀ z, findQ a2 z = if goneS (l2.take k) z = true then none else findQ a z)) (fun vi _ => l2.length - (intOf vi).toNat)
            case atStart => exact ⟨0, a, Nat.zero_le _, rfl, HQ2, ⟨fun z => rfl⟩⟩
            case round =>
              obtain ⟨k, a2, hk, rfl, HQ3, HE3⟩ := hrel
              by_cases hlt : k < l2.length
              · have r0 : (0 : Int) ≤ (k : Int) := by omega
                have r1 : (k : Int) < (l2.length : Int) := by omega
                obtain ⟨a0, ea0, x0⟩ := Kd.at_int (Kd.C_below HR2.out HQ3.out.a.b) (k : Int) r0 r1
                subst ea0
                have hrd : rd l2 (k : Int) = l2[k] := by simp [rd, List.getElem?_eq_getElem hlt]
                rw [hrd] at x0
                simp only [Int.toNat_natCast] at x0
                have HGT := Aside0.mk (fun z => goneS_take hlt z)
                generalize l2[k] = d at *
                have HK := Aside0.mk (quKey_any HQ3.out.a.q d)
                have HD1 := Aside0.mk (qqDrop HQ3.out.a d)
                have hnn : findQ (dropQ a2 d) d = none := by rw [findQ_drop, if_pos rfl]
                have HNN := Aside0.mk hnn
                generalize (match findQ a2 d with | some a => a.Key | none => 0) = kk at *
                generalize hbb : (findQ a2 d).isSome = bb at *
                clear hrd hnn hbb
                go_wp2_with (first
                  | (go_at_call 16; refine HK.out.mono ?_; rintro e w5 ⟨rfl, hw⟩; subst hw)
                  | (go_at_call 14; with_reducible refine HD1.out.mono ?_; rintro e w6 ⟨rfl, hq, ht⟩; have HQ6 := Aside0.mk (HQ3.out.onA hq (.inl rfl) ht); have HD2 := Aside0.mk (qqDrop HQ6.out.a d); rw [HNN.out] at HD2; clear hq ht)
                  | (go_at_call 14; with_reducible refine HD2.out.mono ?_; rintro e w7 ⟨rfl, hq, ht⟩; have HQ7 := Aside0.mk (HQ6.out.onA hq (.inl rfl) ht); clear hq ht))
                go_roundw
                case rel => exact ⟨k + 1, _, by omega, by go_num, HQ7, ⟨fun z => by
                  rw [findQ_drop, findQ_drop, HE3.out, HGT.out]
                  by_cases e : z = d
                  · rw [if_pos e, if_pos (by simp [e])]
                  · rw [if_neg e, if_neg e]
                    have : decide (d = z) = false := decide_eq_false (fun h => e h.symm)
                    rw [this, Bool.or_false]⟩⟩
                case measure => simp [intOf]; omega
              · obtain rfl : k = l2.length := by omega
                have hp : a2.Perm b := perm_of_find HQ3.out.a.q.items HQ3.out.b.q.items (fun z => by
                  have := HE3.out z
                  rw [List.take_of_length_le (Nat.le_refl _)] at this
                  rw [this, HE.out])
                have HQF : Aside0 (Q2 w wr qa ma qb mb lb ga gb b b G) := ⟨⟨⟨HQ3.out.a.q.perm hp, HQ3.out.a.q0, HQ3.out.a.m0, HQ3.out.a.g0, HQ3.out.a.b⟩, HQ3.out.b, HQ3.out.g, HQ3.out.l0, HQ3.out.ab, HQ3.out.al, HQ3.out.bl⟩⟩
                clear hp
                go_wp2
                go_loopw [17] (fun v17 wr => ∃ (m : List QE), Aside0 (Q2 w wr qa ma qb mb lb ga gb m m G)) (fun _ wr => qCount wr qa)
                case atStart => exact ⟨b, HQF⟩
                case round =>
                  obtain ⟨m, HQ4⟩ := hrel
                  have HLn := Aside0.mk (quLen_any HQ4.out.a.q)
                  cases htk : takeQ m with
                  | none =>
                    obtain rfl : m = [] := takeQ_nil.1 htk
                    have HLb := Aside0.mk (quLen_any HQ4.out.b.q)
                    have hz0 : ([] : List QE).length = 0 := rfl
                    rw [hz0] at HLn HLb
                    clear htk hz0
                    go_wp2_with (first
                      | (go_at_call 12; with_reducible refine HLn.out.mono ?_; rintro e w5 ⟨rfl, hw⟩; subst hw)
                      | (go_at_call 12; with_reducible refine HLb.out.mono ?_; rintro e w5 ⟨rfl, hw⟩; subst hw))
                    go_ret
                    exact ⟨rfl, HQ4.out.a.b⟩
                  | some e =>
                    have hml : 0 < m.length := List.length_pos_iff.2 (fun h => by rw [h] at htk; cases htk)
                    have d9 : decide ((0 : Int) < (m.length : Int)) = true := decide_eq_true (by omega)
                    have HT1 := Aside0.mk (qqTake HQ4.out.a)
                    rw [htk] at HT1
                    dsimp only at HT1
                    have HDL := Aside0.mk (dropQ_len HQ4.out.a.q.items (takeQ_min htk).1)
                    have HTK := Aside0.mk htk
                    clear htk
                    go_wp2_with (first
                      | (go_at_call 12; with_reducible refine HLn.out.mono ?_; rintro e w5 ⟨rfl, hw⟩; subst hw)
                      | (go_at_call 11; with_reducible refine HT1.out.mono ?_; rintro e' w6 ⟨rfl, hq, ht⟩; have HQ6 := Aside0.mk (HQ4.out.onA hq (.inl rfl) ht); have HT2 := Aside0.mk (qqTake HQ6.out.b); rw [HTK.out] at HT2; dsimp only at HT2; clear hq ht)
                      | (go_at_call 11; with_reducible refine HT2.out.mono ?_; rintro e' w7 ⟨rfl, hq, ht⟩; have HQ7 := Aside0.mk (HQ6.out.onB hq (.inl rfl) ht); clear hq ht))
                    go_roundw
                    case rel => exact ⟨_, HQ7⟩
                    case measure => rw [HQ7.out.a.q.count, HQ4.out.a.q.count]; have := HDL.out; omega
          · have d0 : decide ((i : Int) < (l0.length : Int)) = true := decide_eq_true (by omega)
            have d1 : decide ((i : Int) < (l1.length : Int)) = false := decide_eq_false (by omega)
            clear hlt
            go_upto_region 16 with fail
            go_wp2
            go_loopw [82] (fun vi wr => ∃ (k : Nat) (a2 : List QE), k ≤ l2.length ∧ vi = .int .i64 k ∧ Aside0 (Q2 w wr qa ma qb mb lb ga gb a2 b G) ∧ Aside0 (∀ z, findQ a2 z = if goneS (l2.take k) z = true then none else findQ a z)) (fun vi _ => l2.length - (intOf vi).toNat)
            case atStart => exact ⟨0, a, Nat.zero_le _, rfl, HQ2, ⟨fun z => rfl⟩⟩
            case round =>
              obtain ⟨k, a2, hk, rfl, HQ3, HE3⟩ := hrel
              by_cases hlt : k < l2.length
              · have r0 : (0 : Int) ≤ (k : Int) := by omega
                have r1 : (k : Int) < (l2.length : Int) := by omega
                obtain ⟨a0, ea0, x0⟩ := Kd.at_int (Kd.C_below HR2.out HQ3.out.a.b) (k : Int) r0 r1
                subst ea0
                have hrd : rd l2 (k : Int) = l2[k] := by simp [rd, List.getElem?_eq_getElem hlt]
                rw [hrd] at x0
                simp only [Int.toNat_natCast] at x0
                have HGT := Aside0.mk (fun z => goneS_take hlt z)
                generalize l2[k] = d at *
                have HK := Aside0.mk (quKey_any HQ3.out.a.q d)
                have HD1 := Aside0.mk (qqDrop HQ3.out.a d)
                have hnn : findQ (dropQ a2 d) d = none := by rw [findQ_drop, if_pos rfl]
                have HNN := Aside0.mk hnn
                generalize (match findQ a2 d with | some a => a.Key | none => 0) = kk at *
                generalize hbb : (findQ a2 d).isSome = bb at *
                clear hrd hnn hbb
                go_wp2_with (first
                  | (go_at_call 16; refine HK.out.mono ?_; rintro e w5 ⟨rfl, hw⟩; subst hw)
                  | (go_at_call 14; with_reducible refine HD1.out.mono ?_; rintro e w6 ⟨rfl, hq, ht⟩; have HQ6 := Aside0.mk (HQ3.out.onA hq (.inl rfl) ht); have HD2 := Aside0.mk (qqDrop HQ6.out.a d); rw [HNN.out] at HD2; clear hq ht)
                  | (go_at_call 14; with_reducible refine HD2.out.mono ?_; rintro e w7 ⟨rfl, hq, ht⟩; have HQ7 := Aside0.mk (HQ6.out.onA hq (.inl rfl) ht); clear hq ht))
                go_roundw
                case rel => exact ⟨k + 1, _, by omega, by go_num, HQ7, ⟨fun z => by
                  rw [findQ_drop, findQ_drop, HE3.out, HGT.out]
                  by_cases e : z = d
                  · rw [if_pos e, if_pos (by simp [e])]
                  · rw [if_neg e, if_neg e]
                    have : decide (d = z) = false := decide_eq_false (fun h => e h.symm)
                    rw [this, Bool.or_false]⟩⟩
                case measure => simp [intOf]; omega
              · obtain rfl : k = l2.length := by omega
                have hp : a2.Perm b := perm_of_find HQ3.out.a.q.items HQ3.out.b.q.items (fun z => by
                  have := HE3.out z
                  rw [List.take_of_length_le (Nat.le_refl _)] at this
                  rw [this, HE.out])
                have HQF : Aside0 (Q2 w wr qa ma qb mb lb ga gb b b G) := ⟨⟨⟨HQ3.out.a.q.perm hp, HQ3.out.a.q0, HQ3.out.a.m0, HQ3.out.a.g0, HQ3.out.a.b⟩, HQ3.out.b, HQ3.out.g, HQ3.out.l0, HQ3.out.ab, HQ3.out.al, HQ3.out.bl⟩⟩
                clear hp
                go_wp2
                go_loopw [17] (fun v17 wr => ∃ (m : List QE), Aside0 (Q2 w wr qa ma qb mb lb ga gb m m G)) (fun _ wr => qCount wr qa)
                case atStart => exact ⟨b, HQF⟩
                case round =>
                  obtain ⟨m, HQ4⟩ := hrel
                  have HLn := Aside0.mk (quLen_any HQ4.out.a.q)
                  cases htk : takeQ m with
                  | none =>
                    obtain rfl : m = [] := takeQ_nil.1 htk
                    have HLb := Aside0.mk (quLen_any HQ4.out.b.q)
                    have hz0 : ([] : List QE).length = 0 := rfl
                    rw [hz0] at HLn HLb
                    clear htk hz0
                    go_wp2_with (first
                      | (go_at_call 12; with_reducible refine HLn.out.mono ?_; rintro e w5 ⟨rfl, hw⟩; subst hw)
                      | (go_at_call 12; with_reducible refine HLb.out.mono ?_; rintro e w5 ⟨rfl, hw⟩; subst hw))
                    go_ret
                    exact ⟨rfl, HQ4.out.a.b⟩
                  | some e =>
                    have hml : 0 < m.length := List.length_pos_iff.2 (fun h => by rw [h] at htk; cases htk)
                    have d9 : decide ((0 : Int) < (m.length : Int)) = true := decide_eq_true (by omega)
                    have HT1 := Aside0.mk (qqTake HQ4.out.a)
                    rw [htk] at HT1
                    dsimp only at HT1
                    have HDL := Aside0.mk (dropQ_len HQ4.out.a.q.items (takeQ_min htk).1)
                    have HTK := Aside0.mk htk
                    clear htk
                    go_wp2_with (first
                      | (go_at_call 12; with_reducible refine HLn.out.mono ?_; rintro e w5 ⟨rfl, hw⟩; subst hw)
                      | (go_at_call 11; with_reducible refine HT1.out.mono ?_; rintro e' w6 ⟨rfl, hq, ht⟩; have HQ6 := Aside0.mk (HQ4.out.onA hq (.inl rfl) ht); have HT2 := Aside0.mk (qqTake HQ6.out.b); rw [HTK.out] at HT2; dsimp only at HT2; clear hq ht)
                      | (go_at_call 11; with_reducible refine HT2.out.mono ?_; rintro e' w7 ⟨rfl, hq, ht⟩; have HQ7 := Aside0.mk (HQ6.out.onB hq (.inl rfl) ht); clear hq ht))
                    go_roundw
                    case rel => exact ⟨_, HQ7⟩
                    case measure => rw [HQ7.out.a.q.count, HQ4.out.a.q.count]; have := HDL.out; omega
          · have d0 : decide ((i : Int) < (l0.length : Int)) = true := decide_eq_true (by omega)
            have d1 : decide ((i : Int) < (l1.length : Int)) = true := decide_eq_true (by omega)
            have d2 : decide ((i : Int) < 200) = false := decide_eq_false (by omega)
            clear hlt
            go_upto_region 16 with fail
            go_wp2
            go_loopw [82] (fun vi wr => ∃ (k : Nat) (a2 : List QE), k ≤ l2.length ∧ vi = .int .i64 k ∧ Aside0 (Q2 w wr qa ma qb mb lb ga gb a2 b G) ∧ Aside0 (∀ z, findQ a2 z = if goneS (l2.take k) z = true then none else findQ a z)) (fun vi _ => l2.length - (intOf vi).toNat)
            case atStart => exact ⟨0, a, Nat.zero_le _, rfl, HQ2, ⟨fun z => rfl⟩⟩
            case round =>
              obtain ⟨k, a2, hk, rfl, HQ3, HE3⟩ := hrel
              by_cases hlt : k < l2.length
              · have r0 : (0 : Int) ≤ (k : Int) := by omega
                have r1 : (k : Int) < (l2.length : Int) := by omega
                obtain ⟨a0, ea0, x0⟩ := Kd.at_int (Kd.C_below HR2.out HQ3.out.a.b) (k : Int) r0 r1
                subst ea0
                have hrd : rd l2 (k : Int) = l2[k] := by simp [rd, List.getElem?_eq_getElem hlt]
                rw [hrd] at x0
                simp only [Int.toNat_natCast] at x0
                have HGT := Aside0.mk (fun z => goneS_take hlt z)
                generalize l2[k] = d at *
                have HK := Aside0.mk (quKey_any HQ3.out.a.q d)
                have HD1 := Aside0.mk (qqDrop HQ3.out.a d)
                have hnn : findQ (dropQ a2 d) d = none := by rw [findQ_drop, if_pos rfl]
                have HNN := Aside0.mk hnn
                generalize (match findQ a2 d with | some a => a.Key | none => 0) = kk at *
                generalize hbb : (findQ a2 d).isSome = bb at *
                clear hrd hnn hbb
                go_wp2_with (first
                  | (go_at_call 16; refine HK.out.mono ?_; rintro e w5 ⟨rfl, hw⟩; subst hw)
                  | (go_at_call 14; with_reducible refine HD1.out.mono ?_; rintro e w6 ⟨rfl, hq, ht⟩; have HQ6 := Aside0.mk (HQ3.out.onA hq (.inl rfl) ht); have HD2 := Aside0.mk (qqDrop HQ6.out.a d); rw [HNN.out] at HD2; clear hq ht)
                  | (go_at_call 14; with_reducible refine HD2.out.mono ?_; rintro e w7 ⟨rfl, hq, ht⟩; have HQ7 := Aside0.mk (HQ6.out.onA hq (.inl rfl) ht); clear hq ht))
                go_roundw
                case rel => exact ⟨k + 1, _, by omega, by go_num, HQ7, ⟨fun z => by
                  rw [findQ_drop, findQ_drop, HE3.out, HGT.out]
                  by_cases e : z = d
                  · rw [if_pos e, if_pos (by simp [e])]
                  · rw [if_neg e, if_neg e]
                    have : decide (d = z) = false := decide_eq_false (fun h => e h.symm)
                    rw [this, Bool.or_false]⟩⟩
                case measure => simp [intOf]; omega
              · obtain rfl : k = l2.length := by omega
                have hp : a2.Perm b := perm_of_find HQ3.out.a.q.items HQ3.out.b.q.items (fun z => by
                  have := HE3.out z
                  rw [List.take_of_length_le (Nat.le_refl _)] at this
                  rw [this, HE.out])
                have HQF : Aside0 (Q2 w wr qa ma qb mb lb ga gb b b G) := ⟨⟨⟨HQ3.out.a.q.perm hp, HQ3.out.a.q0, HQ3.out.a.m0, HQ3.out.a.g0, HQ3.out.a.b⟩, HQ3.out.b, HQ3.out.g, HQ3.out.l0, HQ3.out.ab, HQ3.out.al, HQ3.out.bl⟩⟩
                clear hp
                go_wp2
                go_loopw [17] (fun v17 wr => ∃ (m : List QE), Aside0 (Q2 w wr qa ma qb mb lb ga gb m m G)) (fun _ wr => qCount wr qa)
                case atStart => exact ⟨b, HQF⟩
                case round =>
                  obtain ⟨m, HQ4⟩ := hrel
                  have HLn := Aside0.mk (quLen_any HQ4.out.a.q)
                  cases htk : takeQ m with
                  | none =>
                    obtain rfl : m = [] := takeQ_nil.1 htk
                    have HLb := Aside0.mk (quLen_any HQ4.out.b.q)
                    have hz0 : ([] : List QE).length = 0 := rfl
                    rw [hz0] at HLn HLb
                    clear htk hz0
                    go_wp2_with (first
                      | (go_at_call 12; with_reducible refine HLn.out.mono ?_; rintro e w5 ⟨rfl, hw⟩; subst hw)
                      | (go_at_call 12; with_reducible refine HLb.out.mono ?_; rintro e w5 ⟨rfl, hw⟩; subst hw))
                    go_ret
                    exact ⟨rfl, HQ4.out.a.b⟩
                  | some e =>
                    have hml : 0 < m.length := List.length_pos_iff.2 (fun h => by rw [h] at htk; cases htk)
                    have d9 : decide ((0 : Int) < (m.length : Int)) = true := decide_eq_true (by omega)
                    have HT1 := Aside0.mk (qqTake HQ4.out.a)
                    rw [htk] at HT1
                    dsimp only at HT1
                    have HDL := Aside0.mk (dropQ_len HQ4.out.a.q.items (takeQ_min htk).1)
                    have HTK := Aside0.mk htk
                    clear htk
                    go_wp2_with (first
                      | (go_at_call 12; with_reducible refine HLn.out.mono ?_; rintro e w5 ⟨rfl, hw⟩; subst hw)
                      | (go_at_call 11; with_reducible refine HT1.out.mono ?_; rintro e' w6 ⟨rfl, hq, ht⟩; have HQ6 := Aside0.mk (HQ4.out.onA hq (.inl rfl) ht); have HT2 := Aside0.mk (qqTake HQ6.out.b); rw [HTK.out] at HT2; dsimp only at HT2; clear hq ht)
                      | (go_at_call 11; with_reducible refine HT2.out.mono ?_; rintro e' w7 ⟨rfl, hq, ht⟩; have HQ7 := Aside0.mk (HQ6.out.onB hq (.inl rfl) ht); clear hq ht))
                    go_roundw
                    case rel => exact ⟨_, HQ7⟩
                    case measure => rw [HQ7.out.a.q.count, HQ4.out.a.q.count]; have := HDL.out; omega
theorem queueDrops_row (l0 : List Int) (A0 : Option Addr) (c0 : Nat) (l1 : List Int) (A1 : Option Addr) (c1 : Nat) (l2 : List Int) (A2 : Option Addr) (c2 : Nat) (w : World) (h0 : l0.length ≤ maxLen ∧ l0.length * 8 ≤ 140737488351232 ∧ ∀ y ∈ l0, (Lit.int .i64 y).wf = true) (_ : l0.length ≤ c0) (hr0 : Kd.C (Kd.int .i64) w A0 l0.length l0)
    (h1 : l1.length ≤ maxLen ∧ l1.length * 8 ≤ 140737488351232 ∧ ∀ y ∈ l1, (Lit.int .i64 y).wf = true) (_ : l1.length ≤ c1) (hr1 : Kd.C (Kd.int .i64) w A1 l1.length l1)
    (h2 : l2.length ≤ maxLen ∧ l2.length * 8 ≤ 140737488351232 ∧ ∀ y ∈ l2, (Lit.int .i64 y).wf = true) (_ : l2.length ≤ c2) (hr2 : Kd.C (Kd.int .i64) w A2 l2.length l2) :
    Calls Try.prog 7 #[.slice A0 l0.length c0, .slice A1 l1.length c1, .slice A2 l2.length c2] w fun e w' => e = .returned (.bool true) ∧ Below w.heap.size w w' :=
  queueDrops_any l0 A0 c0 l1 A1 c1 l2 A2 c2 w (by have := h0.2.1; omega) (by have := h1.2.1; omega) (by have := h2.2.1; omega) hr0 hr1 hr2
end Go.Proofs.Ytiejegalokncgaa
