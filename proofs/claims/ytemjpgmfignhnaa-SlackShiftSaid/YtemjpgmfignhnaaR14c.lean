/- Contracts: by how much each step may be come to later, and when the plan ends, come to a step at a time. The program's Spare and Ends.
Conditions: a lawful problem, a plan of a vehicle that is there, of at least two steps. -/
import Derived.Test.YtemjpgmfignhnaaR14b
namespace Go.Proofs.Ytemjpgmfignhnaa
open Go.RowKit Go.Proofs.YtemjpgmfignhnaaW.PrintWords Go.Proofs.YtemjpgmfignhnaaW.PrintLast Go.Proofs.YtemjpgmfignhnaaW.PrintMore
set_option linter.unusedVariables false
set_option linter.unusedSimpArgs false
attribute [local go_sem] cell_growBy Option.some_or
theorem startS_false (t : Int) : ∀ l : List TWindow, (startS t l).2 = false → (startS t l).1 = 0
  | [], _ => rfl
  | w :: l, h => by
    unfold startS at h ⊢
    split
    · rename_i hc
      rw [if_pos hc] at h
      cases h
    · rename_i hc
      rw [if_neg hc] at h
      exact startS_false t l h
theorem startS_in {l : List TWindow} (hw : WinOk l ∨ l = []) (t : Int) : 0 ≤ (startS t l).1 ∧ (startS t l).1 ≤ 1000000 := by
  cases h : (startS t l).2 with
  | false =>
    have := startS_false t l h
    omega
  | true =>
    rcases hw with hw | rfl
    · have := startS_ok hw h
      omega
    · cases h
theorem goQ_at (p : TProblem) (v : TVehicle) (l : List TStep) (k : Nat) (h : k + 1 < l.length) (t : Int) : goQ p v (l.drop k) t = goQ p v (l.drop (k + 1)) ((startS t (stopE p v l[k].Visit).1.Windows).1 + (stopE p v l[k].Visit).1.Service + cellS p.Time l[k].Place l[k + 1].Place) := by
  rw [List.drop_eq_getElem_cons (show k < l.length by omega), List.drop_eq_getElem_cons h, goQ]
theorem goQ_last (p : TProblem) (v : TVehicle) (l : List TStep) (k : Nat) (h : k + 1 = l.length) (t : Int) : goQ p v (l.drop k) t = t := by
  rw [List.drop_eq_getElem_cons (show k < l.length by omega), List.drop_of_length_le (by omega), goQ]
/-- The program's Ends, at any number. -/
def endsW (p : TProblem) (v : TVehicle) (steps : List TStep) (i t : Int) : Int × Bool :=
  if i < 0 ∨ (steps.length : Int) ≤ i ∨ rd (latestS p v steps) i < t then (0, false) else
  if i = 0 then (goQ p v (steps.drop 1) (wrap64 (t + cellS p.Time (steps.getD 0 zStep).Place (steps.getD 1 zStep).Place)), true)
  else (goQ p v (steps.drop i.toNat) t, true)
def spareS (p : TProblem) (v : TVehicle) (steps : List TStep) : List Int := (List.range steps.length).map fun k : Nat => wrap64 (rd (latestS p v steps) k - (steps.getD k zStep).Arrival)
theorem latestS_len (p : TProblem) (v : TVehicle) (st : List TStep) (h : 2 ≤ st.length) : (latestS p v st).length = st.length := by
  match st, h with
  | a :: b :: r, _ => rw [latestS_length]; rfl
theorem endsW_eq {p : TProblem} {v : TVehicle} {x : TPlan} (law : Law p) (h : Made p v x) (i t : Int) (ht : -2000000000 ≤ t) (ht2 : t ≤ 2000000000) : endsW p v x.Steps i t = endsP p v x.Steps i t := by
  have hlen := h.latest_len
  have h2 := h.len
  unfold endsW endsP
  rw [hlen]
  match hs : x.Steps, h2 with
  | a :: b :: r, _ =>
    have hc := law.time a.Place b.Place
    have e : wrap64 (t + cellS p.Time a.Place b.Place) = t + cellS p.Time a.Place b.Place := IntWalk.wrap64_in _ (by omega)
    simp only [List.getD_cons_zero, List.getD_cons_succ, e]
    rfl
theorem slackLatest_n (q : PV) (p : TProblem) (st : List TStep) (xv xt xd xw xs xc : Int) (A : Option Addr) (c : Nat) (w : World) (hlp : Good p) (law : Law p) (hq : q.Ok p w) (hr : Kd.C kStep w A st.length st) (hv0 : 0 ≤ xv) (hv1 : xv < (p.Vehicles.length : Int)) (h2 : 2 ≤ st.length)
    (hl : st.length ≤ 200) (hbr : ∀ s ∈ st, s.Visit.Kind = 4 → 0 ≤ s.Visit.Item ∧ s.Visit.Item < (rdVehicle p.Vehicles xv).Breaks.length) :
    Calls Try.prog 66 #[q.val p, .agg #[.int .i64 xv, .slice A st.length c, .int .i64 xt, .int .i64 xd, .int .i64 xw, .int .i64 xs, .int .i64 xc]] w
      fun e w' => ∃ A c, e = .returned (.slice A st.length c) ∧ st.length ≤ c ∧ Kd.C (Kd.int .i64) w' A st.length (latestS p (rdVehicle p.Vehicles xv) st) ∧ Below w.heap.size w w' := by
  refine (slackLatest_any q p st xv xt xd xw xs xc A c w hlp law hq hr hv0 hv1 h2 hl hbr).mono ?_
  rintro e w' ⟨A1, c1, rfl, h⟩
  rw [latestS_len p _ st h2] at h ⊢
  exact ⟨A1, c1, rfl, h⟩
set_option maxHeartbeats 16000000 in
set_option maxRecDepth 100000 in
theorem slackSpare_any (q : PV) (p : TProblem) (st : List TStep) (xv xt xd xw xs xc : Int) (A : Option Addr) (c : Nat) (w : World) (hlp : Good p) (law : Law p) (hq : q.Ok p w) (hr : Kd.C kStep w A st.length st) (hv0 : 0 ≤ xv) (hv1 : xv < (p.Vehicles.length : Int)) (h2 : 2 ≤ st.length)
    (hl : st.length ≤ 200) (hbr : ∀ s ∈ st, s.Visit.Kind = 4 → 0 ≤ s.Visit.Item ∧ s.Visit.Item < (rdVehicle p.Vehicles xv).Breaks.length) :
    Calls Try.prog 67 #[q.val p, .agg #[.int .i64 xv, .slice A st.length c, .int .i64 xt, .int .i64 xd, .int .i64 xw, .int .i64 xs, .int .i64 xc]] w (IntsOwn (spareS p (rdVehicle p.Vehicles xv) st) w) := by
  have HR := Aside0.mk hr
  have HL := Aside0.mk (fun W (hb : Below w.heap.size w W) => slackLatest_n q p st xv xt xd xw xs xc A c W hlp law (hq.below hb) (Kd.C_below hr hb) hv0 hv1 h2 hl hbr)
  have hll := latestS_len p (rdVehicle p.Vehicles xv) st h2
  have hsp : spareS p (rdVehicle p.Vehicles xv) st = (List.range st.length).map fun k : Nat => wrap64 (rd (latestS p (rdVehicle p.Vehicles xv) st) k - (st.getD k zStep).Arrival) := rfl
  generalize spareS p (rdVehicle p.Vehicles xv) st = SS at *
  generalize latestS p (rdVehicle p.Vehicles xv) st = LL at *
  obtain ⟨ad, _, _, ea, -⟩ := atNStep hr 0 (by omega)
  subst ea
  obtain ⟨a1, c1, a2, c2, a3, c3, a4, c4, a5, c5⟩ := q
  have HSP := Aside0.mk hsp
  have HLL := Aside0.mk hll
  clear hq hlp law hr hbr hv0 hv1 h2 hll hsp
  unfold PV.val at HL ⊢
  go_enter Try.func67, Try.ntmps67
  go_wp2_with (go_at_call 66; refine (HL.out _ (by repeat (first | exact Below.refl _ _ | apply below_alloc | apply pw_below_drewN | apply below_drew1 | apply below_drew | (refine Below.setCell ?_ (by (try simp); (try omega)) _) | (refine below_to ?_ HB6.out) | (refine below_to ?_ HB5.out) | (refine below_to ?_ HB4.out) | (refine below_to ?_ HB3.out) | (refine below_to ?_ HB2.out) | (refine below_to ?_ HB1.out)))).mono ?_; rintro e w1 ⟨A1, k1, rfl, hle1, hC1, hb⟩; have hlb := blk_below (blk_is (W := w.alloc (.cells #[.int .i64 p.Dims, .int .i64 p.Time.N, .slice a1 p.Time.Cells.length c1, .int .i64 p.Dist.N, .slice a2 p.Dist.Cells.length c2, .slice a3 p.Vehicles.length c3, .slice a4 p.Jobs.length c4, .slice a5 p.Shipments.length c5] 29)) (o := (.cells #[.int .i64 xv, .slice (some ad) st.length c, .int .i64 xt, .int .i64 xd, .int .i64 xw, .int .i64 xs, .int .i64 xc] 74)) (n := w.heap.size + 1) (by simp)) hb; have HLB := Aside0.mk hlb; have HC1 := Aside0.mk hC1; have HB1 := Aside0.mk (show Below w.heap.size w w1 from below_to (by repeat (first | exact Below.refl _ _ | apply below_alloc | apply pw_below_drewN | apply below_drew1 | apply below_drew | (refine Below.setCell ?_ (by (try simp); (try omega)) _) | (refine below_to ?_ HB6.out) | (refine below_to ?_ HB5.out) | (refine below_to ?_ HB4.out) | (refine below_to ?_ HB3.out) | (refine below_to ?_ HB2.out) | (refine below_to ?_ HB1.out))) hb); clear hlb hC1 hb hle1)
  go_loopw [5, 12] (fun vo vi wr => ∃ k : Nat, k ≤ st.length ∧ vi = .int .i64 k ∧ Aside0 ((Kd.int .i64).R 3 wr w1.heap.size (fun _ => True) vo ((List.range k).map fun k : Nat => wrap64 (rd LL k - (st.getD k zStep).Arrival))) ∧ Aside0 (Below w1.heap.size w1 wr)) (fun _ vi _ => st.length - (intOf vi).toNat)
  case atStart => exact ⟨0, Nat.zero_le _, rfl, ⟨Kd.R_nil _ _ _ _ _⟩, ⟨Below.refl _ _⟩⟩
  case round =>
    obtain ⟨k, hk, rfl, HO, HW⟩ := hrel
    by_cases hkl : k < st.length
    · have HBw : Aside0 (Below w.heap.size w wr) := ⟨below_to HB1.out HW.out⟩
      obtain ⟨ad1, ea1, y0⟩ := Kd.at_int (Kd.C_below HC1.out HW.out) (k : Int) (by omega) (by omega)
      subst ea1
      simp only [Int.toNat_natCast] at y0
      obtain ⟨ad2, _, _, ea2, -, -, -, x3, -⟩ := atNStep (Kd.C_below HR.out HBw.out) k hkl
      obtain rfl := Option.some.inj ea2
      have hlb := blk_below HLB.out HW.out
      have l0 := blk_cell hlb 0; have l1 := blk_cell hlb 1; have l2 := blk_cell hlb 2; have l3 := blk_cell hlb 3; have l4 := blk_cell hlb 4; have l5 := blk_cell hlb 5; have l6 := blk_cell hlb 6; simp only [List.getElem?_toArray, List.getElem?_cons_succ, List.getElem?_cons_zero] at l0 l1 l2 l3 l4 l5 l6; have hlw := blk_lt hlb
      have r0 : (0 : Int) ≤ (k : Int) := by omega
      have r1 : (k : Int) < (st.length : Int) := by omega
      have hlen : ((List.range k).map fun k : Nat => wrap64 (rd LL k - (st.getD k zStep).Arrival)).length = k := by simp
      have HLEN := Aside0.mk hlen
      clear hlb ea2 hlen
      generalize hx : st[k].Arrival = x at *
      have hx' : (st.getD k zStep).Arrival = x := by rw [← hx]; simp [List.getElem?_eq_getElem hkl]
      have HX := Aside0.mk hx'
      clear hx hx'
      go_wp2_with (at_builtin; refine Kd.R_append (Kd.int .i64) (w0 := w1) (W := wr) w1.heap.size rfl (.tmp 17) (.tmp 26) 22 3 (.int .i64 0) 8 rfl Try.underlying22 (by kernel_rfl) rfl (by decide) (by decide) u5 ((List.range k).map fun k : Nat => wrap64 (rd LL k - (st.getD k zStep).Arrival)) (wrap64 (rd LL k - x)) _ (fun _ => True) (fun _ => False) rfl rfl rfl (fun _ h => h.elim) (fun _ _ => trivial) HO.out HW.out HW.out.size (by rw [HLEN.out]; omega) ?_; intro v1 w2 ho hb hg hat; have HO2 := Aside0.mk ho; have HB2 := Aside0.mk hb; clear ho hb hg hat)
      go_roundw
      case rel => exact ⟨k + 1, by omega, by go_num, ⟨by rw [List.range_succ, List.map_append]; simp only [List.map_cons, List.map_nil, HX.out]; exact HO2.out⟩, HB2⟩
      case measure => simp [intOf]; omega
    · obtain rfl : k = st.length := by omega
      have ho := HO.out
      rw [← HSP.out] at ho
      obtain ⟨A2, c2, rfl, hle, hC⟩ := Kd.R_reads ho
      have HC2 := Aside0.mk hC
      have HBE := Aside0.mk (below_to HB1.out HW.out)
      clear ho hC
      go_wp2
      go_ret
      exact ⟨A2, c2, rfl, hle, HC2.out, HBE.out⟩
end Go.Proofs.Ytemjpgmfignhnaa
