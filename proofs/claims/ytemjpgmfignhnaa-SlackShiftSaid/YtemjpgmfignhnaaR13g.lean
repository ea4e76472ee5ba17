/- Contract: breaks set in among visits. The document's Set.
Conditions: at most 200 visits, at most two breaks. -/
import Derived.Test.YtemjpgmfignhnaaP14
namespace Go.Proofs.Ytemjpgmfignhnaa
open Go.RowKit Go.Proofs.YtemjpgmfignhnaaW.PrintWords Go.Proofs.YtemjpgmfignhnaaW.PrintLast Go.Proofs.YtemjpgmfignhnaaW.PrintMore
set_option linter.unusedVariables false
set_option linter.unusedSimpArgs false
attribute [local go_sem] cell_growBy Option.some_or
theorem kVisit_mkM (w : World) (base : Nat) (ok : Nat → Prop) (x : TVisit) : kVisit.M w base ok x [.int .i64 x.Kind, .int .i64 x.Item] := ⟨[.int .i64 x.Kind], _, rfl, rfl, rfl⟩
set_option maxHeartbeats 8000000 in
set_option maxRecDepth 100000 in
theorem refSet_any (l : List TVisit) (at_ : List Int) (A B : Option Addr) (c cB : Nat) (w : World) (hr : Kd.C kVisit w A l.length l) (hr' : Kd.C (Kd.int .i64) w B at_.length at_) (hl : l.length ≤ 200) (ha : at_.length ≤ 2) :
    Calls Try.prog 59 #[.slice A l.length c, .slice B at_.length cB] w (ListPost kVisit (setS l at_) w) := by
  have HA := Aside0.mk hr
  have HB := Aside0.mk hr'
  have hsz : ∀ k, k ≤ l.length → (setTo l at_ k).length ≤ 600 := fun k hk => by
    have h1 := setTo_len l at_ k
    have h2 : k * (at_.length + 1) ≤ 200 * 3 := Nat.mul_le_mul (by omega) (by omega)
    omega
  have HSZ := Aside0.mk hsz
  clear hr hr' hsz
  go_enter Try.func59, Try.ntmps59
  go_wp2
  go_loopw [5, 6] (fun v i wr => ∃ k : Nat, k ≤ l.length + 1 ∧ i = .int .i64 k ∧ Aside0 (kVisit.R 57 wr w.heap.size (fun _ => True) v (setTo l at_ k)) ∧ Aside0 (Below w.heap.size w wr)) (fun _ i _ => l.length + 1 - (intOf i).toNat)
  case atStart => exact ⟨0, Nat.zero_le _, rfl, ⟨Kd.R_nil _ _ _ _ _⟩, ⟨Below.refl _ _⟩⟩
  case round =>
    obtain ⟨k, hk, rfl, HR, HW⟩ := hrel
    by_cases hlt : k ≤ l.length
    · have hs := HSZ.out k hlt
      obtain ⟨wb, rfl⟩ : ∃ wb : World, wb = wr := ⟨_, rfl⟩
      have HRa := HR
      have HWa := HW
      clear HR HW
      go_wp2
      go_loopw [5, 7] (fun v kk wr => ∃ j : Nat, j ≤ at_.length ∧ kk = .int .i64 j ∧ Aside0 (kVisit.R 57 wr w.heap.size (fun _ => True) v (setTo l at_ k ++ brkS at_ k j)) ∧ Aside0 (Below w.heap.size w wr)) (fun _ kk _ => at_.length - (intOf kk).toNat)
      case atStart => exact ⟨0, Nat.zero_le _, rfl, ⟨by simpa [brkS] using HRa.out⟩, HWa⟩
      case round =>
        clear HRa HWa
        obtain ⟨j, hj, rfl, HR, HW⟩ := hrel
        have hbl := brkS_len at_ k j
        have hlen : (setTo l at_ k ++ brkS at_ k j).length ≤ 602 := by rw [List.length_append]; omega
        by_cases hjl : j < at_.length
        · obtain ⟨ad, ea, x0⟩ := Kd.at_int (Kd.C_below HB.out HW.out) (j : Int) (by omega) (by omega)
          subst ea
          simp only [Int.toNat_natCast] at x0
          have r0 : (0 : Int) ≤ (j : Int) := by omega
          have r1 : (j : Int) < (at_.length : Int) := by omega
          by_cases he : rd at_ j = k
          · have d1 : (rd at_ (j : Int) == (k : Int)) = true := by simp [he]
            have en : brkS at_ k (j + 1) = brkS at_ k j ++ [⟨4, j⟩] := by simp [brkS, he]
            have EN := Aside0.mk en
            clear en he
            go_wp2_with (at_builtin; refine Kd.R_append kVisit (w0 := w) w.heap.size rfl (.tmp 26) (.tmp 29) 63 57 (.agg #[.int .i64 0, .int .i64 0]) 16 rfl Try.underlying63 infoVisit rfl (by decide) (by omega) u5 (setTo l at_ k ++ brkS at_ k j) ⟨4, (j : Int)⟩ _ (fun _ => True) (fun _ => False) rfl rfl (kVisit_mkM _ _ _ _) (fun _ h => h.elim) (fun _ _ => trivial) HR.out HW.out (by have := HW.out.size; omega) (by omega) ?_; intro v1 w1 ho hb hg hat; have HO := Aside0.mk ho; have HBN := Aside0.mk hb; clear ho hb hg hat)
            go_roundw
            case rel => exact ⟨j + 1, by omega, by go_num, ⟨by rw [EN.out, ← List.append_assoc]; exact HO.out⟩, HBN⟩
            case measure => simp [intOf]; omega
          · have d1 : (rd at_ (j : Int) == (k : Int)) = false := by simp [he]
            have en : brkS at_ k (j + 1) = brkS at_ k j := by simp [brkS, he]
            have EN := Aside0.mk en
            clear en he
            go_wp2
            go_roundw
            case rel => exact ⟨j + 1, by omega, by go_num, ⟨by rw [EN.out]; exact HR.out⟩, HW⟩
            case measure => simp [intOf]; omega
        · obtain rfl : j = at_.length := by omega
          by_cases hkl : k < l.length
          · obtain ⟨ad, ea, x0, x1⟩ := atNVisit (Kd.C_below HA.out HW.out) k hkl
            subst ea
            have r0 : (0 : Int) ≤ (k : Int) := by omega
            have r1 : (k : Int) < (l.length : Int) := by omega
            have en : setTo l at_ (k + 1) = setTo l at_ k ++ brkS at_ k at_.length ++ [l[k]] := by simp [setTo, hkl, rdVisit_nat l k hkl]
            have EN := Aside0.mk en
            clear en
            generalize hx : l[k] = x at *
            go_wp2_with (at_builtin; refine Kd.R_append kVisit (w0 := w) w.heap.size rfl (.tmp 35) (.tmp 40) 63 57 (.agg #[.int .i64 0, .int .i64 0]) 16 rfl Try.underlying63 infoVisit rfl (by decide) (by omega) u5 (setTo l at_ k ++ brkS at_ k at_.length) x _ (fun _ => True) (fun _ => False) rfl rfl (kVisit_mkM _ _ _ _) (fun _ h => h.elim) (fun _ _ => trivial) HR.out HW.out (by have := HW.out.size; omega) (by omega) ?_; intro v1 w1 ho hb hg hat; have HO := Aside0.mk ho; have HBN := Aside0.mk hb; clear ho hb hg hat)
            go_roundw
            case rel => exact ⟨k + 1, by omega, by go_num, ⟨by rw [EN.out]; exact HO.out⟩, HBN⟩
            case measure => simp [intOf]; omega
          · have en : setTo l at_ (k + 1) = setTo l at_ k ++ brkS at_ k at_.length := by simp [setTo, hkl]
            have EN := Aside0.mk en
            clear en
            go_wp2
            go_roundw
            case rel => exact ⟨k + 1, by omega, by go_num, ⟨by rw [EN.out]; exact HR.out⟩, HW⟩
            case measure => simp [intOf]; omega
    · obtain rfl : k = l.length + 1 := by omega
      obtain ⟨A', c', rfl, hle, hC⟩ := Kd.R_reads HR.out
      have HC := Aside0.mk hC
      have HS : Aside0 (setTo l at_ (l.length + 1) = setS l at_) := ⟨rfl⟩
      clear hC
      go_wp2
      go_ret
      exact ⟨A', c', rfl, hle, HC.out, HW.out⟩
end Go.Proofs.Ytemjpgmfignhnaa
