/- The struct types of the program that the proofs speak of, and how a value of each reads in memory.
Conditions: none. -/
import Derived.Test.YtemjpgmfignhnaaProg
import Derived.Below
import Derived.Deep.Draws
import Derived.Deep.AppendLies
import Derived.Maps.AppendAt
import Derived.OwnWalk
import Derived.Laws.BytesArg
import Derived.Laws.MakeOwn
import Derived.Laws.OwnMore
import Derived.Deep.OwnRows
import Derived.Tactics
import Derived.Lib.ConvBytes
import Derived.Laws.Slices
import Derived.WalkKit
import Derived.KernelRfl
import Derived.RowKit3
import Derived.Deep.LoopGhost
import Derived.Deep.QuietTactic
import Derived.BigQuiet
import Derived.WideLaws
import Derived.Deep.DeepCutAuto
import Derived.Deep.CutBlock
import Derived.Deep.RegionHeld3
import Derived.Laws.Rows
import Derived.Lib.AppendStr
import Derived.ArgAppend
import Derived.Laws.IdiomCopy
import Derived.OrdersHeld
import Derived.Laws.BitsLemmas
import Derived.RowKit
import Derived.IntWalk
import Derived.Test.YtemjpgmfignhnaaWWords
import Derived.Test.YtemjpgmfignhnaaWLast
import Derived.Test.YtemjpgmfignhnaaWApart
import Derived.Test.YtemjpgmfignhnaaWArr
import Derived.Test.YtemjpgmfignhnaaWFoot
import Derived.Test.YtemjpgmfignhnaaWKept
import Derived.Test.YtemjpgmfignhnaaWShare
import Derived.Test.YtemjpgmfignhnaaWEqStruct
import Derived.Test.YtemjpgmfignhnaaWRepsOne
import Derived.Test.YtemjpgmfignhnaaWGuard
namespace Go.Proofs.YtemjpgmfignhnaaW.PrintMore
end Go.Proofs.YtemjpgmfignhnaaW.PrintMore
namespace Go.Proofs.Ytemjpgmfignhnaa
open Go.RowKit Go.Proofs.YtemjpgmfignhnaaW.PrintWords Go.Proofs.YtemjpgmfignhnaaW.PrintLast Go.Proofs.YtemjpgmfignhnaaW.PrintMore
set_option linter.unusedVariables false
set_option linter.unusedSimpArgs false
/-! ### haulier/api.Matrix: type 24 -/
structure TMatrix where
 N : Int
 Cells : (List Int)
def kMatrix : Kd TMatrix := Kd.iso (Kd.pair (Kd.int .i64) (Kd.slice 3 (Kd.int .i64))) (fun x : TMatrix => (x.N, x.Cells))
theorem kMatrix_open {w : World} {x : TMatrix} {cs : List Value} (h : kMatrix.K w x cs) : ∃ A1 c1, cs = [.int .i64 x.N, .slice A1 x.Cells.length c1] ∧ x.Cells.length ≤ c1 ∧ Kd.C (Kd.int .i64) w A1 x.Cells.length x.Cells := by
 obtain ⟨c0_, d0_, rfl, h0, r0⟩ := h
 obtain rfl : c0_ = _ := h0
 obtain ⟨A1_, c1__, rfl, l1, g1⟩ := r0
 exact ⟨_, _, rfl, l1, g1⟩
/-! ### haulier/api.Window: type 40 -/
theorem infoWindow : (Try.prog.info? 40).map (fun i => (i.zero, i.size, i.bytes)) = some (some (.agg #[(.int .i64 0), (.int .i64 0)]), 2, 16) := by kernel_rfl
structure TWindow where
 From : Int
 To : Int
def zWindow : TWindow := ⟨0, 0⟩
def kWindow : Kd TWindow := Kd.iso (Kd.pair (Kd.int .i64) (Kd.int .i64)) (fun x : TWindow => (x.From, x.To))
theorem kWindow_open {w : World} {x : TWindow} {cs : List Value} (h : kWindow.K w x cs) : cs = [.int .i64 x.From, .int .i64 x.To] := by
 obtain ⟨c0_, d0_, rfl, h0, r0⟩ := h
 obtain rfl : c0_ = _ := h0
 obtain rfl := r0
 exact rfl
theorem kWindow_mk (w : World) (x : TWindow) : kWindow.K w x [.int .i64 x.From, .int .i64 x.To] := ⟨[.int .i64 x.From], _, rfl, rfl, rfl⟩
def rdWindow (xs : List TWindow) (i : Int) : TWindow := xs.getD i.toNat zWindow
theorem rdWindow_nat (xs : List TWindow) (i : Nat) (h : i < xs.length) : rdWindow xs (i : Int) = xs[i] := by simp [rdWindow, List.getElem?_eq_getElem h]
theorem atWindow {w : World} {A : Option Addr} {n : Nat} {xs : List TWindow} (h : Kd.C kWindow w A n xs) (i : Int) (h0 : 0 ≤ i) (h1 : i < n) : ∃ ad, A = some ad ∧ w.cell? (ad.add (i.toNat * 2)) = some (.int .i64 (rdWindow xs i).From) ∧ w.cell? ⟨(ad.add (i.toNat * 2)).block, (ad.add (i.toNat * 2)).off + 1, none⟩ = some (.int .i64 (rdWindow xs i).To) := by
 obtain ⟨ad, c, e, _, hK, hc0⟩ := Kd.C_get h zWindow i h0 h1
 have hc : ∀ j u, c[j]? = some u → w.cell? (ad.add (i.toNat * 2 + j)) = some u := hc0
 obtain rfl := kWindow_open hK
 exact ⟨ad, e, hc 0 _ rfl, (by rw [← add_field _ _ 1 (by omega)]; exact hc 1 _ rfl)⟩
theorem atNWindow {w : World} {A : Option Addr} {xs : List TWindow} (h : Kd.C kWindow w A xs.length xs) (k : Nat) (h1 : k < xs.length) : ∃ ad, A = some ad ∧ w.cell? (ad.add (k * 2)) = some (.int .i64 xs[k].From) ∧ w.cell? ⟨(ad.add (k * 2)).block, (ad.add (k * 2)).off + 1, none⟩ = some (.int .i64 xs[k].To) := by
 have := atWindow h (k : Int) (by omega) (by omega)
 simp only [Int.toNat_natCast, rdWindow_nat xs k h1] at this
 exact this
/-! ### haulier/api.Break: type 93 -/
theorem infoBreak : (Try.prog.info? 93).map (fun i => (i.zero, i.size, i.bytes)) = some (some (.agg #[(.slice none 0 0), (.int .i64 0)]), 2, 32) := by kernel_rfl
structure TBreak where
 Windows : (List TWindow)
 Service : Int
def zBreak : TBreak := ⟨[], 0⟩
def kBreak : Kd TBreak := Kd.iso (Kd.pair (Kd.slice 40 kWindow) (Kd.int .i64)) (fun x : TBreak => (x.Windows, x.Service))
theorem kBreak_open {w : World} {x : TBreak} {cs : List Value} (h : kBreak.K w x cs) : ∃ A0 c0, cs = [.slice A0 x.Windows.length c0, .int .i64 x.Service] ∧ x.Windows.length ≤ c0 ∧ Kd.C kWindow w A0 x.Windows.length x.Windows := by
 obtain ⟨c0_, d0_, rfl, h0, r0⟩ := h
 obtain ⟨A0_, c0__, rfl, l0, g0⟩ := h0
 obtain rfl := r0
 exact ⟨_, _, rfl, l0, g0⟩
theorem kBreak_mk (w : World) (x : TBreak) (A0 : Option Addr) (c0 : Nat) (l0 : x.Windows.length ≤ c0) (h0 : Kd.C kWindow w A0 x.Windows.length x.Windows) : kBreak.K w x [.slice A0 x.Windows.length c0, .int .i64 x.Service] := ⟨[.slice A0 x.Windows.length c0], _, rfl, ⟨A0, c0, rfl, l0, h0⟩, rfl⟩
def rdBreak (xs : List TBreak) (i : Int) : TBreak := xs.getD i.toNat zBreak
theorem rdBreak_nat (xs : List TBreak) (i : Nat) (h : i < xs.length) : rdBreak xs (i : Int) = xs[i] := by simp [rdBreak, List.getElem?_eq_getElem h]
theorem atBreak {w : World} {A : Option Addr} {n : Nat} {xs : List TBreak} (h : Kd.C kBreak w A n xs) (i : Int) (h0 : 0 ≤ i) (h1 : i < n) : ∃ ad A0 c0, A = some ad ∧ w.cell? (ad.add (i.toNat * 2)) = some (.slice A0 (rdBreak xs i).Windows.length c0) ∧ w.cell? ⟨(ad.add (i.toNat * 2)).block, (ad.add (i.toNat * 2)).off + 1, none⟩ = some (.int .i64 (rdBreak xs i).Service) ∧ (rdBreak xs i).Windows.length ≤ c0 ∧ Kd.C kWindow w A0 (rdBreak xs i).Windows.length (rdBreak xs i).Windows := by
 obtain ⟨ad, c, e, _, hK, hc0⟩ := Kd.C_get h zBreak i h0 h1
 have hc : ∀ j u, c[j]? = some u → w.cell? (ad.add (i.toNat * 2 + j)) = some u := hc0
 obtain ⟨A0, c0, rfl, l0, g0⟩ := kBreak_open hK
 exact ⟨ad, A0, c0, e, hc 0 _ rfl, (by rw [← add_field _ _ 1 (by omega)]; exact hc 1 _ rfl), l0, g0⟩
theorem atNBreak {w : World} {A : Option Addr} {xs : List TBreak} (h : Kd.C kBreak w A xs.length xs) (k : Nat) (h1 : k < xs.length) : ∃ ad A0 c0, A = some ad ∧ w.cell? (ad.add (k * 2)) = some (.slice A0 xs[k].Windows.length c0) ∧ w.cell? ⟨(ad.add (k * 2)).block, (ad.add (k * 2)).off + 1, none⟩ = some (.int .i64 xs[k].Service) ∧ xs[k].Windows.length ≤ c0 ∧ Kd.C kWindow w A0 xs[k].Windows.length xs[k].Windows := by
 have := atBreak h (k : Int) (by omega) (by omega)
 simp only [Int.toNat_natCast, rdBreak_nat xs k h1] at this
 exact this
/-! ### haulier/api.Vehicle: type 89 -/
theorem infoVehicle : (Try.prog.info? 89).map (fun i => (i.zero, i.size, i.bytes)) = some (some (.agg #[(.int .i64 0), (.int .i64 0), (.slice none 0 0), (.int .u64 0), (.int .i64 0), (.int .i64 0), (.int .i64 0), (.int .i64 0), (.int .i64 0), (.int .i64 0), (.slice none 0 0)]), 11, 120) := by kernel_rfl
structure TVehicle where
 Start : Int
 End : Int
 Cap : (List Int)
 Skills : Int
 Shift : TWindow
 Fixed : Int
 PerTime : Int
 PerDist : Int
 MaxTasks : Int
 Breaks : (List TBreak)
def zVehicle : TVehicle := ⟨0, 0, [], 0, zWindow, 0, 0, 0, 0, []⟩
def kVehicle : Kd TVehicle := Kd.iso (Kd.pair (Kd.int .i64) (Kd.pair (Kd.int .i64) (Kd.pair (Kd.slice 3 (Kd.int .i64)) (Kd.pair (Kd.int .u64) (Kd.pair kWindow (Kd.pair (Kd.int .i64) (Kd.pair (Kd.int .i64) (Kd.pair (Kd.int .i64) (Kd.pair (Kd.int .i64) (Kd.slice 93 kBreak)))))))))) (fun x : TVehicle => (x.Start, (x.End, (x.Cap, (x.Skills, (x.Shift, (x.Fixed, (x.PerTime, (x.PerDist, (x.MaxTasks, x.Breaks))))))))))
theorem kVehicle_open {w : World} {x : TVehicle} {cs : List Value} (h : kVehicle.K w x cs) : ∃ A2 c2, ∃ A10 c10, cs = [.int .i64 x.Start, .int .i64 x.End, .slice A2 x.Cap.length c2, .int .u64 x.Skills, .int .i64 x.Shift.From, .int .i64 x.Shift.To, .int .i64 x.Fixed, .int .i64 x.PerTime, .int .i64 x.PerDist, .int .i64 x.MaxTasks, .slice A10 x.Breaks.length c10] ∧ x.Cap.length ≤ c2 ∧ Kd.C (Kd.int .i64) w A2 x.Cap.length x.Cap ∧ x.Breaks.length ≤ c10 ∧ Kd.C kBreak w A10 x.Breaks.length x.Breaks := by
 obtain ⟨c0_, d0_, rfl, h0, r0⟩ := h
 obtain rfl : c0_ = _ := h0
 obtain ⟨c1_, d1_, rfl, h1, r1⟩ := r0
 obtain rfl : c1_ = _ := h1
 obtain ⟨c2_, d2_, rfl, h2, r2⟩ := r1
 obtain ⟨A2_, c2__, rfl, l2, g2⟩ := h2
 obtain ⟨c3_, d3_, rfl, h3, r3⟩ := r2
 obtain rfl : c3_ = _ := h3
 obtain ⟨c4_, d4_, rfl, h4, r4⟩ := r3
 obtain ⟨rfl⟩ := kWindow_open h4
 obtain ⟨c5_, d5_, rfl, h5, r5⟩ := r4
 obtain rfl : c5_ = _ := h5
 obtain ⟨c6_, d6_, rfl, h6, r6⟩ := r5
 obtain rfl : c6_ = _ := h6
 obtain ⟨c7_, d7_, rfl, h7, r7⟩ := r6
 obtain rfl : c7_ = _ := h7
 obtain ⟨c8_, d8_, rfl, h8, r8⟩ := r7
 obtain rfl : c8_ = _ := h8
 obtain ⟨A9_, c9__, rfl, l9, g9⟩ := r8
 exact ⟨_, _, _, _, rfl, l2, g2, l9, g9⟩
theorem kVehicle_mk (w : World) (x : TVehicle) (A2 : Option Addr) (c2 : Nat) (l2 : x.Cap.length ≤ c2) (h2 : Kd.C (Kd.int .i64) w A2 x.Cap.length x.Cap) (A10 : Option Addr) (c10 : Nat) (l10 : x.Breaks.length ≤ c10) (h10 : Kd.C kBreak w A10 x.Breaks.length x.Breaks) : kVehicle.K w x [.int .i64 x.Start, .int .i64 x.End, .slice A2 x.Cap.length c2, .int .u64 x.Skills, .int .i64 x.Shift.From, .int .i64 x.Shift.To, .int .i64 x.Fixed, .int .i64 x.PerTime, .int .i64 x.PerDist, .int .i64 x.MaxTasks, .slice A10 x.Breaks.length c10] := ⟨[.int .i64 x.Start], _, rfl, rfl, ⟨[.int .i64 x.End], _, rfl, rfl, ⟨[.slice A2 x.Cap.length c2], _, rfl, ⟨A2, c2, rfl, l2, h2⟩, ⟨[.int .u64 x.Skills], _, rfl, rfl, ⟨[.int .i64 x.Shift.From, .int .i64 x.Shift.To], _, rfl, (kWindow_mk w x.Shift ), ⟨[.int .i64 x.Fixed], _, rfl, rfl, ⟨[.int .i64 x.PerTime], _, rfl, rfl, ⟨[.int .i64 x.PerDist], _, rfl, rfl, ⟨[.int .i64 x.MaxTasks], _, rfl, rfl, ⟨A10, c10, rfl, l10, h10⟩⟩⟩⟩⟩⟩⟩⟩⟩⟩
def rdVehicle (xs : List TVehicle) (i : Int) : TVehicle := xs.getD i.toNat zVehicle
theorem rdVehicle_nat (xs : List TVehicle) (i : Nat) (h : i < xs.length) : rdVehicle xs (i : Int) = xs[i] := by simp [rdVehicle, List.getElem?_eq_getElem h]
theorem atVehicle {w : World} {A : Option Addr} {n : Nat} {xs : List TVehicle} (h : Kd.C kVehicle w A n xs) (i : Int) (h0 : 0 ≤ i) (h1 : i < n) : ∃ ad A2 c2 A10 c10, A = some ad ∧ w.cell? (ad.add (i.toNat * 11)) = some (.int .i64 (rdVehicle xs i).Start) ∧ w.cell? ⟨(ad.add (i.toNat * 11)).block, (ad.add (i.toNat * 11)).off + 1, none⟩ = some (.int .i64 (rdVehicle xs i).End) ∧ w.cell? ⟨(ad.add (i.toNat * 11)).block, (ad.add (i.toNat * 11)).off + 2, none⟩ = some (.slice A2 (rdVehicle xs i).Cap.length c2) ∧ w.cell? ⟨(ad.add (i.toNat * 11)).block, (ad.add (i.toNat * 11)).off + 3, none⟩ = some (.int .u64 (rdVehicle xs i).Skills) ∧ w.cell? ⟨(ad.add (i.toNat * 11)).block, (ad.add (i.toNat * 11)).off + 4, none⟩ = some (.int .i64 (rdVehicle xs i).Shift.From) ∧ w.cell? ⟨(ad.add (i.toNat * 11)).block, (ad.add (i.toNat * 11)).off + 5, none⟩ = some (.int .i64 (rdVehicle xs i).Shift.To) ∧ w.cell? ⟨(ad.add (i.toNat * 11)).block, (ad.add (i.toNat * 11)).off + 6, none⟩ = some (.int .i64 (rdVehicle xs i).Fixed) ∧ w.cell? ⟨(ad.add (i.toNat * 11)).block, (ad.add (i.toNat * 11)).off + 7, none⟩ = some (.int .i64 (rdVehicle xs i).PerTime) ∧ w.cell? ⟨(ad.add (i.toNat * 11)).block, (ad.add (i.toNat * 11)).off + 8, none⟩ = some (.int .i64 (rdVehicle xs i).PerDist) ∧ w.cell? ⟨(ad.add (i.toNat * 11)).block, (ad.add (i.toNat * 11)).off + 9, none⟩ = some (.int .i64 (rdVehicle xs i).MaxTasks) ∧ w.cell? ⟨(ad.add (i.toNat * 11)).block, (ad.add (i.toNat * 11)).off + 10, none⟩ = some (.slice A10 (rdVehicle xs i).Breaks.length c10) ∧ (rdVehicle xs i).Cap.length ≤ c2 ∧ Kd.C (Kd.int .i64) w A2 (rdVehicle xs i).Cap.length (rdVehicle xs i).Cap ∧ (rdVehicle xs i).Breaks.length ≤ c10 ∧ Kd.C kBreak w A10 (rdVehicle xs i).Breaks.length (rdVehicle xs i).Breaks := by
 obtain ⟨ad, c, e, _, hK, hc0⟩ := Kd.C_get h zVehicle i h0 h1
 have hc : ∀ j u, c[j]? = some u → w.cell? (ad.add (i.toNat * 11 + j)) = some u := hc0
 obtain ⟨A2, c2, A10, c10, rfl, l2, g2, l10, g10⟩ := kVehicle_open hK
 exact ⟨ad, A2, c2, A10, c10, e, hc 0 _ rfl, (by rw [← add_field _ _ 1 (by omega)]; exact hc 1 _ rfl), (by rw [← add_field _ _ 2 (by omega)]; exact hc 2 _ rfl), (by rw [← add_field _ _ 3 (by omega)]; exact hc 3 _ rfl), (by rw [← add_field _ _ 4 (by omega)]; exact hc 4 _ rfl), (by rw [← add_field _ _ 5 (by omega)]; exact hc 5 _ rfl), (by rw [← add_field _ _ 6 (by omega)]; exact hc 6 _ rfl), (by rw [← add_field _ _ 7 (by omega)]; exact hc 7 _ rfl), (by rw [← add_field _ _ 8 (by omega)]; exact hc 8 _ rfl), (by rw [← add_field _ _ 9 (by omega)]; exact hc 9 _ rfl), (by rw [← add_field _ _ 10 (by omega)]; exact hc 10 _ rfl), l2, g2, l10, g10⟩
theorem atNVehicle {w : World} {A : Option Addr} {xs : List TVehicle} (h : Kd.C kVehicle w A xs.length xs) (k : Nat) (h1 : k < xs.length) : ∃ ad A2 c2 A10 c10, A = some ad ∧ w.cell? (ad.add (k * 11)) = some (.int .i64 xs[k].Start) ∧ w.cell? ⟨(ad.add (k * 11)).block, (ad.add (k * 11)).off + 1, none⟩ = some (.int .i64 xs[k].End) ∧ w.cell? ⟨(ad.add (k * 11)).block, (ad.add (k * 11)).off + 2, none⟩ = some (.slice A2 xs[k].Cap.length c2) ∧ w.cell? ⟨(ad.add (k * 11)).block, (ad.add (k * 11)).off + 3, none⟩ = some (.int .u64 xs[k].Skills) ∧ w.cell? ⟨(ad.add (k * 11)).block, (ad.add (k * 11)).off + 4, none⟩ = some (.int .i64 xs[k].Shift.From) ∧ w.cell? ⟨(ad.add (k * 11)).block, (ad.add (k * 11)).off + 5, none⟩ = some (.int .i64 xs[k].Shift.To) ∧ w.cell? ⟨(ad.add (k * 11)).block, (ad.add (k * 11)).off + 6, none⟩ = some (.int .i64 xs[k].Fixed) ∧ w.cell? ⟨(ad.add (k * 11)).block, (ad.add (k * 11)).off + 7, none⟩ = some (.int .i64 xs[k].PerTime) ∧ w.cell? ⟨(ad.add (k * 11)).block, (ad.add (k * 11)).off + 8, none⟩ = some (.int .i64 xs[k].PerDist) ∧ w.cell? ⟨(ad.add (k * 11)).block, (ad.add (k * 11)).off + 9, none⟩ = some (.int .i64 xs[k].MaxTasks) ∧ w.cell? ⟨(ad.add (k * 11)).block, (ad.add (k * 11)).off + 10, none⟩ = some (.slice A10 xs[k].Breaks.length c10) ∧ xs[k].Cap.length ≤ c2 ∧ Kd.C (Kd.int .i64) w A2 xs[k].Cap.length xs[k].Cap ∧ xs[k].Breaks.length ≤ c10 ∧ Kd.C kBreak w A10 xs[k].Breaks.length xs[k].Breaks := by
 have := atVehicle h (k : Int) (by omega) (by omega)
 simp only [Int.toNat_natCast, rdVehicle_nat xs k h1] at this
 exact this
/-! ### haulier/api.Stop: type 43 -/
structure TStop where
 Place : Int
 Service : Int
 Windows : (List TWindow)
def zStop : TStop := ⟨0, 0, []⟩
def kStop : Kd TStop := Kd.iso (Kd.pair (Kd.int .i64) (Kd.pair (Kd.int .i64) (Kd.slice 40 kWindow))) (fun x : TStop => (x.Place, (x.Service, x.Windows)))
theorem kStop_open {w : World} {x : TStop} {cs : List Value} (h : kStop.K w x cs) : ∃ A2 c2, cs = [.int .i64 x.Place, .int .i64 x.Service, .slice A2 x.Windows.length c2] ∧ x.Windows.length ≤ c2 ∧ Kd.C kWindow w A2 x.Windows.length x.Windows := by
 obtain ⟨c0_, d0_, rfl, h0, r0⟩ := h
 obtain rfl : c0_ = _ := h0
 obtain ⟨c1_, d1_, rfl, h1, r1⟩ := r0
 obtain rfl : c1_ = _ := h1
 obtain ⟨A2_, c2__, rfl, l2, g2⟩ := r1
 exact ⟨_, _, rfl, l2, g2⟩
theorem kStop_mk (w : World) (x : TStop) (A2 : Option Addr) (c2 : Nat) (l2 : x.Windows.length ≤ c2) (h2 : Kd.C kWindow w A2 x.Windows.length x.Windows) : kStop.K w x [.int .i64 x.Place, .int .i64 x.Service, .slice A2 x.Windows.length c2] := ⟨[.int .i64 x.Place], _, rfl, rfl, ⟨[.int .i64 x.Service], _, rfl, rfl, ⟨A2, c2, rfl, l2, h2⟩⟩⟩
/-! ### haulier/api.Job: type 46 -/
theorem infoJob : (Try.prog.info? 46).map (fun i => (i.zero, i.size, i.bytes)) = some (some (.agg #[(.int .i64 0), (.int .i64 0), (.slice none 0 0), (.slice none 0 0), (.slice none 0 0), (.int .u64 0), (.int .i64 0)]), 7, 104) := by kernel_rfl
structure TJob where
 Stop : TStop
 Drop : (List Int)
 Pick : (List Int)
 Skills : Int
 Priority : Int
def zJob : TJob := ⟨zStop, [], [], 0, 0⟩
def kJob : Kd TJob := Kd.iso (Kd.pair kStop (Kd.pair (Kd.slice 3 (Kd.int .i64)) (Kd.pair (Kd.slice 3 (Kd.int .i64)) (Kd.pair (Kd.int .u64) (Kd.int .i64))))) (fun x : TJob => (x.Stop, (x.Drop, (x.Pick, (x.Skills, x.Priority)))))
theorem kJob_open {w : World} {x : TJob} {cs : List Value} (h : kJob.K w x cs) : ∃ A2 c2, ∃ A3 c3, ∃ A4 c4, cs = [.int .i64 x.Stop.Place, .int .i64 x.Stop.Service, .slice A2 x.Stop.Windows.length c2, .slice A3 x.Drop.length c3, .slice A4 x.Pick.length c4, .int .u64 x.Skills, .int .i64 x.Priority] ∧ x.Stop.Windows.length ≤ c2 ∧ Kd.C kWindow w A2 x.Stop.Windows.length x.Stop.Windows ∧ x.Drop.length ≤ c3 ∧ Kd.C (Kd.int .i64) w A3 x.Drop.length x.Drop ∧ x.Pick.length ≤ c4 ∧ Kd.C (Kd.int .i64) w A4 x.Pick.length x.Pick := by
 obtain ⟨c0_, d0_, rfl, h0, r0⟩ := h
 obtain ⟨A0_0, c0_0, rfl, l0_0, g0_0⟩ := kStop_open h0
 obtain ⟨c1_, d1_, rfl, h1, r1⟩ := r0
 obtain ⟨A1_, c1__, rfl, l1, g1⟩ := h1
 obtain ⟨c2_, d2_, rfl, h2, r2⟩ := r1
 obtain ⟨A2_, c2__, rfl, l2, g2⟩ := h2
 obtain ⟨c3_, d3_, rfl, h3, r3⟩ := r2
 obtain rfl : c3_ = _ := h3
 obtain rfl := r3
 exact ⟨_, _, _, _, _, _, rfl, l0_0, g0_0, l1, g1, l2, g2⟩
theorem kJob_mk (w : World) (x : TJob) (A2 : Option Addr) (c2 : Nat) (l2 : x.Stop.Windows.length ≤ c2) (h2 : Kd.C kWindow w A2 x.Stop.Windows.length x.Stop.Windows) (A3 : Option Addr) (c3 : Nat) (l3 : x.Drop.length ≤ c3) (h3 : Kd.C (Kd.int .i64) w A3 x.Drop.length x.Drop) (A4 : Option Addr) (c4 : Nat) (l4 : x.Pick.length ≤ c4) (h4 : Kd.C (Kd.int .i64) w A4 x.Pick.length x.Pick) : kJob.K w x [.int .i64 x.Stop.Place, .int .i64 x.Stop.Service, .slice A2 x.Stop.Windows.length c2, .slice A3 x.Drop.length c3, .slice A4 x.Pick.length c4, .int .u64 x.Skills, .int .i64 x.Priority] := ⟨[.int .i64 x.Stop.Place, .int .i64 x.Stop.Service, .slice A2 x.Stop.Windows.length c2], _, rfl, (kStop_mk w x.Stop A2 c2 l2 h2), ⟨[.slice A3 x.Drop.length c3], _, rfl, ⟨A3, c3, rfl, l3, h3⟩, ⟨[.slice A4 x.Pick.length c4], _, rfl, ⟨A4, c4, rfl, l4, h4⟩, ⟨[.int .u64 x.Skills], _, rfl, rfl, rfl⟩⟩⟩⟩
def rdJob (xs : List TJob) (i : Int) : TJob := xs.getD i.toNat zJob
theorem rdJob_nat (xs : List TJob) (i : Nat) (h : i < xs.length) : rdJob xs (i : Int) = xs[i] := by simp [rdJob, List.getElem?_eq_getElem h]
theorem atJob {w : World} {A : Option Addr} {n : Nat} {xs : List TJob} (h : Kd.C kJob w A n xs) (i : Int) (h0 : 0 ≤ i) (h1 : i < n) : ∃ ad A2 c2 A3 c3 A4 c4, A = some ad ∧ w.cell? (ad.add (i.toNat * 7)) = some (.int .i64 (rdJob xs i).Stop.Place) ∧ w.cell? ⟨(ad.add (i.toNat * 7)).block, (ad.add (i.toNat * 7)).off + 1, none⟩ = some (.int .i64 (rdJob xs i).Stop.Service) ∧ w.cell? ⟨(ad.add (i.toNat * 7)).block, (ad.add (i.toNat * 7)).off + 2, none⟩ = some (.slice A2 (rdJob xs i).Stop.Windows.length c2) ∧ w.cell? ⟨(ad.add (i.toNat * 7)).block, (ad.add (i.toNat * 7)).off + 3, none⟩ = some (.slice A3 (rdJob xs i).Drop.length c3) ∧ w.cell? ⟨(ad.add (i.toNat * 7)).block, (ad.add (i.toNat * 7)).off + 4, none⟩ = some (.slice A4 (rdJob xs i).Pick.length c4) ∧ w.cell? ⟨(ad.add (i.toNat * 7)).block, (ad.add (i.toNat * 7)).off + 5, none⟩ = some (.int .u64 (rdJob xs i).Skills) ∧ w.cell? ⟨(ad.add (i.toNat * 7)).block, (ad.add (i.toNat * 7)).off + 6, none⟩ = some (.int .i64 (rdJob xs i).Priority) ∧ (rdJob xs i).Stop.Windows.length ≤ c2 ∧ Kd.C kWindow w A2 (rdJob xs i).Stop.Windows.length (rdJob xs i).Stop.Windows ∧ (rdJob xs i).Drop.length ≤ c3 ∧ Kd.C (Kd.int .i64) w A3 (rdJob xs i).Drop.length (rdJob xs i).Drop ∧ (rdJob xs i).Pick.length ≤ c4 ∧ Kd.C (Kd.int .i64) w A4 (rdJob xs i).Pick.length (rdJob xs i).Pick := by
 obtain ⟨ad, c, e, _, hK, hc0⟩ := Kd.C_get h zJob i h0 h1
 have hc : ∀ j u, c[j]? = some u → w.cell? (ad.add (i.toNat * 7 + j)) = some u := hc0
 obtain ⟨A2, c2, A3, c3, A4, c4, rfl, l2, g2, l3, g3, l4, g4⟩ := kJob_open hK
 exact ⟨ad, A2, c2, A3, c3, A4, c4, e, hc 0 _ rfl, (by rw [← add_field _ _ 1 (by omega)]; exact hc 1 _ rfl), (by rw [← add_field _ _ 2 (by omega)]; exact hc 2 _ rfl), (by rw [← add_field _ _ 3 (by omega)]; exact hc 3 _ rfl), (by rw [← add_field _ _ 4 (by omega)]; exact hc 4 _ rfl), (by rw [← add_field _ _ 5 (by omega)]; exact hc 5 _ rfl), (by rw [← add_field _ _ 6 (by omega)]; exact hc 6 _ rfl), l2, g2, l3, g3, l4, g4⟩
theorem atNJob {w : World} {A : Option Addr} {xs : List TJob} (h : Kd.C kJob w A xs.length xs) (k : Nat) (h1 : k < xs.length) : ∃ ad A2 c2 A3 c3 A4 c4, A = some ad ∧ w.cell? (ad.add (k * 7)) = some (.int .i64 xs[k].Stop.Place) ∧ w.cell? ⟨(ad.add (k * 7)).block, (ad.add (k * 7)).off + 1, none⟩ = some (.int .i64 xs[k].Stop.Service) ∧ w.cell? ⟨(ad.add (k * 7)).block, (ad.add (k * 7)).off + 2, none⟩ = some (.slice A2 xs[k].Stop.Windows.length c2) ∧ w.cell? ⟨(ad.add (k * 7)).block, (ad.add (k * 7)).off + 3, none⟩ = some (.slice A3 xs[k].Drop.length c3) ∧ w.cell? ⟨(ad.add (k * 7)).block, (ad.add (k * 7)).off + 4, none⟩ = some (.slice A4 xs[k].Pick.length c4) ∧ w.cell? ⟨(ad.add (k * 7)).block, (ad.add (k * 7)).off + 5, none⟩ = some (.int .u64 xs[k].Skills) ∧ w.cell? ⟨(ad.add (k * 7)).block, (ad.add (k * 7)).off + 6, none⟩ = some (.int .i64 xs[k].Priority) ∧ xs[k].Stop.Windows.length ≤ c2 ∧ Kd.C kWindow w A2 xs[k].Stop.Windows.length xs[k].Stop.Windows ∧ xs[k].Drop.length ≤ c3 ∧ Kd.C (Kd.int .i64) w A3 xs[k].Drop.length xs[k].Drop ∧ xs[k].Pick.length ≤ c4 ∧ Kd.C (Kd.int .i64) w A4 xs[k].Pick.length xs[k].Pick := by
 have := atJob h (k : Int) (by omega) (by omega)
 simp only [Int.toNat_natCast, rdJob_nat xs k h1] at this
 exact this
/-! ### haulier/api.Shipment: type 139 -/
theorem infoShipment : (Try.prog.info? 139).map (fun i => (i.zero, i.size, i.bytes)) = some (some (.agg #[(.int .i64 0), (.int .i64 0), (.slice none 0 0), (.int .i64 0), (.int .i64 0), (.slice none 0 0), (.slice none 0 0), (.int .u64 0), (.int .i64 0)]), 9, 120) := by kernel_rfl
structure TShipment where
 Pickup : TStop
 Delivery : TStop
 Amount : (List Int)
 Skills : Int
 Priority : Int
def zShipment : TShipment := ⟨zStop, zStop, [], 0, 0⟩
def kShipment : Kd TShipment := Kd.iso (Kd.pair kStop (Kd.pair kStop (Kd.pair (Kd.slice 3 (Kd.int .i64)) (Kd.pair (Kd.int .u64) (Kd.int .i64))))) (fun x : TShipment => (x.Pickup, (x.Delivery, (x.Amount, (x.Skills, x.Priority)))))
theorem kShipment_open {w : World} {x : TShipment} {cs : List Value} (h : kShipment.K w x cs) : ∃ A2 c2, ∃ A5 c5, ∃ A6 c6, cs = [.int .i64 x.Pickup.Place, .int .i64 x.Pickup.Service, .slice A2 x.Pickup.Windows.length c2, .int .i64 x.Delivery.Place, .int .i64 x.Delivery.Service, .slice A5 x.Delivery.Windows.length c5, .slice A6 x.Amount.length c6, .int .u64 x.Skills, .int .i64 x.Priority] ∧ x.Pickup.Windows.length ≤ c2 ∧ Kd.C kWindow w A2 x.Pickup.Windows.length x.Pickup.Windows ∧ x.Delivery.Windows.length ≤ c5 ∧ Kd.C kWindow w A5 x.Delivery.Windows.length x.Delivery.Windows ∧ x.Amount.length ≤ c6 ∧ Kd.C (Kd.int .i64) w A6 x.Amount.length x.Amount := by
 obtain ⟨c0_, d0_, rfl, h0, r0⟩ := h
 obtain ⟨A0_0, c0_0, rfl, l0_0, g0_0⟩ := kStop_open h0
 obtain ⟨c1_, d1_, rfl, h1, r1⟩ := r0
 obtain ⟨A1_0, c1_0, rfl, l1_0, g1_0⟩ := kStop_open h1
 obtain ⟨c2_, d2_, rfl, h2, r2⟩ := r1
 obtain ⟨A2_, c2__, rfl, l2, g2⟩ := h2
 obtain ⟨c3_, d3_, rfl, h3, r3⟩ := r2
 obtain rfl : c3_ = _ := h3
 obtain rfl := r3
 exact ⟨_, _, _, _, _, _, rfl, l0_0, g0_0, l1_0, g1_0, l2, g2⟩
theorem kShipment_mk (w : World) (x : TShipment) (A2 : Option Addr) (c2 : Nat) (l2 : x.Pickup.Windows.length ≤ c2) (h2 : Kd.C kWindow w A2 x.Pickup.Windows.length x.Pickup.Windows) (A5 : Option Addr) (c5 : Nat) (l5 : x.Delivery.Windows.length ≤ c5) (h5 : Kd.C kWindow w A5 x.Delivery.Windows.length x.Delivery.Windows) (A6 : Option Addr) (c6 : Nat) (l6 : x.Amount.length ≤ c6) (h6 : Kd.C (Kd.int .i64) w A6 x.Amount.length x.Amount) : kShipment.K w x [.int .i64 x.Pickup.Place, .int .i64 x.Pickup.Service, .slice A2 x.Pickup.Windows.length c2, .int .i64 x.Delivery.Place, .int .i64 x.Delivery.Service, .slice A5 x.Delivery.Windows.length c5, .slice A6 x.Amount.length c6, .int .u64 x.Skills, .int .i64 x.Priority] := ⟨[.int .i64 x.Pickup.Place, .int .i64 x.Pickup.Service, .slice A2 x.Pickup.Windows.length c2], _, rfl, (kStop_mk w x.Pickup A2 c2 l2 h2), ⟨[.int .i64 x.Delivery.Place, .int .i64 x.Delivery.Service, .slice A5 x.Delivery.Windows.length c5], _, rfl, (kStop_mk w x.Delivery A5 c5 l5 h5), ⟨[.slice A6 x.Amount.length c6], _, rfl, ⟨A6, c6, rfl, l6, h6⟩, ⟨[.int .u64 x.Skills], _, rfl, rfl, rfl⟩⟩⟩⟩
def rdShipment (xs : List TShipment) (i : Int) : TShipment := xs.getD i.toNat zShipment
theorem rdShipment_nat (xs : List TShipment) (i : Nat) (h : i < xs.length) : rdShipment xs (i : Int) = xs[i] := by simp [rdShipment, List.getElem?_eq_getElem h]
theorem atShipment {w : World} {A : Option Addr} {n : Nat} {xs : List TShipment} (h : Kd.C kShipment w A n xs) (i : Int) (h0 : 0 ≤ i) (h1 : i < n) : ∃ ad A2 c2 A5 c5 A6 c6, A = some ad ∧ w.cell? (ad.add (i.toNat * 9)) = some (.int .i64 (rdShipment xs i).Pickup.Place) ∧ w.cell? ⟨(ad.add (i.toNat * 9)).block, (ad.add (i.toNat * 9)).off + 1, none⟩ = some (.int .i64 (rdShipment xs i).Pickup.Service) ∧ w.cell? ⟨(ad.add (i.toNat * 9)).block, (ad.add (i.toNat * 9)).off + 2, none⟩ = some (.slice A2 (rdShipment xs i).Pickup.Windows.length c2) ∧ w.cell? ⟨(ad.add (i.toNat * 9)).block, (ad.add (i.toNat * 9)).off + 3, none⟩ = some (.int .i64 (rdShipment xs i).Delivery.Place) ∧ w.cell? ⟨(ad.add (i.toNat * 9)).block, (ad.add (i.toNat * 9)).off + 4, none⟩ = some (.int .i64 (rdShipment xs i).Delivery.Service) ∧ w.cell? ⟨(ad.add (i.toNat * 9)).block, (ad.add (i.toNat * 9)).off + 5, none⟩ = some (.slice A5 (rdShipment xs i).Delivery.Windows.length c5) ∧ w.cell? ⟨(ad.add (i.toNat * 9)).block, (ad.add (i.toNat * 9)).off + 6, none⟩ = some (.slice A6 (rdShipment xs i).Amount.length c6) ∧ w.cell? ⟨(ad.add (i.toNat * 9)).block, (ad.add (i.toNat * 9)).off + 7, none⟩ = some (.int .u64 (rdShipment xs i).Skills) ∧ w.cell? ⟨(ad.add (i.toNat * 9)).block, (ad.add (i.toNat * 9)).off + 8, none⟩ = some (.int .i64 (rdShipment xs i).Priority) ∧ (rdShipment xs i).Pickup.Windows.length ≤ c2 ∧ Kd.C kWindow w A2 (rdShipment xs i).Pickup.Windows.length (rdShipment xs i).Pickup.Windows ∧ (rdShipment xs i).Delivery.Windows.length ≤ c5 ∧ Kd.C kWindow w A5 (rdShipment xs i).Delivery.Windows.length (rdShipment xs i).Delivery.Windows ∧ (rdShipment xs i).Amount.length ≤ c6 ∧ Kd.C (Kd.int .i64) w A6 (rdShipment xs i).Amount.length (rdShipment xs i).Amount := by
 obtain ⟨ad, c, e, _, hK, hc0⟩ := Kd.C_get h zShipment i h0 h1
 have hc : ∀ j u, c[j]? = some u → w.cell? (ad.add (i.toNat * 9 + j)) = some u := hc0
 obtain ⟨A2, c2, A5, c5, A6, c6, rfl, l2, g2, l5, g5, l6, g6⟩ := kShipment_open hK
 exact ⟨ad, A2, c2, A5, c5, A6, c6, e, hc 0 _ rfl, (by rw [← add_field _ _ 1 (by omega)]; exact hc 1 _ rfl), (by rw [← add_field _ _ 2 (by omega)]; exact hc 2 _ rfl), (by rw [← add_field _ _ 3 (by omega)]; exact hc 3 _ rfl), (by rw [← add_field _ _ 4 (by omega)]; exact hc 4 _ rfl), (by rw [← add_field _ _ 5 (by omega)]; exact hc 5 _ rfl), (by rw [← add_field _ _ 6 (by omega)]; exact hc 6 _ rfl), (by rw [← add_field _ _ 7 (by omega)]; exact hc 7 _ rfl), (by rw [← add_field _ _ 8 (by omega)]; exact hc 8 _ rfl), l2, g2, l5, g5, l6, g6⟩
theorem atNShipment {w : World} {A : Option Addr} {xs : List TShipment} (h : Kd.C kShipment w A xs.length xs) (k : Nat) (h1 : k < xs.length) : ∃ ad A2 c2 A5 c5 A6 c6, A = some ad ∧ w.cell? (ad.add (k * 9)) = some (.int .i64 xs[k].Pickup.Place) ∧ w.cell? ⟨(ad.add (k * 9)).block, (ad.add (k * 9)).off + 1, none⟩ = some (.int .i64 xs[k].Pickup.Service) ∧ w.cell? ⟨(ad.add (k * 9)).block, (ad.add (k * 9)).off + 2, none⟩ = some (.slice A2 xs[k].Pickup.Windows.length c2) ∧ w.cell? ⟨(ad.add (k * 9)).block, (ad.add (k * 9)).off + 3, none⟩ = some (.int .i64 xs[k].Delivery.Place) ∧ w.cell? ⟨(ad.add (k * 9)).block, (ad.add (k * 9)).off + 4, none⟩ = some (.int .i64 xs[k].Delivery.Service) ∧ w.cell? ⟨(ad.add (k * 9)).block, (ad.add (k * 9)).off + 5, none⟩ = some (.slice A5 xs[k].Delivery.Windows.length c5) ∧ w.cell? ⟨(ad.add (k * 9)).block, (ad.add (k * 9)).off + 6, none⟩ = some (.slice A6 xs[k].Amount.length c6) ∧ w.cell? ⟨(ad.add (k * 9)).block, (ad.add (k * 9)).off + 7, none⟩ = some (.int .u64 xs[k].Skills) ∧ w.cell? ⟨(ad.add (k * 9)).block, (ad.add (k * 9)).off + 8, none⟩ = some (.int .i64 xs[k].Priority) ∧ xs[k].Pickup.Windows.length ≤ c2 ∧ Kd.C kWindow w A2 xs[k].Pickup.Windows.length xs[k].Pickup.Windows ∧ xs[k].Delivery.Windows.length ≤ c5 ∧ Kd.C kWindow w A5 xs[k].Delivery.Windows.length xs[k].Delivery.Windows ∧ xs[k].Amount.length ≤ c6 ∧ Kd.C (Kd.int .i64) w A6 xs[k].Amount.length xs[k].Amount := by
 have := atShipment h (k : Int) (by omega) (by omega)
 simp only [Int.toNat_natCast, rdShipment_nat xs k h1] at this
 exact this
/-! ### haulier/api.Problem: type 29 -/
structure TProblem where
 Dims : Int
 Time : TMatrix
 Dist : TMatrix
 Vehicles : (List TVehicle)
 Jobs : (List TJob)
 Shipments : (List TShipment)
def kProblem : Kd TProblem := Kd.iso (Kd.pair (Kd.int .i64) (Kd.pair kMatrix (Kd.pair kMatrix (Kd.pair (Kd.slice 89 kVehicle) (Kd.pair (Kd.slice 46 kJob) (Kd.slice 139 kShipment)))))) (fun x : TProblem => (x.Dims, (x.Time, (x.Dist, (x.Vehicles, (x.Jobs, x.Shipments))))))
theorem kProblem_open {w : World} {x : TProblem} {cs : List Value} (h : kProblem.K w x cs) : ∃ A2 c2, ∃ A4 c4, ∃ A5 c5, ∃ A6 c6, ∃ A7 c7, cs = [.int .i64 x.Dims, .int .i64 x.Time.N, .slice A2 x.Time.Cells.length c2, .int .i64 x.Dist.N, .slice A4 x.Dist.Cells.length c4, .slice A5 x.Vehicles.length c5, .slice A6 x.Jobs.length c6, .slice A7 x.Shipments.length c7] ∧ x.Time.Cells.length ≤ c2 ∧ Kd.C (Kd.int .i64) w A2 x.Time.Cells.length x.Time.Cells ∧ x.Dist.Cells.length ≤ c4 ∧ Kd.C (Kd.int .i64) w A4 x.Dist.Cells.length x.Dist.Cells ∧ x.Vehicles.length ≤ c5 ∧ Kd.C kVehicle w A5 x.Vehicles.length x.Vehicles ∧ x.Jobs.length ≤ c6 ∧ Kd.C kJob w A6 x.Jobs.length x.Jobs ∧ x.Shipments.length ≤ c7 ∧ Kd.C kShipment w A7 x.Shipments.length x.Shipments := by
 obtain ⟨c0_, d0_, rfl, h0, r0⟩ := h
 obtain rfl : c0_ = _ := h0
 obtain ⟨c1_, d1_, rfl, h1, r1⟩ := r0
 obtain ⟨A1_0, c1_0, rfl, l1_0, g1_0⟩ := kMatrix_open h1
 obtain ⟨c2_, d2_, rfl, h2, r2⟩ := r1
 obtain ⟨A2_0, c2_0, rfl, l2_0, g2_0⟩ := kMatrix_open h2
 obtain ⟨c3_, d3_, rfl, h3, r3⟩ := r2
 obtain ⟨A3_, c3__, rfl, l3, g3⟩ := h3
 obtain ⟨c4_, d4_, rfl, h4, r4⟩ := r3
 obtain ⟨A4_, c4__, rfl, l4, g4⟩ := h4
 obtain ⟨A5_, c5__, rfl, l5, g5⟩ := r4
 exact ⟨_, _, _, _, _, _, _, _, _, _, rfl, l1_0, g1_0, l2_0, g2_0, l3, g3, l4, g4, l5, g5⟩
/-! ### haulier/api.Visit: type 57 -/
theorem infoVisit : (Try.prog.info? 57).map (fun i => (i.zero, i.size, i.bytes)) = some (some (.agg #[(.int .i64 0), (.int .i64 0)]), 2, 16) := by kernel_rfl
structure TVisit where
 Kind : Int
 Item : Int
def zVisit : TVisit := ⟨0, 0⟩
def kVisit : Kd TVisit := Kd.iso (Kd.pair (Kd.int .i64) (Kd.int .i64)) (fun x : TVisit => (x.Kind, x.Item))
theorem kVisit_open {w : World} {x : TVisit} {cs : List Value} (h : kVisit.K w x cs) : cs = [.int .i64 x.Kind, .int .i64 x.Item] := by
 obtain ⟨c0_, d0_, rfl, h0, r0⟩ := h
 obtain rfl : c0_ = _ := h0
 obtain rfl := r0
 exact rfl
theorem kVisit_mk (w : World) (x : TVisit) : kVisit.K w x [.int .i64 x.Kind, .int .i64 x.Item] := ⟨[.int .i64 x.Kind], _, rfl, rfl, rfl⟩
def rdVisit (xs : List TVisit) (i : Int) : TVisit := xs.getD i.toNat zVisit
theorem rdVisit_nat (xs : List TVisit) (i : Nat) (h : i < xs.length) : rdVisit xs (i : Int) = xs[i] := by simp [rdVisit, List.getElem?_eq_getElem h]
theorem atVisit {w : World} {A : Option Addr} {n : Nat} {xs : List TVisit} (h : Kd.C kVisit w A n xs) (i : Int) (h0 : 0 ≤ i) (h1 : i < n) : ∃ ad, A = some ad ∧ w.cell? (ad.add (i.toNat * 2)) = some (.int .i64 (rdVisit xs i).Kind) ∧ w.cell? ⟨(ad.add (i.toNat * 2)).block, (ad.add (i.toNat * 2)).off + 1, none⟩ = some (.int .i64 (rdVisit xs i).Item) := by
 obtain ⟨ad, c, e, _, hK, hc0⟩ := Kd.C_get h zVisit i h0 h1
 have hc : ∀ j u, c[j]? = some u → w.cell? (ad.add (i.toNat * 2 + j)) = some u := hc0
 obtain rfl := kVisit_open hK
 exact ⟨ad, e, hc 0 _ rfl, (by rw [← add_field _ _ 1 (by omega)]; exact hc 1 _ rfl)⟩
theorem atNVisit {w : World} {A : Option Addr} {xs : List TVisit} (h : Kd.C kVisit w A xs.length xs) (k : Nat) (h1 : k < xs.length) : ∃ ad, A = some ad ∧ w.cell? (ad.add (k * 2)) = some (.int .i64 xs[k].Kind) ∧ w.cell? ⟨(ad.add (k * 2)).block, (ad.add (k * 2)).off + 1, none⟩ = some (.int .i64 xs[k].Item) := by
 have := atVisit h (k : Int) (by omega) (by omega)
 simp only [Int.toNat_natCast, rdVisit_nat xs k h1] at this
 exact this
/-! ### haulier/api.Step: type 91 -/
theorem infoStep : (Try.prog.info? 91).map (fun i => (i.zero, i.size, i.bytes)) = some (some (.agg #[(.int .i64 0), (.int .i64 0), (.int .i64 0), (.int .i64 0), (.int .i64 0), (.int .i64 0), (.slice none 0 0), (.int .i64 0), (.int .i64 0)]), 9, 88) := by kernel_rfl
structure TStep where
 Visit : TVisit
 Place : Int
 Arrival : Int
 Wait : Int
 Service : Int
 Load : (List Int)
 Time : Int
 Dist : Int
def zStep : TStep := ⟨zVisit, 0, 0, 0, 0, [], 0, 0⟩
def kStep : Kd TStep := Kd.iso (Kd.pair kVisit (Kd.pair (Kd.int .i64) (Kd.pair (Kd.int .i64) (Kd.pair (Kd.int .i64) (Kd.pair (Kd.int .i64) (Kd.pair (Kd.slice 3 (Kd.int .i64)) (Kd.pair (Kd.int .i64) (Kd.int .i64)))))))) (fun x : TStep => (x.Visit, (x.Place, (x.Arrival, (x.Wait, (x.Service, (x.Load, (x.Time, x.Dist))))))))
theorem kStep_open {w : World} {x : TStep} {cs : List Value} (h : kStep.K w x cs) : ∃ A6 c6, cs = [.int .i64 x.Visit.Kind, .int .i64 x.Visit.Item, .int .i64 x.Place, .int .i64 x.Arrival, .int .i64 x.Wait, .int .i64 x.Service, .slice A6 x.Load.length c6, .int .i64 x.Time, .int .i64 x.Dist] ∧ x.Load.length ≤ c6 ∧ Kd.C (Kd.int .i64) w A6 x.Load.length x.Load := by
 obtain ⟨c0_, d0_, rfl, h0, r0⟩ := h
 obtain ⟨rfl⟩ := kVisit_open h0
 obtain ⟨c1_, d1_, rfl, h1, r1⟩ := r0
 obtain rfl : c1_ = _ := h1
 obtain ⟨c2_, d2_, rfl, h2, r2⟩ := r1
 obtain rfl : c2_ = _ := h2
 obtain ⟨c3_, d3_, rfl, h3, r3⟩ := r2
 obtain rfl : c3_ = _ := h3
 obtain ⟨c4_, d4_, rfl, h4, r4⟩ := r3
 obtain rfl : c4_ = _ := h4
 obtain ⟨c5_, d5_, rfl, h5, r5⟩ := r4
 obtain ⟨A5_, c5__, rfl, l5, g5⟩ := h5
 obtain ⟨c6_, d6_, rfl, h6, r6⟩ := r5
 obtain rfl : c6_ = _ := h6
 obtain rfl := r6
 exact ⟨_, _, rfl, l5, g5⟩
theorem kStep_mk (w : World) (x : TStep) (A6 : Option Addr) (c6 : Nat) (l6 : x.Load.length ≤ c6) (h6 : Kd.C (Kd.int .i64) w A6 x.Load.length x.Load) : kStep.K w x [.int .i64 x.Visit.Kind, .int .i64 x.Visit.Item, .int .i64 x.Place, .int .i64 x.Arrival, .int .i64 x.Wait, .int .i64 x.Service, .slice A6 x.Load.length c6, .int .i64 x.Time, .int .i64 x.Dist] := ⟨[.int .i64 x.Visit.Kind, .int .i64 x.Visit.Item], _, rfl, (kVisit_mk w x.Visit ), ⟨[.int .i64 x.Place], _, rfl, rfl, ⟨[.int .i64 x.Arrival], _, rfl, rfl, ⟨[.int .i64 x.Wait], _, rfl, rfl, ⟨[.int .i64 x.Service], _, rfl, rfl, ⟨[.slice A6 x.Load.length c6], _, rfl, ⟨A6, c6, rfl, l6, h6⟩, ⟨[.int .i64 x.Time], _, rfl, rfl, rfl⟩⟩⟩⟩⟩⟩⟩
def rdStep (xs : List TStep) (i : Int) : TStep := xs.getD i.toNat zStep
theorem rdStep_nat (xs : List TStep) (i : Nat) (h : i < xs.length) : rdStep xs (i : Int) = xs[i] := by simp [rdStep, List.getElem?_eq_getElem h]
theorem atStep {w : World} {A : Option Addr} {n : Nat} {xs : List TStep} (h : Kd.C kStep w A n xs) (i : Int) (h0 : 0 ≤ i) (h1 : i < n) : ∃ ad A6 c6, A = some ad ∧ w.cell? (ad.add (i.toNat * 9)) = some (.int .i64 (rdStep xs i).Visit.Kind) ∧ w.cell? ⟨(ad.add (i.toNat * 9)).block, (ad.add (i.toNat * 9)).off + 1, none⟩ = some (.int .i64 (rdStep xs i).Visit.Item) ∧ w.cell? ⟨(ad.add (i.toNat * 9)).block, (ad.add (i.toNat * 9)).off + 2, none⟩ = some (.int .i64 (rdStep xs i).Place) ∧ w.cell? ⟨(ad.add (i.toNat * 9)).block, (ad.add (i.toNat * 9)).off + 3, none⟩ = some (.int .i64 (rdStep xs i).Arrival) ∧ w.cell? ⟨(ad.add (i.toNat * 9)).block, (ad.add (i.toNat * 9)).off + 4, none⟩ = some (.int .i64 (rdStep xs i).Wait) ∧ w.cell? ⟨(ad.add (i.toNat * 9)).block, (ad.add (i.toNat * 9)).off + 5, none⟩ = some (.int .i64 (rdStep xs i).Service) ∧ w.cell? ⟨(ad.add (i.toNat * 9)).block, (ad.add (i.toNat * 9)).off + 6, none⟩ = some (.slice A6 (rdStep xs i).Load.length c6) ∧ w.cell? ⟨(ad.add (i.toNat * 9)).block, (ad.add (i.toNat * 9)).off + 7, none⟩ = some (.int .i64 (rdStep xs i).Time) ∧ w.cell? ⟨(ad.add (i.toNat * 9)).block, (ad.add (i.toNat * 9)).off + 8, none⟩ = some (.int .i64 (rdStep xs i).Dist) ∧ (rdStep xs i).Load.length ≤ c6 ∧ Kd.C (Kd.int .i64) w A6 (rdStep xs i).Load.length (rdStep xs i).Load := by
 obtain ⟨ad, c, e, _, hK, hc0⟩ := Kd.C_get h zStep i h0 h1
 have hc : ∀ j u, c[j]? = some u → w.cell? (ad.add (i.toNat * 9 + j)) = some u := hc0
 obtain ⟨A6, c6, rfl, l6, g6⟩ := kStep_open hK
 exact ⟨ad, A6, c6, e, hc 0 _ rfl, (by rw [← add_field _ _ 1 (by omega)]; exact hc 1 _ rfl), (by rw [← add_field _ _ 2 (by omega)]; exact hc 2 _ rfl), (by rw [← add_field _ _ 3 (by omega)]; exact hc 3 _ rfl), (by rw [← add_field _ _ 4 (by omega)]; exact hc 4 _ rfl), (by rw [← add_field _ _ 5 (by omega)]; exact hc 5 _ rfl), (by rw [← add_field _ _ 6 (by omega)]; exact hc 6 _ rfl), (by rw [← add_field _ _ 7 (by omega)]; exact hc 7 _ rfl), (by rw [← add_field _ _ 8 (by omega)]; exact hc 8 _ rfl), l6, g6⟩
theorem atNStep {w : World} {A : Option Addr} {xs : List TStep} (h : Kd.C kStep w A xs.length xs) (k : Nat) (h1 : k < xs.length) : ∃ ad A6 c6, A = some ad ∧ w.cell? (ad.add (k * 9)) = some (.int .i64 xs[k].Visit.Kind) ∧ w.cell? ⟨(ad.add (k * 9)).block, (ad.add (k * 9)).off + 1, none⟩ = some (.int .i64 xs[k].Visit.Item) ∧ w.cell? ⟨(ad.add (k * 9)).block, (ad.add (k * 9)).off + 2, none⟩ = some (.int .i64 xs[k].Place) ∧ w.cell? ⟨(ad.add (k * 9)).block, (ad.add (k * 9)).off + 3, none⟩ = some (.int .i64 xs[k].Arrival) ∧ w.cell? ⟨(ad.add (k * 9)).block, (ad.add (k * 9)).off + 4, none⟩ = some (.int .i64 xs[k].Wait) ∧ w.cell? ⟨(ad.add (k * 9)).block, (ad.add (k * 9)).off + 5, none⟩ = some (.int .i64 xs[k].Service) ∧ w.cell? ⟨(ad.add (k * 9)).block, (ad.add (k * 9)).off + 6, none⟩ = some (.slice A6 xs[k].Load.length c6) ∧ w.cell? ⟨(ad.add (k * 9)).block, (ad.add (k * 9)).off + 7, none⟩ = some (.int .i64 xs[k].Time) ∧ w.cell? ⟨(ad.add (k * 9)).block, (ad.add (k * 9)).off + 8, none⟩ = some (.int .i64 xs[k].Dist) ∧ xs[k].Load.length ≤ c6 ∧ Kd.C (Kd.int .i64) w A6 xs[k].Load.length xs[k].Load := by
 have := atStep h (k : Int) (by omega) (by omega)
 simp only [Int.toNat_natCast, rdStep_nat xs k h1] at this
 exact this
/-! ### haulier/api.Plan: type 74 -/
structure TPlan where
 Vehicle : Int
 Steps : (List TStep)
 Time : Int
 Dist : Int
 Wait : Int
 Service : Int
 Cost : Int
def zPlan : TPlan := ⟨0, [], 0, 0, 0, 0, 0⟩
/-! ### haulier/api.Task: type 48 -/
structure TTask where
 Ship : Bool
 Item : Int
def zTask : TTask := ⟨false, 0⟩
def kTask : Kd TTask := Kd.iso (Kd.pair Kd.bool (Kd.int .i64)) (fun x : TTask => (x.Ship, x.Item))
theorem kTask_mk (w : World) (x : TTask) : kTask.K w x [.bool x.Ship, .int .i64 x.Item] := ⟨[.bool x.Ship], _, rfl, rfl, rfl⟩
/-! ### haulier/api.Route: type 121 -/
structure TRoute where
 Vehicle : Int
 Visits : (List TVisit)
/-! ### haulier/api.Solution: type 105 -/
structure TSolution where
 Routes : (List TRoute)
/-! ### haulier/api.Sums: type 116 -/
structure TSums where
 Routes : Int
 Value : Int
 Cost : Int
 Time : Int
 Dist : Int
 Wait : Int
 Service : Int
 Left : Int
/-! ### haulier/haulierlaw20.Spoil: type 128 -/
structure TSpoil where
 What : Int
 Step : Int
 By : Int
/-! ### haulier/api.Score: type 160 -/
structure TScore where
 Value : Int
 Cost : Int
end Go.Proofs.Ytemjpgmfignhnaa
