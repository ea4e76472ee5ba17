/- The struct types of the program that the proofs speak of, and how a value of each reads in memory.
Conditions: none. -/
import Derived.Test.YtiejegalokncgaaProg
import Derived.Below
import Derived.Deep.Draws
import Derived.Deep.AppendLies
import Derived.Maps.AppendAt
import Derived.OwnWalk
import Derived.Laws.BytesArg
import Derived.Laws.MakeOwn
import Derived.Laws.OwnMore
import Derived.Deep.OwnRows
import Derived.Tactics
import Derived.Lib.ConvBytes
import Derived.Laws.Slices
import Derived.WalkKit
import Derived.KernelRfl
import Derived.RowKit3
import Derived.Deep.LoopGhost
import Derived.Deep.QuietTactic
import Derived.BigQuiet
import Derived.WideLaws
import Derived.Deep.DeepCutAuto
import Derived.Deep.CutBlock
import Derived.Deep.RegionHeld3
import Derived.Laws.Rows
import Derived.Lib.AppendStr
import Derived.ArgAppend
import Derived.Laws.IdiomCopy
import Derived.OrdersHeld
import Derived.Laws.BitsLemmas
import Derived.RowKit
import Derived.IntWalk
import Derived.Test.YtiejegalokncgaaWWords
import Derived.Test.YtiejegalokncgaaWLast
import Derived.Test.YtiejegalokncgaaWTab
import Derived.Test.YtiejegalokncgaaWFour
import Derived.Test.YtiejegalokncgaaWQPut
import Derived.Test.YtiejegalokncgaaWApart
import Derived.Test.YtiejegalokncgaaWArr
import Derived.Test.YtiejegalokncgaaWZeros
import Derived.Test.YtiejegalokncgaaWFoot
import Derived.Test.YtiejegalokncgaaWKept
import Derived.Test.YtiejegalokncgaaWShare
import Derived.Test.YtiejegalokncgaaWN
import Derived.Test.YtiejegalokncgaaWFootNe
import Derived.Test.YtiejegalokncgaaWAt
import Derived.Test.YtiejegalokncgaaWEqStruct
import Derived.Test.YtiejegalokncgaaWRepsOne
import Derived.Test.YtiejegalokncgaaWInv
import Derived.Test.YtiejegalokncgaaWInvWords
import Derived.Test.YtiejegalokncgaaWGuard
import Derived.Test.YtiejegalokncgaaWNEv
import Derived.Test.YtiejegalokncgaaWMore
namespace Go.Proofs.Ytiejegalokncgaa
open Go.RowKit Go.Proofs.YtiejegalokncgaaW.PrintWords Go.Proofs.YtiejegalokncgaaW.PrintLast Go.Proofs.YtiejegalokncgaaW.PrintMore
set_option linter.unusedVariables false
set_option linter.unusedSimpArgs false
/-! ### haulier/haulierlaw04.Act: type 39 -/
theorem infoAct : (Try.prog.info? 39).map (fun i => (i.zero, i.size, i.bytes)) = some (some (.agg #[(.int .i64 0), (.int .i64 0), (.int .i64 0)]), 3, 24) := by kernel_rfl
structure TAct where
  Kind : Int
  Item : Int
  Key : Int
def zAct : TAct := ⟨0, 0, 0⟩
def kAct : Kd TAct := Kd.iso (Kd.pair (Kd.int .i64) (Kd.pair (Kd.int .i64) (Kd.int .i64))) (fun x : TAct => (x.Kind, (x.Item, x.Key)))
theorem kAct_open {w : World} {x : TAct} {cs : List Value} (h : kAct.K w x cs) : cs = [.int .i64 x.Kind, .int .i64 x.Item, .int .i64 x.Key] := by
  obtain ⟨c0_, d0_, rfl, h0, r0⟩ := h
  obtain rfl : c0_ = _ := h0
  obtain ⟨c1_, d1_, rfl, h1, r1⟩ := r0
  obtain rfl : c1_ = _ := h1
  obtain rfl := r1
  exact rfl
theorem kAct_mk (w : World) (x : TAct) : kAct.K w x [.int .i64 x.Kind, .int .i64 x.Item, .int .i64 x.Key] := ⟨[.int .i64 x.Kind], _, rfl, rfl, ⟨[.int .i64 x.Item], _, rfl, rfl, rfl⟩⟩
def rdAct (xs : List TAct) (i : Int) : TAct := xs.getD i.toNat zAct
theorem rdAct_nat (xs : List TAct) (i : Nat) (h : i < xs.length) : rdAct xs (i : Int) = xs[i] := by simp [rdAct, List.getElem?_eq_getElem h]
theorem atAct {w : World} {A : Option Addr} {n : Nat} {xs : List TAct} (h : Kd.C kAct w A n xs) (i : Int) (h0 : 0 ≤ i) (h1 : i < n) : ∃ ad, A = some ad ∧ w.cell? (ad.add (i.toNat * 3)) = some (.int .i64 (rdAct xs i).Kind) ∧ w.cell? ⟨(ad.add (i.toNat * 3)).block, (ad.add (i.toNat * 3)).off + 1, none⟩ = some (.int .i64 (rdAct xs i).Item) ∧ w.cell? ⟨(ad.add (i.toNat * 3)).block, (ad.add (i.toNat * 3)).off + 2, none⟩ = some (.int .i64 (rdAct xs i).Key) := by
  obtain ⟨ad, c, e, _, hK, hc0⟩ := Kd.C_get h zAct i h0 h1
  have hc : ∀ j u, c[j]? = some u → w.cell? (ad.add (i.toNat * 3 + j)) = some u := hc0
  obtain rfl := kAct_open hK
  exact ⟨ad, e, hc 0 _ rfl, (by rw [← add_field _ _ 1 (by omega)]; exact hc 1 _ rfl), (by rw [← add_field _ _ 2 (by omega)]; exact hc 2 _ rfl)⟩
theorem atNAct {w : World} {A : Option Addr} {xs : List TAct} (h : Kd.C kAct w A xs.length xs) (k : Nat) (h1 : k < xs.length) : ∃ ad, A = some ad ∧ w.cell? (ad.add (k * 3)) = some (.int .i64 xs[k].Kind) ∧ w.cell? ⟨(ad.add (k * 3)).block, (ad.add (k * 3)).off + 1, none⟩ = some (.int .i64 xs[k].Item) ∧ w.cell? ⟨(ad.add (k * 3)).block, (ad.add (k * 3)).off + 2, none⟩ = some (.int .i64 xs[k].Key) := by
  have := atAct h (k : Int) (by omega) (by omega)
  simp only [Int.toNat_natCast, rdAct_nat xs k h1] at this
  exact this
/-! ### haulier/queue.entry: type 51 -/
theorem infoentry : (Try.prog.info? 51).map (fun i => (i.zero, i.size, i.bytes)) = some (some (.agg #[(.int .i64 0), (.int .i64 0)]), 2, 16) := by kernel_rfl
structure Tentry where
  item : Int
  key : Int
def zentry : Tentry := ⟨0, 0⟩
def kentry : Kd Tentry := Kd.iso (Kd.pair (Kd.int .i64) (Kd.int .i64)) (fun x : Tentry => (x.item, x.key))
theorem kentry_open {w : World} {x : Tentry} {cs : List Value} (h : kentry.K w x cs) : cs = [.int .i64 x.item, .int .i64 x.key] := by
  obtain ⟨c0_, d0_, rfl, h0, r0⟩ := h
  obtain rfl : c0_ = _ := h0
  obtain rfl := r0
  exact rfl
theorem kentry_mk (w : World) (x : Tentry) : kentry.K w x [.int .i64 x.item, .int .i64 x.key] := ⟨[.int .i64 x.item], _, rfl, rfl, rfl⟩
def rdentry (xs : List Tentry) (i : Int) : Tentry := xs.getD i.toNat zentry
theorem rdentry_nat (xs : List Tentry) (i : Nat) (h : i < xs.length) : rdentry xs (i : Int) = xs[i] := by simp [rdentry, List.getElem?_eq_getElem h]
theorem atentry {w : World} {A : Option Addr} {n : Nat} {xs : List Tentry} (h : Kd.C kentry w A n xs) (i : Int) (h0 : 0 ≤ i) (h1 : i < n) : ∃ ad, A = some ad ∧ w.cell? (ad.add (i.toNat * 2)) = some (.int .i64 (rdentry xs i).item) ∧ w.cell? ⟨(ad.add (i.toNat * 2)).block, (ad.add (i.toNat * 2)).off + 1, none⟩ = some (.int .i64 (rdentry xs i).key) := by
  obtain ⟨ad, c, e, _, hK, hc0⟩ := Kd.C_get h zentry i h0 h1
  have hc : ∀ j u, c[j]? = some u → w.cell? (ad.add (i.toNat * 2 + j)) = some u := hc0
  obtain rfl := kentry_open hK
  exact ⟨ad, e, hc 0 _ rfl, (by rw [← add_field _ _ 1 (by omega)]; exact hc 1 _ rfl)⟩
theorem atNentry {w : World} {A : Option Addr} {xs : List Tentry} (h : Kd.C kentry w A xs.length xs) (k : Nat) (h1 : k < xs.length) : ∃ ad, A = some ad ∧ w.cell? (ad.add (k * 2)) = some (.int .i64 xs[k].item) ∧ w.cell? ⟨(ad.add (k * 2)).block, (ad.add (k * 2)).off + 1, none⟩ = some (.int .i64 xs[k].key) := by
  have := atentry h (k : Int) (by omega) (by omega)
  simp only [Int.toNat_natCast, rdentry_nat xs k h1] at this
  exact this
/-! ### haulier/haulierref04.Entry: type 57 -/
theorem infoEntry : (Try.prog.info? 57).map (fun i => (i.zero, i.size, i.bytes)) = some (some (.agg #[(.int .i64 0), (.int .i64 0)]), 2, 16) := by kernel_rfl
structure TEntry where
  Item : Int
  Key : Int
def zEntry : TEntry := ⟨0, 0⟩
def kEntry : Kd TEntry := Kd.iso (Kd.pair (Kd.int .i64) (Kd.int .i64)) (fun x : TEntry => (x.Item, x.Key))
theorem kEntry_open {w : World} {x : TEntry} {cs : List Value} (h : kEntry.K w x cs) : cs = [.int .i64 x.Item, .int .i64 x.Key] := by
  obtain ⟨c0_, d0_, rfl, h0, r0⟩ := h
  obtain rfl : c0_ = _ := h0
  obtain rfl := r0
  exact rfl
theorem kEntry_mk (w : World) (x : TEntry) : kEntry.K w x [.int .i64 x.Item, .int .i64 x.Key] := ⟨[.int .i64 x.Item], _, rfl, rfl, rfl⟩
def rdEntry (xs : List TEntry) (i : Int) : TEntry := xs.getD i.toNat zEntry
theorem rdEntry_nat (xs : List TEntry) (i : Nat) (h : i < xs.length) : rdEntry xs (i : Int) = xs[i] := by simp [rdEntry, List.getElem?_eq_getElem h]
theorem atEntry {w : World} {A : Option Addr} {n : Nat} {xs : List TEntry} (h : Kd.C kEntry w A n xs) (i : Int) (h0 : 0 ≤ i) (h1 : i < n) : ∃ ad, A = some ad ∧ w.cell? (ad.add (i.toNat * 2)) = some (.int .i64 (rdEntry xs i).Item) ∧ w.cell? ⟨(ad.add (i.toNat * 2)).block, (ad.add (i.toNat * 2)).off + 1, none⟩ = some (.int .i64 (rdEntry xs i).Key) := by
  obtain ⟨ad, c, e, _, hK, hc0⟩ := Kd.C_get h zEntry i h0 h1
  have hc : ∀ j u, c[j]? = some u → w.cell? (ad.add (i.toNat * 2 + j)) = some u := hc0
  obtain rfl := kEntry_open hK
  exact ⟨ad, e, hc 0 _ rfl, (by rw [← add_field _ _ 1 (by omega)]; exact hc 1 _ rfl)⟩
theorem atNEntry {w : World} {A : Option Addr} {xs : List TEntry} (h : Kd.C kEntry w A xs.length xs) (k : Nat) (h1 : k < xs.length) : ∃ ad, A = some ad ∧ w.cell? (ad.add (k * 2)) = some (.int .i64 xs[k].Item) ∧ w.cell? ⟨(ad.add (k * 2)).block, (ad.add (k * 2)).off + 1, none⟩ = some (.int .i64 xs[k].Key) := by
  have := atEntry h (k : Int) (by omega) (by omega)
  simp only [Int.toNat_natCast, rdEntry_nat xs k h1] at this
  exact this
end Go.Proofs.Ytiejegalokncgaa
