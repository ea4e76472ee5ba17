/- The stable sort by priority in plain words: it permutes, it is sorted, and a list sorted likewise with the same members is it.
Conditions: none. -/
import Derived.Test.YtemjpgmfignhnaaM3
import Derived.Test.YtemjpgmfignhnaaM0
import Derived.MapKept
import Derived.Laws.StructEq
namespace Go.Proofs.Ytemjpgmfignhnaa
set_option linter.unusedVariables false
/-- x stands ahead of y: jobs ahead of shipments, rising. -/
def ltT (x y : TTask) : Prop := (x.Ship = false ∧ y.Ship = true) ∨ (x.Ship = y.Ship ∧ x.Item < y.Item)
def RT (pr : TTask → Int) (x y : TTask) : Prop := pr y < pr x ∨ (pr x = pr y ∧ ltT x y)
/-- A list without doubles is no longer than one that has its members. -/
theorem sub_len {α : Type} : ∀ (o s : List α), o.Nodup → (∀ x ∈ o, x ∈ s) → o.length ≤ s.length
 | [], s, _, _ => Nat.zero_le _
 | x :: o, s, hn, hs => by
  classical
  rw [List.nodup_cons] at hn
  have hx := hs x (List.mem_cons_self ..)
  have := sub_len o (s.erase x) hn.2 (fun y hy => (List.mem_erase_of_ne (fun e => hn.1 (by rw [← e]; exact hy))).2 (hs y (List.mem_cons_of_mem _ hy)))
  rw [List.length_erase_of_mem hx] at this
  have := List.length_pos_of_mem hx
  simp only [List.length_cons]
  omega
end Go.Proofs.Ytemjpgmfignhnaa
/- Contract: the document's Tasks: the same list.
Conditions: at most twelve tasks. -/
namespace Go.Proofs.Ytemjpgmfignhnaa
open Go.RowKit Go.Proofs.YtemjpgmfignhnaaW.PrintWords Go.Proofs.YtemjpgmfignhnaaW.PrintLast Go.Proofs.YtemjpgmfignhnaaW.PrintMore
set_option linter.unusedVariables false
set_option linter.unusedSimpArgs false
attribute [local go_sem] cell_growBy Option.some_or
/-! ### the choice, in plain words -/
structure SelInv (pr : TTask → Int) (L : List TTask) (us : List Bool) (o : List TTask) : Prop where
 len : us.length = L.length
 srt : o.Pairwise (RT pr)
 sub : ∀ x ∈ o, x ∈ L
 used : ∀ i (h : i < L.length), us[i]? = some true → L[i] ∈ o
 free : ∀ i (h : i < L.length), us[i]? = some false → ∀ x ∈ o, RT pr x L[i]
theorem SelInv.start (pr : TTask → Int) (L : List TTask) : SelInv pr L (List.replicate L.length false) [] :=
 ⟨by simp, List.Pairwise.nil, fun _ h => (by cases h), fun i h e => (by rw [List.getElem?_replicate, if_pos h] at e; cases e), fun _ _ _ _ h => (by cases h)⟩
theorem SelInv.some {pr : TTask → Int} {L : List TTask} {us : List Bool} {o : List TTask} (h : SelInv pr L us o) (hl : L.Nodup) (hn : o.length < L.length) : ∃ i, ∃ h : i < L.length, us[i]? = .some false := by
 apply Classical.byContradiction
 intro hne
 have hall : ∀ x ∈ L, x ∈ o := fun x hx => by
  obtain ⟨i, hi, rfl⟩ := List.mem_iff_getElem.1 hx
  refine h.used i hi ?_
  cases hu : us[i]? with
  | none =>
   have := List.getElem?_eq_none_iff.1 hu
   have := h.len
   omega
  | some b =>
   cases b
   ·exact absurd ⟨i, hi, hu⟩ hne
   ·rfl
 have := sub_len L o hl hall
 omega
theorem SelInv.step {pr : TTask → Int} {L : List TTask} {us : List Bool} {o : List TTask} (h : SelInv pr L us o) (hl : L.Pairwise ltT) {b : Nat} (hb : b < L.length) (hf : us[b]? = .some false)
  (hbest : ∀ i (hi : i < L.length), us[i]? = .some false → pr L[i] < pr L[b] ∨ (pr L[i] = pr L[b] ∧ b ≤ i)) : SelInv pr L (us.set b true) (o ++ [L[b]]) := by
 have hbl : b < us.length := by rw [h.len]; exact hb
 refine ⟨by simp [h.len], ?_, fun x hx => ?_, fun i hi e => ?_, fun i hi e x hx => ?_⟩
 ·rw [List.pairwise_append]
  exact ⟨h.srt, by simp, fun x hx y hy => by
   obtain rfl : y = L[b] := by simpa using hy
   exact h.free b hb hf x hx⟩
 ·rcases List.mem_append.1 hx with hx | hx
  ·exact h.sub x hx
  ·obtain rfl : x = L[b] := by simpa using hx
   exact List.getElem_mem _
 ·by_cases ei : i = b
  ·subst ei
   simp
  ·rw [List.getElem?_set_ne (fun h => ei h.symm)] at e
   exact List.mem_append_left _ (h.used i hi e)
 ·by_cases ei : i = b
  ·subst ei
   rw [List.getElem?_set_self hbl] at e
   cases e
  ·rw [List.getElem?_set_ne (fun h => ei h.symm)] at e
   rcases List.mem_append.1 hx with hx | hx
   ·exact h.free i hi e x hx
   ·obtain rfl : x = L[b] := by simpa using hx
    rcases hbest i hi e with k | ⟨k, k2⟩
    ·exact .inl k
    ·exact .inr ⟨k.symm, (List.pairwise_iff_getElem.1 hl) b i hb hi (by omega)⟩
section
variable {pr : TTask → Int} {L : List TTask} {us : List Bool} {k : Nat} {v : Value}
end
end Go.Proofs.Ytemjpgmfignhnaa

/- How long a lawful problem's windows are.
Conditions: none. -/
namespace Go.Proofs.Ytemjpgmfignhnaa
open Go.RowKit Go.Proofs.YtemjpgmfignhnaaW.PrintWords Go.Proofs.YtemjpgmfignhnaaW.PrintLast Go.Proofs.YtemjpgmfignhnaaW.PrintMore
set_option linter.unusedVariables false
set_option linter.unusedSimpArgs false
theorem windowsB_len {l : List TWindow} (h : windowsB l = true) : l.length ≤ 4 := by
 unfold windowsB windowsS at h
 split at h
 ·simp at h
 ·omega
theorem Law.stopB {p : TProblem} (h : Law p) {v : TVisit} (hs : (stopS p v).2 = true) : Go.Proofs.Ytemjpgmfignhnaa.stopB (stopS p v).1 p.Time.N = true := by
 unfold stopS at hs ⊢
 split at hs
 ·rename_i hb
  rw [if_pos hb]
  simp only [Bool.and_eq_true] at hb
  obtain ⟨ht, hth⟩ := hb
  by_cases h1 : v.Kind = 1
  ·simp only [taskOf, h1, if_true, thereB] at hth ⊢
   have hr := upB_true (show upB v.Item ((p.Jobs.length : Int) - 1) = true by simpa using hth)
   have hb := h.gj _ (rdJob_mem p.Jobs v.Item hr.1 (by omega))
   simp only [jobB, Bool.and_eq_true] at hb
   exact hb.1
  ·have hk : v.Kind = 2 ∨ v.Kind = 3 := by
    apply Classical.byContradiction
    intro hn
    rw [taskOf_none h1 (fun e => hn (.inl e)) (fun e => hn (.inr e))] at ht
    cases ht
   have et : taskOf v = (⟨true, v.Item⟩, true) := by
    unfold taskOf
    rw [if_neg h1, if_pos hk]
   rw [et] at hth
   have hr := upB_true (show upB v.Item ((p.Shipments.length : Int) - 1) = true by simpa [thereB] using hth)
   have hb := h.gs _ (rdShip_mem p.Shipments v.Item hr.1 (by omega))
   simp only [shipB, Bool.and_eq_true] at hb
   simp only [if_neg h1]
   split
   ·exact hb.1
   ·exact hb.2.1
 ·cases hs
theorem Law.stopLen {p : TProblem} (h : Law p) {v : TVisit} (hs : (stopS p v).2 = true) : (stopS p v).1.Windows.length ≤ 4 := by
 have := h.stopB hs
 simp only [Go.Proofs.Ytemjpgmfignhnaa.stopB, Bool.and_eq_true] at this
 exact windowsB_len this.2
theorem Law.stopLen' {p : TProblem} (h : Law p) (v : TVisit) : (stopS p v).1.Windows.length ≤ 4 := by
 cases hb : (stopS p v).2 with
 | true => exact h.stopLen hb
 | false =>
  unfold stopS at hb ⊢
  split at hb
  ·cases hb
  ·rename_i hn
   rw [if_neg hn]
   exact Nat.zero_le _
end Go.Proofs.Ytemjpgmfignhnaa

/- All blocks but one are as they were.
Conditions: none. -/
namespace Go.Proofs.Ytemjpgmfignhnaa
open Go.RowKit Go.Proofs.YtemjpgmfignhnaaW.PrintWords Go.Proofs.YtemjpgmfignhnaaW.PrintLast Go.Proofs.YtemjpgmfignhnaaW.PrintMore
set_option linter.unusedVariables false
/-- All blocks but that of A are as they were. -/
structure KeepA (A : Option Addr) (w w' : World) : Prop where
 os : w'.os = w.os
 tape : w'.tape = w.tape
 output : w'.output = w.output
 size : w.heap.size ≤ w'.heap.size
 block : ∀ k, k < w.heap.size → (∀ a, A = some a → k ≠ a.block) → w'.heap[k]? = w.heap[k]?
theorem KeepA.refl (A : Option Addr) (w : World) : KeepA A w w := ⟨rfl, rfl, rfl, Nat.le_refl _, fun _ _ _ => rfl⟩
theorem KeepA.set {g o : Nat} {w w' : World} (h : KeepA (some ⟨g, o, none⟩) w w') (j : Nat) (v : Value) : KeepA (some ⟨g, o, none⟩) w (w'.setCell ⟨g, j, none⟩ v) :=
 ⟨h.os, h.tape, h.output, by simpa [World.setCell] using h.size, fun k hk hne => (Below.heap_setCell w' ⟨g, j, none⟩ v k (hne ⟨g, o, none⟩ rfl)).trans (h.block k hk hne)⟩
theorem KeepA.over {A : Option Addr} {w W w1 : World} (h : KeepA A W w1) (hb : Below w.heap.size w W) (hn : ∀ a, A = some a → w.heap.size ≤ a.block) : Below w.heap.size w w1 :=
 ⟨h.os.trans hb.os, h.tape.trans hb.tape, h.output.trans hb.output, Nat.le_trans hb.size h.size, fun i hi => (h.block i (Nat.lt_of_lt_of_le hi hb.size) (fun a ha => by have := hn a ha; omega)).trans (hb.block i hi)⟩
end Go.Proofs.Ytemjpgmfignhnaa

/- A map from struct keys to true, as a set: what a look-up finds, what an update leaves.
Conditions: none. -/
namespace Go.Proofs.Ytemjpgmfignhnaa
open Go.RowKit Go.Proofs.YtemjpgmfignhnaaW.PrintWords Go.Proofs.YtemjpgmfignhnaaW.PrintLast Go.Proofs.YtemjpgmfignhnaaW.PrintMore
set_option linter.unusedVariables false
set_option linter.unusedSimpArgs false
/-- How keys are written, and that they are compared. -/
structure KeyEnc {κ : Type} (P : Program) (t : TypeId) (enc : κ → Value) (eq : κ → κ → Bool) : Prop where
 eqv : ∀ x y w, (Op.equal t (enc x) (enc y)).run P w = .ok (eq x y) w
 chk : ∀ b x w, (Instr.checkKey b 10000 t (enc x)).run P w = .ok () w
 kind : ∃ fs, P.underlying t = some (.struct fs)
/-- Block b is a map from the keys ks to true. -/
def SetAt {κ : Type} (enc : κ → Value) (W : World) (b : Nat) (ks : List κ) : Prop :=
 ∃ es clock, W.heap[b]? = some (.map es clock) ∧ es.toList.map (·.key) = ks.map enc ∧ ∀ e ∈ es.toList, e.val = .bool true
section
variable {κ : Type} {P : Program} {t T e : TypeId} {enc : κ → Value} {eq : κ → κ → Bool} {w W : World} {b : Nat} {ks : List κ}
theorem find_asking (K : KeyEnc P t enc eq) (x : κ) (w : World) : ∀ (l : List MapEntry) (ks : List κ) (i : Nat), l.map (·.key) = ks.map enc → (∀ e ∈ l, e.val = .bool true) →
  ∃ r, (Instr.findAsking t (enc x) l i).run P w = .ok r w ∧ (ks.any (eq x) = true → ∃ j, r = some (j, .bool true)) ∧ (ks.any (eq x) = false → r = none)
 | [], [], i, _, _ => ⟨none, by simp [Instr.findAsking], fun h => (by cases h), fun _ => rfl⟩
 | [], y :: ks, i, h, _ => by cases h
 | a :: l, [], i, h, _ => by cases h
 | a :: l, y :: ks, i, h, hv => by
  simp only [List.map_cons, List.cons.injEq] at h
  rw [Instr.findAsking]
  simp only [Sem.run_bind, h.1, K.eqv, Result.andThen_ok, List.any_cons]
  cases he : eq x y with
  | true => exact ⟨some (i, a.val), by simp, fun _ => ⟨i, by rw [hv a (List.mem_cons_self ..)]⟩, fun h => (by simp at h)⟩
  | false =>
   obtain ⟨r, h1, h2, h3⟩ := find_asking K x w l ks (i + 1) h.2 (fun e he => hv e (List.mem_cons_of_mem _ he))
   exact ⟨r, by simpa using h1, by simpa using h2, by simpa using h3⟩
theorem find_key (K : KeyEnc P t enc eq) (x : κ) (w : World) (l : List MapEntry) (ks : List κ) (h : l.map (·.key) = ks.map enc) (hv : ∀ e ∈ l, e.val = .bool true) :
  ∃ r, (Instr.findKey t (enc x) l).run P w = .ok r w ∧ (ks.any (eq x) = true → ∃ j, r = some (j, .bool true)) ∧ (ks.any (eq x) = false → r = none) := by
 obtain ⟨fs, hk⟩ := K.kind
 cases l with
 | nil =>
  cases ks with
  | nil => exact ⟨none, by simp [Instr.findKey, run_underlying hk, Instr.findNow], fun h => (by cases h), fun _ => rfl⟩
  | cons y ks => cases h
 | cons a l =>
  obtain ⟨r, h1, h2⟩ := find_asking K x w (a :: l) ks 0 h hv
  refine ⟨r, ?_, h2⟩
  have hn : Instr.findNow (.struct fs) (enc x) (a :: l) 0 = none := by
   rw [Instr.findNow]
   rfl
  simp only [Instr.findKey, Sem.run_bind, run_underlying hk, Result.andThen_ok, hn]
  exact h1
theorem SetAt.lookup (K : KeyEnc P t enc eq) (hT : P.underlying T = some (.map t e)) (hz : ∀ w, (zeroValue e).run P w = .ok (.bool false) w) (h : SetAt enc W b ks) (x : κ) :
  (Instr.lookup T (.map (some b)) (enc x) false).run P W = .ok (.bool (ks.any (eq x))) W := by
 obtain ⟨es, clock, hb, hk, hv⟩ := h
 obtain ⟨r, h1, h2, h3⟩ := find_key K x W es.toList ks hk hv
 simp only [Instr.lookup, Sem.run_bind, run_underlying hT, Result.andThen_ok, MapKept.run_getObj_map hb, Sem.run_pure, K.chk, h1]
 cases ha : ks.any (eq x) with
 | true =>
  obtain ⟨j, rfl⟩ := h2 ha
  simp
 | false =>
  rw [h3 ha]
  simp [hz]
theorem SetAt.update (K : KeyEnc P t enc eq) (hT : P.underlying T = some (.map t e)) (h : SetAt enc W b ks) (x : κ) (hn : ks.any (eq x) = false) :
  ∃ W', (Instr.mapUpdate T (.map (some b)) (enc x) (.bool true)).run P W = .ok () W' ∧ SetAt enc W' b (ks ++ [x]) ∧ W'.heap.size = W.heap.size ∧ (∀ k, k ≠ b → W'.heap[k]? = W.heap[k]?) ∧ W'.os = W.os ∧ W'.tape = W.tape ∧ W'.output = W.output := by
 obtain ⟨es, clock, hb, hk, hv⟩ := h
 obtain ⟨r, h1, h2, h3⟩ := find_key K x W es.toList ks hk hv
 obtain rfl := h3 hn
 refine ⟨{ W with heap := W.heap.setIfInBounds b (.map (es.push { key := enc x, val := .bool true, born := clock }) (clock + 1)) }, ?_, ?_, by simp, fun k hkb => by simp [Array.getElem?_setIfInBounds_ne (Ne.symm hkb)], rfl, rfl, rfl⟩
 ·simp only [Instr.mapUpdate, Sem.run_bind, run_underlying hT, Result.andThen_ok, MapKept.run_getObj_map hb, K.chk, h1, MapKept.run_setObj_map _ hb]
 ·refine ⟨_, _, Array.getElem?_setIfInBounds_self_of_lt (Array.getElem?_eq_some_iff.1 hb).1, by simp [hk], fun a ha => ?_⟩
  rw [Array.toList_push, List.mem_append] at ha
  rcases ha with ha | ha
  ·exact hv a ha
  ·obtain rfl : a = _ := by simpa using ha
   rfl
theorem SetAt.keep (h : SetAt enc w b ks) {W' : World} (hb : W'.heap[b]? = w.heap[b]?) : SetAt enc W' b ks := by
 obtain ⟨es, clock, h1, h2⟩ := h
 exact ⟨es, clock, hb.trans h1, h2⟩
theorem SetAt.lt (h : SetAt enc w b ks) : b < w.heap.size := by
 obtain ⟨es, clock, h1, h2⟩ := h
 exact (Array.getElem?_eq_some_iff.1 h1).1
end
abbrev visitV (v : TVisit) : Value := .agg #[.int .i64 v.Kind, .int .i64 v.Item]
def eqVisit (x y : TVisit) : Bool := x.Kind == y.Kind && x.Item == y.Item
theorem eqVisit_iff {x y : TVisit} : eqVisit x y = true ↔ x = y := by
 obtain ⟨a, b⟩ := x
 obtain ⟨c, d⟩ := y
 simp [eqVisit]
theorem keyVisit : KeyEnc Try.prog 57 visitV eqVisit := by
 refine ⟨fun x y w => ?_, fun b x w => ?_, ⟨_, Try.underlying57⟩⟩
 ·have u1 := Try.underlying55
  have u2 := Try.underlying3
  unfold Op.equal
  refine eqA_of Try.underlying57 (by kernel_rfl) ?_
  simp [Op.eqFields, go_sem, eqVisit]
  by_cases h1 : x.Kind = y.Kind <;> by_cases h2 : x.Item = y.Item <;> simp [h1, h2]
 ·have u1 := fun w => run_underlying Try.underlying55 w
  have u2 := fun w => run_underlying Try.underlying3 w
  have u3 := fun w => run_underlying Try.underlying57 w
  obtain ⟨n, hn⟩ : ∃ n, 10000 = n + 2 := ⟨9998, rfl⟩
  rw [hn]
  clear hn
  rw [Instr.checkKey]
  simp [u3, go_sem, Instr.checkKey, u1, u2]
end Go.Proofs.Ytemjpgmfignhnaa
