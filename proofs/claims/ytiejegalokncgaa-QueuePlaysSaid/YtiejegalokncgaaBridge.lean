/- How an argument that reads as data is told as a value of the printed kinds: whole numbers, bools, strings, slices, structs, at any depth.
Conditions: none. -/
import Derived.Test.YtiejegalokncgaaWWords
import Derived.Deep.Slices
import Derived.SizedLaws
import Derived.ChangeSame
import Derived.OpenShut
import Derived.ShutString
namespace Go.Proofs.Ytiejegalokncgaa.Bridge
open Go.RowKit Go.Proofs.YtiejegalokncgaaW.PrintWords Go.Deep
set_option linter.unusedVariables false
set_option linter.unusedSimpArgs false
variable {H : Type} {enc : TypeId × Value → H} {P : Program} {W : World}

/-- What reads as data of type t is of kind d, and good. -/
def Rd (enc : TypeId × Value → H) (P : Program) (W : World) (t : TypeId) {α : Type} (d : Kd α) (G : α → Prop) : Prop :=
  ∀ (fuel : Nat) (cs : List Value) (D : DataW H) (ps : List MemPlace), DataW.trod enc P W 0 (fun _ => true) true fuel t cs = some (D, ps) →
    (∀ n ∈ D.weights P t, n ≤ reachBytes) → ∃ x, d.K W x cs ∧ G x

theorem rd_int {t : TypeId} {k : IntKind} (ht : P.underlying t = some (.int k)) : Rd enc P W t (Kd.int k) (fun x => (Lit.int k x).wf = true) := by
  intro fuel cs D ps h _
  obtain ⟨n, rfl, hx, hw⟩ := DataW.trod_int ht h
  exact ⟨n, rfl, hw⟩
theorem rd_bool {t : TypeId} (ht : P.underlying t = some .bool) : Rd enc P W t Kd.bool (fun _ => True) := by
  intro fuel cs D ps h _
  cases fuel with
  | zero => simp [DataW.trod] at h
  | succ n =>
    unfold DataW.trod at h
    rw [ht] at h
    split at h
    any_goals exact ⟨_, rfl, trivial⟩
    all_goals simp_all
theorem rd_string {t : TypeId} (ht : P.underlying t = some .string) : Rd enc P W t Kd.string (fun a => a.size ≤ 140737488351232) := by
  intro fuel cs D ps h hz
  cases fuel with
  | zero => simp [DataW.trod] at h
  | succ n =>
    unfold DataW.trod at h
    rw [ht] at h
    split at h <;> simp_all
    obtain ⟨hs, rfl, _⟩ := h
    refine ⟨_, rfl, ?_⟩
    have := hz _ (by simp [DataW.weights]; rfl)
    simpa [reachBytes] using this

/-- A type whose elements are of kind d. -/
theorem rd_slice {t e : TypeId} {α : Type} {d : Kd α} {G : α → Prop} {B : Nat} (ht : P.underlying t = some (.slice e)) (hc : P.cellsOf e = d.sz) (hB : P.bytesOf e = B) (he : Rd enc P W e d G) :
    Rd enc P W t (Kd.slice e d) (fun xs => xs.length ≤ maxLen ∧ xs.length * B ≤ 140737488351232 ∧ ∀ x ∈ xs, G x) := by
  intro fuel cs D ps h hz
  rcases open_slice ht h with ⟨rfl, hx⟩ | ⟨a, len, cap, m, n, DD, Pl, rfl, hb, hl, hm, hmm, hx, hel⟩
  · refine ⟨[], ⟨none, 0, rfl, Nat.le_refl _, rfl, by simp, fun h0 => absurd h0 (by simp)⟩, by simp [maxLen], by simp, by simp⟩
  · obtain ⟨hD, hP⟩ := Prod.mk.inj hx
    subst hD
    simp only [if_true] at hmm
    obtain rfl : cap = m := hmm.symm
    have hw : ∀ i, i < len → ∀ q ∈ (DD i).weights P e, q ≤ reachBytes := by
      intro i hi q hq
      refine hz q ?_
      simp only [DataW.weights, ht, List.mem_cons, List.mem_append]
      exact .inr (.inl (weights_all _ (DD i) (List.mem_map.2 ⟨i, List.mem_range.2 hi, rfl⟩) q hq))
    have key : ∀ i, i < len → ∃ x : α, ∃ c, c.length = d.sz ∧ d.K W x c ∧ (∀ j u, c[j]? = some u → W.cell? (a.add (i * d.sz + j)) = some u) ∧ G x := by
      intro i hi
      obtain ⟨cs', h1, h2⟩ := hel i (by omega)
      obtain ⟨x, hK, hG⟩ := he n cs' _ _ h2 (hw i hi)
      obtain ⟨_, hlen, hcell⟩ := World.cells?_some h1
      refine ⟨x, cs', d.K_len hK, hK, fun j u hu => ?_, hG⟩
      have hj : j < cs'.length := (List.getElem?_eq_some_iff.1 hu).1
      have := hcell j (by omega)
      rw [hu, Deep.add_add, hc] at this
      exact this
    obtain ⟨X, hlX, hX⟩ := choose_list len key
    have hwt : (len + (cap - len)) * P.bytesOf e ≤ reachBytes := hz _ (by simp [DataW.weights, ht])
    subst hlX
    refine ⟨X, ⟨some a, cap, rfl, hl, ⟨rfl, ?_, fun h0 => ⟨a, rfl, fun j p hp => ?_⟩⟩⟩, ?_, ?_, ?_⟩
    · simp only [maxLen] at hm
      omega
    · obtain ⟨c, h1, h2, h3, _⟩ := hX j p hp
      exact ⟨c, h1, h2, h3⟩
    · omega
    · rw [hB] at hwt
      have h1 : X.length * B ≤ (X.length + (cap - X.length)) * B := Nat.mul_le_mul_right _ (by omega)
      have h2 : reachBytes ≤ 140737488351232 := by decide
      omega
    · intro x hx
      obtain ⟨i, hi⟩ := List.getElem?_of_mem hx
      obtain ⟨c, _, _, _, h4⟩ := hX i x hi
      exact h4
where
  weights_all {H : Type} {P : Program} {e : TypeId} : ∀ (l : List (DataW H)) (x : DataW H), x ∈ l → ∀ q ∈ x.weights P e, q ∈ DataW.weightsAll P e l
    | [], _, h, _, _ => by simp at h
    | y :: l, x, h, q, hq => by
      simp only [DataW.weightsAll, List.mem_append]
      rcases List.mem_cons.1 h with rfl | h
      · exact .inl hq
      · exact .inr (weights_all l x h q hq)
  choose_list {α : Type} {Q : Nat → α → Prop} : ∀ (n : Nat), (∀ i, i < n → ∃ x, Q i x) → ∃ xs : List α, xs.length = n ∧ ∀ (i : Nat) (x : α), xs[i]? = some x → Q i x
    | 0, _ => ⟨[], rfl, by simp⟩
    | n + 1, h => by
      obtain ⟨xs, hl, hx⟩ := choose_list n (fun i hi => h i (by omega))
      obtain ⟨x, hq⟩ := h n (by omega)
      refine ⟨xs ++ [x], by simp [hl], fun i y hy => ?_⟩
      by_cases hi : i < n
      · rw [List.getElem?_append_left (by omega)] at hy
        exact hx i y hy
      · have hi2 : i = n := by
          have := (List.getElem?_eq_some_iff.1 hy).1
          simp [hl] at this
          omega
        subst hi2
        rw [List.getElem?_append_right (by omega), hl] at hy
        simp at hy
        subst hy
        exact hq

/-- A struct's fields from a place on. -/
def RdF (enc : TypeId × Value → H) (P : Program) (W : World) (fs : List Field) (off : Nat) {α : Type} (d : Kd α) (G : α → Prop) : Prop :=
  ∀ (fuel : Nat) (cs : List Value) (xs : List (DataW H × List MemPlace)), off + d.sz = cs.length → xs.length = fs.length →
    (∀ (i : Nat) (f : Field), fs[i]? = some f → DataW.trod enc P W 0 (fun _ => true) true fuel f.type ((cs.drop f.offset).take (P.cellsOf f.type)) = xs[i]?) →
    (∀ n ∈ DataW.weightsEach P (fs.map (·.type)) (xs.map (·.1)), n ≤ reachBytes) → ∃ x, d.K W x (cs.drop off) ∧ G x
theorem rdF_one {f : Field} {off : Nat} {α : Type} {d : Kd α} {G : α → Prop} (ho : f.offset = off) (hc : P.cellsOf f.type = d.sz) (h : Rd enc P W f.type d G) : RdF enc P W [f] off d G := by
  intro fuel cs xs hl hn hm hz
  match xs, hn with
  | [(D, ps)], _ =>
    have h1 := hm 0 f rfl
    rw [ho, hc, List.take_of_length_le (by rw [List.length_drop]; omega)] at h1
    exact h fuel _ D ps h1 (fun n hn => hz n (by simp [DataW.weightsEach, hn]))
theorem rdF_cons {f : Field} {fs : List Field} {off : Nat} {α β : Type} {d : Kd α} {d' : Kd β} {G : α → Prop} {G' : β → Prop} (ho : f.offset = off) (hc : P.cellsOf f.type = d.sz) (h : Rd enc P W f.type d G)
    (h' : RdF enc P W fs (off + d.sz) d' G') : RdF enc P W (f :: fs) off (Kd.pair d d') (fun x => G x.1 ∧ G' x.2) := by
  intro fuel cs xs hl hn hm hz
  match xs, hn with
  | (D, ps) :: ys, hn =>
    have h1 := hm 0 f rfl
    rw [ho, hc] at h1
    have hl' : off + (d.sz + d'.sz) = cs.length := hl
    obtain ⟨x, hx, gx⟩ := h fuel _ D ps h1 (fun n hn => hz n (by simp [DataW.weightsEach, hn]))
    obtain ⟨y, hy, gy⟩ := h' fuel cs ys (by omega) (by simpa using hn) (fun i g hg => by simpa using hm (i + 1) g (by simpa using hg)) (fun n hn => hz n (by simp only [List.map_cons, DataW.weightsEach, List.mem_append]; exact .inr hn))
    refine ⟨(x, y), ⟨_, _, ?_, hx, hy⟩, gx, gy⟩
    rw [← List.drop_drop, List.take_append_drop]
theorem rd_struct {t : TypeId} {fs : Array Field} {α β : Type} {d : Kd α} {G : α → Prop} (ht : P.underlying t = some (.struct fs)) (hc : P.cellsOf t = d.sz) (f : β → α) (g : α → β) (hg : ∀ x, f (g x) = x)
    (h : RdF enc P W fs.toList 0 d G) : Rd enc P W t (Kd.iso d f) (fun x => G (f x)) := by
  intro fuel cs D ps hh hz
  obtain ⟨xs, n, _, hx, hl, hlen, hf⟩ := DataW.trod_struct ht hh
  obtain ⟨rfl, rfl⟩ := Prod.mk.inj hx
  obtain ⟨x, hK, hG⟩ := h n cs xs (by omega) (by simpa using hlen) (fun i g hg => hf i g (by simpa using hg)) (fun q hq => hz q (by simpa [DataW.weights, ht] using hq))
  refine ⟨g x, ?_, by show G (f (g x)); rw [hg]; exact hG⟩
  show d.K W (f (g x)) cs
  rw [hg]
  simpa using hK
theorem rd_imp {t : TypeId} {α : Type} {d : Kd α} {G G' : α → Prop} (h : Rd enc P W t d G) (hG : ∀ x, G x → G' x) : Rd enc P W t d G' := fun fuel cs D ps h1 h2 => by
  obtain ⟨x, hx, g⟩ := h fuel cs D ps h1 h2
  exact ⟨x, hx, hG x g⟩

end Go.Proofs.Ytiejegalokncgaa.Bridge
