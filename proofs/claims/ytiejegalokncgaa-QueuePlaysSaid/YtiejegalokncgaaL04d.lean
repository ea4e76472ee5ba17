/- Two queues and a map of a call's own, kept apart.
Conditions: none. -/
import Derived.Test.YtiejegalokncgaaL04c
namespace Go.Proofs.Ytiejegalokncgaa
open Go.RowKit Go.Proofs.YtiejegalokncgaaW.PrintWords Go.Proofs.YtiejegalokncgaaW.PrintLast Go.Proofs.YtiejegalokncgaaW.PrintMore
set_option linter.unusedVariables false
set_option linter.unusedSimpArgs false
abbrev bV (v : Bool) : Value := .bool v
structure Q2 (w W : World) (qa ma qb mb lb : Nat) (ga gb : Option Nat) (a b : List QE) (G : List (IE Bool)) : Prop where
  a : QQ w W qa ma ga a
  b : QQ w W qb mb gb b
  g : IMapAt bV W lb G
  l0 : w.heap.size ≤ lb
  ab : ∀ k, QS qa ma ga k → ¬ QS qb mb gb k
  al : ¬ QS qa ma ga lb
  bl : ¬ QS qb mb gb lb
section
variable {w W W' : World} {qa ma qb mb lb : Nat} {ga gb ga' gb' : Option Nat} {a b a' b' m : List QE} {G G' : List (IE Bool)}
theorem Qu.lt (h : Qu W qb mb gb m) (k : Nat) (hS : QS qb mb gb k) : k < W.heap.size := by
  obtain ⟨c, l, D, h1, h2⟩ := h
  rcases hS with rfl | rfl | hS
  · exact h1.qlt
  · exact h1.map.lt
  · subst hS
    rcases h1.row.2 with ⟨r, _⟩ | ⟨g, cap, cur, r, _, r2, _⟩
    · simp [qA] at r
    · simp [qA] at r
      rw [r.1]
      exact blk_lt r2
theorem QQ.far (h : QQ w W qb mb gb m) {S : Nat → Prop} (ht : Turn S W W') (hn : ∀ k, QS qb mb gb k → ¬ S k) (hS : ∀ k, k < w.heap.size → ¬ S k) : QQ w W' qb mb gb m :=
  ⟨h.q.far ht hn, h.q0, h.m0, h.g0, below_mid' h.b (ht.below h.b.size hS)⟩
theorem QQ.low (h : QQ w W qb mb gb m) (k : Nat) (hk : k < w.heap.size) (hS : QS qb mb gb k) : False := by
  rcases hS with rfl | rfl | hS
  · have := h.q0; omega
  · have := h.m0; omega
  · have := h.g0 k hS.symm; omega
theorem QS_new {n k : Nat} (hg : ga' = ga ∨ ∃ g, ga' = some g ∧ n ≤ g) (hk : k < n) (hS : QS qa ma ga' k) : QS qa ma ga k := QS_mono hg hk hS
theorem Q2.onA (h : Q2 w W qa ma qb mb lb ga gb a b G) (hq : QQ w W' qa ma ga' a') (hg : ga' = ga ∨ ∃ g, ga' = some g ∧ W.heap.size ≤ g) (ht : Turn (QS qa ma ga) W W') : Q2 w W' qa ma qb mb lb ga' gb a' b G :=
  ⟨hq, h.b.far ht (fun k hb hS => h.ab k hS hb) (fun k hk hS => h.a.low k hk hS), h.g.keep (ht.block lb h.g.lt h.al), h.l0, fun k hS hb => h.ab k (QS_new hg (h.b.q.lt k hb) hS) hb, fun hS => h.al (QS_new hg h.g.lt hS), h.bl⟩
theorem Q2.onB (h : Q2 w W qa ma qb mb lb ga gb a b G) (hq : QQ w W' qb mb gb' b') (hg : gb' = gb ∨ ∃ g, gb' = some g ∧ W.heap.size ≤ g) (ht : Turn (QS qb mb gb) W W') : Q2 w W' qa ma qb mb lb ga gb' a b' G :=
  ⟨h.a.far ht (fun k ha hS => h.ab k ha hS) (fun k hk hS => h.b.low k hk hS), hq, h.g.keep (ht.block lb h.g.lt h.bl), h.l0, fun k ha hS => h.ab k ha (QS_new hg (h.a.q.lt k ha) hS), h.al, fun hS => h.bl (QS_new hg h.g.lt hS)⟩
theorem Q2.onG (h : Q2 w W qa ma qb mb lb ga gb a b G) (hl : IMapAt bV W' lb G') (ht : Turn (fun k => k = lb) W W') : Q2 w W' qa ma qb mb lb ga gb a b G' :=
  ⟨h.a.far ht (fun k ha e => h.al (e ▸ ha)) (fun k hk e => by have := h.l0; omega), h.b.far ht (fun k hb e => h.bl (e ▸ hb)) (fun k hk e => by have := h.l0; omega), hl, h.l0, h.ab, h.al, h.bl⟩
theorem Q2.below (h : Q2 w W qa ma qb mb lb ga gb a b G) (hb : Below W.heap.size W W') : Q2 w W' qa ma qb mb lb ga gb a b G :=
  ⟨h.a.below hb, h.b.below hb, h.g.keep (hb.block lb h.g.lt), h.l0, h.ab, h.al, h.bl⟩
/-- How many entries a queue holds, read off its box. -/
def qCount (W : World) (qb : Nat) : Nat := match W.cell? ⟨qb, 0, none⟩ with | some (.slice _ n _) => n | _ => 0
theorem Qu.count (h : Qu W qb mb gb m) : qCount W qb = m.length := by
  obtain ⟨c, l, D, h1, h2⟩ := h
  unfold qCount
  rw [h1.cell0, ← h2.perm.length_eq]
end
/-! ### the plain law -/
/-- What is gone. -/
def goneS (l : List Int) (x : Int) : Bool := l.any (fun y => decide (y = x))
theorem goneS_take {l : List Int} {i : Nat} (hi : i < l.length) (x : Int) : goneS (l.take (i + 1)) x = (goneS (l.take i) x || decide (l[i] = x)) := by
  unfold goneS
  rw [List.take_succ_eq_append_getElem hi, List.any_append, List.any_cons, List.any_nil, Bool.or_false]
theorem drops_put {ma mb : List QE} {g : Int → Bool} (ha : ItemsOk ma) (hb : ItemsOk mb) (hla : ma.length < 4096) (hlb : mb.length < 4096) (h : ∀ z, findQ mb z = if g z = true then none else findQ ma z) (x y : Int) :
    ∀ z, findQ (if g x = true then mb else (putQ mb x y).1) z = if g z = true then none else findQ (putQ ma x y).1 z := by
  intro z
  rw [findQ_put ha hla]
  by_cases hx : g x = true
  · rw [if_pos hx, h z]
    by_cases hz : z = x
    · subst hz; rw [if_pos hx, if_pos hx]
    · rw [if_neg hz]
  · rw [if_neg hx, findQ_put hb hlb]
    by_cases hz : z = x
    · subst hz
      rw [if_pos rfl, if_pos rfl, if_neg hx, h z, if_neg hx]
    · rw [if_neg hz, if_neg hz, h z]
end Go.Proofs.Ytiejegalokncgaa
