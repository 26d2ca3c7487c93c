/- A logic over abstract states (part 1): abstract values, the store, what it means that a concrete world is described, calls. No program in sight. -/
import Derived.OwnWalk
import Derived.Below
import Derived.Scope
import Derived.Orders
set_option linter.unusedVariables false
set_option linter.unusedSimpArgs false
namespace Go.Ab

/-- Cells that never turn any more, and what they hold. -/
abbrev RO := Addr → Option Value

/-- What is known of a slice in such memory: its spare room is not ours; it has none; it is nil. -/
inductive SM where
  | ro | full | nil
  deriving DecidableEq, Inhabited

def SMok : SM → Option Addr → Nat → Nat → Prop
  | .ro, _, n, cap => n ≤ cap
  | .full, _, n, cap => cap = n
  | .nil, ao, n, cap => ao = none ∧ n = 0 ∧ cap = 0

inductive AV where
  | undef
  | val (v : Value)
  | lst (sz : Nat) (l : List AV) (m : SM)
  | rptr (cs : List AV)
  | own (v : Value) (n : Nat)
  | eptr (v : Value) (sz i j : Nat)
  /-- a part of a growable row: from element a on, n of them -/
  | sub (v : Value) (sz a n : Nat)
  | agg (cs : List AV)
  | tuple (vs : List AV)
  | fn (f : Fn) (first captured : List AV)
  | ifc (t : TypeId) (v : AV)
  deriving Inhabited

def AV.cells : AV → List AV
  | .agg cs => cs
  | u => [u]
/-- It is the value of one cell. -/
def AV.one : AV → Bool
  | .val v => v.oneCell'
  | .undef => false
  | .agg _ => false
  | .tuple _ => false
  | _ => true
/-- A constant as an abstract value. -/
def ofV : Value → AV
  | .agg cs => .agg (cs.toList.map .val)
  | v => .val v
def flat (l : List AV) : List AV := l.flatMap AV.cells

/-- The value of a growable row of n elements. -/
def RowV (v : Value) (n : Nat) : Prop := (v = .slice none 0 0 ∧ n = 0) ∨ ∃ g cap, v = .slice (some ⟨g, 0, none⟩) n cap ∧ n ≤ cap
/-- The value of a part of a growable row. -/
def SubOf (v : Value) (sz a n : Nat) (x : Value) : Prop := (v = .slice none 0 0 ∧ a = 0 ∧ n = 0 ∧ x = .slice none 0 0) ∨
  ∃ g n0 cap p, v = .slice (some ⟨g, 0, none⟩) n0 cap ∧ a + n ≤ cap ∧ (a < cap → p = ⟨g, a * sz, none⟩) ∧ x = .slice (some p) n (cap - a)
/-- A concrete value is described by an abstract one. -/
inductive VR (R : RO) : Value → AV → Prop
  | undef (v : Value) : VR R v .undef
  | val (v : Value) : VR R v (.val v)
  | own {v : Value} {n : Nat} (h : RowV v n) : VR R v (.own v n)
  | lst {ao : Option Addr} {n cap : Nat} {l : List AV} {m : SM} {sz : Nat} (vs : List Value) (hn : l.length = n) (hz : 0 < sz) (hsz : ∀ e ∈ l, e.cells.length = sz) (hl : vs.length = (flat l).length)
      (hv : ∀ (j : Nat) (u : AV) (v : Value), (flat l)[j]? = some u → vs[j]? = some v → VR R v u)
      (hR : l ≠ [] → ∃ a, ao = some a ∧ ∀ (j : Nat) (v : Value), vs[j]? = some v → R (a.add j) = some v)
      (hm : SMok m ao n cap) (hb : n ≤ maxLen) (hone : ∀ v ∈ vs, v.oneCell' = true) : VR R (.slice ao n cap) (.lst sz l m)
  | rptr {a : Addr} {cs : List AV} (vs : List Value) (hl : vs.length = cs.length) (hv : ∀ (j : Nat) (u : AV) (v : Value), cs[j]? = some u → vs[j]? = some v → VR R v u)
      (hR : ∀ (j : Nat) (v : Value), vs[j]? = some v → R (a.add j) = some v) : VR R (.pointer (some a)) (.rptr cs)
  | sub {v x : Value} {sz a n : Nat} (h : SubOf v sz a n x) : VR R x (.sub v sz a n)
  | eptr {g n cap sz i j : Nat} : VR R (.pointer (some ⟨g, i * sz + j, none⟩)) (.eptr (.slice (some ⟨g, 0, none⟩) n cap) sz i j)
  | agg {vs : Array Value} {cs : List AV} (hl : vs.toList.length = cs.length) (hv : ∀ (j : Nat) (u : AV) (v : Value), cs[j]? = some u → vs.toList[j]? = some v → VR R v u) : VR R (.agg vs) (.agg cs)
  | tuple {vs : Array Value} {cs : List AV} (hl : vs.toList.length = cs.length) (hv : ∀ (j : Nat) (u : AV) (v : Value), cs[j]? = some u → vs.toList[j]? = some v → VR R v u) : VR R (.tuple vs) (.tuple cs)
  | fn {f : Fn} {fs cs : Array Value} {us ws : List AV} (hl : fs.toList.length = us.length) (hv : ∀ (j : Nat) (u : AV) (v : Value), us[j]? = some u → fs.toList[j]? = some v → VR R v u)
      (hl' : cs.toList.length = ws.length) (hv' : ∀ (j : Nat) (u : AV) (v : Value), ws[j]? = some u → cs.toList[j]? = some v → VR R v u) : VR R (.func f fs cs) (.fn f us ws)
  | ifc {t : TypeId} {v : Value} {u : AV} (h : VR R v u) : VR R (.iface t v) (.ifc t u)

abbrev RO.le (R R' : RO) : Prop := ∀ a v, R a = some v → R' a = some v

theorem VR.mono {R R' : RO} (hR : R.le R') {v : Value} {u : AV} (h : VR R v u) : VR R' v u := by
  induction h with
  | undef v => exact .undef v
  | val v => exact .val v
  | own h => exact .own h
  | lst vs hn hz hsz hl hv hr hm hb hone ih =>
    refine .lst vs hn hz hsz hl ih (fun hne => ?_) hm hb hone
    obtain ⟨a, e, h⟩ := hr hne
    exact ⟨a, e, fun j v hj => hR _ _ (h j v hj)⟩
  | rptr vs hl hv hr ih => exact .rptr vs hl ih fun j v hj => hR _ _ (hr j v hj)
  | eptr => exact .eptr
  | sub h => exact .sub h
  | agg hl hv ih => exact .agg hl ih
  | tuple hl hv ih => exact .tuple hl ih
  | fn hl hv hl' hv' ih ih' => exact .fn hl ih hl' ih'
  | ifc h ih => exact .ifc ih

/-- Lists of values. -/
def VRs (R : RO) (vs : List Value) (us : List AV) : Prop := vs.length = us.length ∧ ∀ (j : Nat) (u : AV) (v : Value), us[j]? = some u → vs[j]? = some v → VR R v u
theorem VRs.mono {R R' : RO} (hR : R.le R') {vs : List Value} {us : List AV} (h : VRs R vs us) : VRs R' vs us := ⟨h.1, fun j u v hu hv => (h.2 j u v hu hv).mono hR⟩
theorem VRs.nil (R : RO) : VRs R [] [] := ⟨rfl, by simp⟩
theorem VRs.cons {R : RO} {v : Value} {u : AV} {vs : List Value} {us : List AV} (h : VR R v u) (hs : VRs R vs us) : VRs R (v :: vs) (u :: us) := by
  refine ⟨by simp [hs.1], fun j x y hx hy => ?_⟩
  cases j with
  | zero => simp at hx hy; subst hx; subst hy; exact h
  | succ j => exact hs.2 j x y (by simpa using hx) (by simpa using hy)
theorem VRs.append {R : RO} {vs ws : List Value} {us xs : List AV} (h : VRs R vs us) (k : VRs R ws xs) : VRs R (vs ++ ws) (us ++ xs) := by
  refine ⟨by simp [h.1, k.1], fun j x y hx hy => ?_⟩
  rcases Nat.lt_or_ge j vs.length with hj | hj
  · rw [List.getElem?_append_left hj] at hy
    rw [List.getElem?_append_left (by rw [← h.1]; exact hj)] at hx
    exact h.2 j x y hx hy
  · rw [List.getElem?_append_right hj] at hy
    rw [List.getElem?_append_right (by rw [← h.1]; exact hj), ← h.1] at hx
    exact k.2 _ x y hx hy
theorem VRs.drop {R : RO} {vs : List Value} {us : List AV} (h : VRs R vs us) (n : Nat) : VRs R (vs.drop n) (us.drop n) :=
  ⟨by simp [h.1], fun j x y hx hy => h.2 (n + j) x y (by simpa using hx) (by simpa using hy)⟩
theorem VRs.take {R : RO} {vs : List Value} {us : List AV} (h : VRs R vs us) (n : Nat) : VRs R (vs.take n) (us.take n) := by
  refine ⟨by simp [h.1], fun j x y hx hy => ?_⟩
  rw [List.getElem?_take] at hx hy
  split at hx
  · rename_i hj
    rw [if_pos hj] at hy
    exact h.2 j x y hx hy
  · cases hx
theorem VRs.set {R : RO} {vs : List Value} {us : List AV} (h : VRs R vs us) (n : Nat) {v : Value} {u : AV} (hv : VR R v u) : VRs R (vs.set n v) (us.set n u) := by
  refine ⟨by simp [h.1], fun j x y hx hy => ?_⟩
  rw [List.getElem?_set] at hx hy
  by_cases hj : n = j
  · subst hj
    rw [if_pos rfl] at hx hy
    split at hx
    · split at hy
      · cases hx; cases hy; exact hv
      · cases hy
    · cases hx
  · rw [if_neg hj] at hx hy
    exact h.2 j x y hx hy
theorem VRs.get {R : RO} {vs : List Value} {us : List AV} (h : VRs R vs us) {j : Nat} {u : AV} (hu : us[j]? = some u) : ∃ v, vs[j]? = some v ∧ VR R v u := by
  have hj : j < us.length := (List.getElem?_eq_some_iff.1 hu).1
  have hj' : j < vs.length := by rw [h.1]; exact hj
  exact ⟨vs[j], List.getElem?_eq_getElem hj', h.2 j u _ hu (List.getElem?_eq_getElem hj')⟩
theorem VRs.toVals {R : RO} {vs : List Value} {xs : List Value} (h : VRs R vs (xs.map .val)) : vs = xs := by
  apply List.ext_getElem?
  intro j
  rcases Nat.lt_or_ge j xs.length with hj | hj
  · have hx : (xs.map AV.val)[j]? = some (.val xs[j]) := by simp [hj]
    obtain ⟨v, hv, hr⟩ := h.get hx
    rw [hv, List.getElem?_eq_getElem hj]
    cases hr
    rfl
  · rw [List.getElem?_eq_none hj, List.getElem?_eq_none]
    have := h.1
    simp at this
    omega
theorem VRs.ofVals (R : RO) (xs : List Value) : VRs R xs (xs.map .val) := by
  refine ⟨by simp, fun j u v hu hv => ?_⟩
  simp [hv] at hu
  subst hu
  exact .val v

theorem VR.agg' {R : RO} {vs : List Value} {cs : List AV} (h : VRs R vs cs) : VR R (.agg vs.toArray) (.agg cs) := .agg (by simpa using h.1) (by simpa using h.2)
theorem VR.tuple' {R : RO} {vs : List Value} {cs : List AV} (h : VRs R vs cs) : VR R (.tuple vs.toArray) (.tuple cs) := .tuple (by simpa using h.1) (by simpa using h.2)
theorem VR.agg_inv {R : RO} {v : Value} {cs : List AV} (h : VR R v (.agg cs)) : ∃ vs, v = .agg (List.toArray vs) ∧ VRs R vs cs := by
  cases h with
  | agg hl hv => exact ⟨_, by simp, hl, hv⟩
theorem VR.tuple_inv {R : RO} {v : Value} {cs : List AV} (h : VR R v (.tuple cs)) : ∃ vs, v = .tuple (List.toArray vs) ∧ VRs R vs cs := by
  cases h with
  | tuple hl hv => exact ⟨_, by simp, hl, hv⟩
theorem VR.val_inv {R : RO} {v x : Value} (h : VR R v (.val x)) : v = x := by cases h; rfl
theorem VR.sub_inv {R : RO} {x v : Value} {sz a n : Nat} (h : VR R x (.sub v sz a n)) : SubOf v sz a n x := by cases h; assumption
theorem VR.own_inv {R : RO} {v x : Value} {n : Nat} (h : VR R v (.own x n)) : v = x ∧ RowV x n := by cases h; exact ⟨rfl, by assumption⟩

/-- Memory of the call's own: a growable row (the slice's value, its element type, cells of an element, the elements, how many of these may not be written any more); a variable. -/
inductive Ent where
  | row (v : Value) (E : TypeId) (sz : Nat) (l : List AV) (fl : Nat)
  | var (b : Nat) (t : TypeId) (cs : List AV)
  /-- a map: when each entry was born, its key, its element; the clock -/
  | map (b : Nat) (l : List (Nat × Value × AV)) (clock : Nat)
  /-- a walk over a map -/
  | iter (b mb since : Nat) (seen : List Nat) (stepped : Nat)
abbrev Store := List Ent
def Ent.blk : Ent → Option Nat
  | .row v _ _ _ _ => v.ownBlock
  | .var b _ _ => some b
  | .map b _ _ => some b
  | .iter b _ _ _ _ => some b
def blks (σ : Store) : List Nat := σ.filterMap Ent.blk

def EntOk (R : RO) (w : World) : Ent → Prop
  | .row v E sz l fl => 0 < sz ∧ (∀ e ∈ l, e.cells.length = sz) ∧ (∃ vs, w.ownsRow 0 E sz v l.length vs ∧ VRs R vs (flat l) ∧ ∀ v ∈ vs, v.oneCell' = true) ∧ l.length ≤ maxLen ∧
      ∀ a x, R a = some x → v.ownBlock = some a.block → a.off < fl * sz ∧ fl ≤ l.length
  | .var b t cs => (∃ vs, w.heap[b]? = some (.cells (List.toArray vs) t (0, 0)) ∧ VRs R vs cs ∧ ∀ v ∈ vs, v.oneCell' = true) ∧ ∀ a x, R a = some x → a.block ≠ b
  | .map b l clock => (∃ es : Array MapEntry, w.heap[b]? = some (.map es clock) ∧ es.toList.length = l.length ∧ (∀ (i : Nat) (e : MapEntry) (x : Nat × Value × AV), es.toList[i]? = some e → l[i]? = some x → e.born = x.1 ∧ e.key = x.2.1 ∧ VR R e.val x.2.2)) ∧
      (∀ x ∈ l, x.1 < clock) ∧ (l.map (·.1)).Nodup ∧ ∀ a x, R a = some x → a.block ≠ b
  | .iter b mb since seen stepped => w.heap[b]? = some (.mapIter (some mb) since seen.toArray stepped) ∧ ∀ a x, R a = some x → a.block ≠ b

structure St (R : RO) (w : World) (σ : Store) : Prop where
  ro : ∀ a v, R a = some v → w.cell? a = some v
  ents : ∀ e ∈ σ, EntOk R w e
  apart : σ.Pairwise fun e e' => ∀ b, e.blk = some b → e'.blk ≠ some b

structure Ext (R : RO) (w : World) (σ : Store) (R' : RO) (w' : World) (σ' : Store) : Prop where
  ro : ∀ a v, R a = some v → R' a = some v
  os : w'.os = w.os
  tape : w'.tape = w.tape
  output : w'.output = w.output
  size : w.heap.size ≤ w'.heap.size
  block : ∀ k, k < w.heap.size → k ∉ blks σ → w'.heap[k]? = w.heap[k]?
  own : ∀ k ∈ blks σ', k ∈ blks σ ∨ w.heap.size ≤ k
  new : ∀ a v, R' a = some v → R a = some v ∨ w.heap.size ≤ a.block ∨ a.block ∈ blks σ

theorem Ext.refl (R : RO) (w : World) (σ : Store) : Ext R w σ R w σ :=
  ⟨fun _ _ h => h, rfl, rfl, rfl, Nat.le_refl _, fun _ _ _ => rfl, fun _ h => .inl h, fun _ _ h => .inl h⟩
theorem Ext.trans {R R1 R2 : RO} {w w1 w2 : World} {σ σ1 σ2 : Store} (h : Ext R w σ R1 w1 σ1) (k : Ext R1 w1 σ1 R2 w2 σ2) : Ext R w σ R2 w2 σ2 := by
  refine ⟨fun a v hv => k.ro _ _ (h.ro _ _ hv), k.os.trans h.os, k.tape.trans h.tape, k.output.trans h.output, Nat.le_trans h.size k.size, ?_, ?_, ?_⟩
  · intro b hb hn
    rw [k.block b (Nat.lt_of_lt_of_le hb h.size) fun hm => (h.own b hm).elim hn (by omega), h.block b hb hn]
  · intro b hb
    rcases k.own b hb with hb | hb
    · exact h.own b hb
    · exact .inr (Nat.le_trans h.size hb)
  · intro a v hv
    rcases k.new a v hv with hv | hb | hb
    · exact h.new a v hv
    · exact .inr (.inl (Nat.le_trans h.size hb))
    · rcases h.own _ hb with hb | hb
      · exact .inr (.inr hb)
      · exact .inr (.inl hb)

/-- What is handed over may be told in other words: a growable row as memory that turns no more, nil as a list; some of the store may be forgotten. -/
def Sub (σ : Store) (args : List AV) (σ1 : Store) (args1 : List AV) : Prop := ∀ R w vs, VRs R vs args → St R w σ → ∃ R', VRs R' vs args1 ∧ St R' w σ1 ∧ Ext R w σ R' w σ1
theorem Sub.refl (σ : Store) (args : List AV) : Sub σ args σ args := fun R w vs h hs => ⟨R, h, hs, Ext.refl _ _ _⟩
theorem Sub.trans {σ σ1 σ2 : Store} {a a1 a2 : List AV} (h : Sub σ a σ1 a1) (k : Sub σ1 a1 σ2 a2) : Sub σ a σ2 a2 := fun R w vs hv hs => by
  obtain ⟨R1, h1, h2, h3⟩ := h R w vs hv hs
  obtain ⟨R2, k1, k2, k3⟩ := k R1 w vs h1 h2
  exact ⟨R2, k1, k2, h3.trans k3⟩

theorem mem_blks {σ : Store} {b : Nat} : b ∈ blks σ ↔ ∃ e ∈ σ, e.blk = some b := by simp [blks, List.mem_filterMap]
theorem blks_append (σ τ : Store) : blks (σ ++ τ) = blks σ ++ blks τ := by simp [blks]

theorem ownsRow_block {w w' : World} {base : Nat} {e : TypeId} {size : Nat} {v : Value} {n : Nat} {xs : List Value} (h : w.ownsRow base e size v n xs) (hb : ∀ b, v.ownBlock = some b → w'.heap[b]? = w.heap[b]?) : w'.ownsRow base e size v n xs := by
  refine ⟨h.1, ?_⟩
  rcases h.2 with hn | ⟨g, cap, cur, rfl, hg, hh, r⟩
  · exact .inl hn
  · exact .inr ⟨g, cap, cur, rfl, hg, by rw [hb g rfl]; exact hh, r⟩

/-- An entry lives on where its block is as it was. -/
theorem EntOk.keep {R R' : RO} {w w' : World} {e : Ent} (h : EntOk R w e) (hR : R.le R') (hb : ∀ b, e.blk = some b → w'.heap[b]? = w.heap[b]?)
    (hn : ∀ b, e.blk = some b → ∀ a x, R' a = some x → a.block = b → R a = some x) : EntOk R' w' e := by
  cases e with
  | row v E sz l fl =>
    obtain ⟨h1, h2, ⟨vs, h3, h4, h7⟩, h5, h6⟩ := h
    exact ⟨h1, h2, ⟨vs, ownsRow_block h3 hb, h4.mono hR, h7⟩, h5, fun a x ha hv => h6 a x (hn a.block hv a x ha rfl) hv⟩
  | var b t cs =>
    obtain ⟨⟨vs, h1, h2, h4⟩, h3⟩ := h
    exact ⟨⟨vs, by rw [hb b rfl]; exact h1, h2.mono hR, h4⟩, fun a x ha hv => h3 a x (hn b rfl a x ha hv) hv⟩
  | map b l clock =>
    obtain ⟨⟨es, h1, h2, h3⟩, h4, h5, h6⟩ := h
    exact ⟨⟨es, by rw [hb b rfl]; exact h1, h2, fun i e x hi hx => ⟨(h3 i e x hi hx).1, (h3 i e x hi hx).2.1, (h3 i e x hi hx).2.2.mono hR⟩⟩, h4, h5, fun a x ha hv => h6 a x (hn b rfl a x ha hv) hv⟩
  | iter b mb since seen stepped =>
    obtain ⟨h1, h2⟩ := h
    exact ⟨by rw [hb b rfl]; exact h1, fun a x ha hv => h2 a x (hn b rfl a x ha hv) hv⟩

theorem EntOk.lt {R : RO} {w : World} {e : Ent} (h : EntOk R w e) {b : Nat} (hb : e.blk = some b) : b < w.heap.size := by
  cases e with
  | row v E sz l fl => obtain ⟨h1, h2, ⟨vs, h3, h4⟩, h5, h6⟩ := h; exact (h3.lt b hb).2
  | var b' t cs =>
    obtain ⟨⟨vs, h1, h2⟩, h3⟩ := h
    simp only [Ent.blk, Option.some.injEq] at hb
    subst hb
    exact (Array.getElem?_eq_some_iff.1 h1).1
  | map b' l clock =>
    obtain ⟨⟨es, h1, _⟩, _⟩ := h
    simp only [Ent.blk, Option.some.injEq] at hb
    subst hb
    exact (Array.getElem?_eq_some_iff.1 h1).1
  | iter b' mb since seen stepped =>
    obtain ⟨h1, _⟩ := h
    simp only [Ent.blk, Option.some.injEq] at hb
    subst hb
    exact (Array.getElem?_eq_some_iff.1 h1).1

theorem St.lt {R : RO} {w : World} {σ : Store} (h : St R w σ) {b : Nat} (hb : b ∈ blks σ) : b < w.heap.size := by
  obtain ⟨e, he, hb⟩ := mem_blks.1 hb
  exact (h.ents e he).lt hb
theorem St.roLt {R : RO} {w : World} {σ : Store} (h : St R w σ) {a : Addr} {v : Value} (ha : R a = some v) : a.block < w.heap.size := World.block_lt_of_cell? w a (h.ro a v ha)

theorem St.sub {R : RO} {w : World} {σ τ : Store} (h : St R w σ) (hs : τ.Sublist σ) : St R w τ := ⟨h.ro, fun e he => h.ents e (hs.subset he), h.apart.sublist hs⟩
theorem Ext.sub {R : RO} {w : World} {σ τ : Store} (hs : τ.Sublist σ) : Ext R w σ R w τ :=
  ⟨fun _ _ h => h, rfl, rfl, rfl, Nat.le_refl _, fun _ _ _ => rfl, fun k hk => .inl (by
    obtain ⟨e, he, hb⟩ := mem_blks.1 hk
    exact mem_blks.2 ⟨e, hs.subset he, hb⟩), fun _ _ h => .inl h⟩

/-- THE FRAME: what a part of the store does leaves the rest as it was. -/
theorem St.frame {R R' : RO} {w w' : World} {σ τ σ' : Store} (h : St R w (σ ++ τ)) (h' : St R' w' σ') (x : Ext R w σ R' w' σ') :
    St R' w' (σ' ++ τ) ∧ Ext R w (σ ++ τ) R' w' (σ' ++ τ) ∧ ∀ b ∈ blks σ', b ∉ blks τ := by
  have hp := List.pairwise_append.1 h.apart
  have hdis : ∀ b ∈ blks τ, b ∉ blks σ := by
    intro b hb hb'
    obtain ⟨e, he, hb⟩ := mem_blks.1 hb
    obtain ⟨e', he', hb'⟩ := mem_blks.1 hb'
    exact hp.2.2 e' he' e he b hb' hb
  have hlt : ∀ b ∈ blks τ, b < w.heap.size := fun b hb => h.lt (by rw [blks_append]; exact List.mem_append.2 (.inr hb))
  have hnew : ∀ b ∈ blks σ', b ∉ blks τ := by
    intro b hb hb'
    rcases x.own b hb with hb | hb
    · exact hdis b hb' hb
    · have := hlt b hb'; omega
  refine ⟨⟨h'.ro, ?_, ?_⟩, ⟨x.ro, x.os, x.tape, x.output, x.size, ?_, ?_, ?_⟩, hnew⟩
  · intro e he
    rcases List.mem_append.1 he with he | he
    · exact h'.ents e he
    · have hin : ∀ b, e.blk = some b → b ∈ blks τ := fun b hb => mem_blks.2 ⟨e, he, hb⟩
      refine (h.ents e (List.mem_append.2 (.inr he))).keep x.ro (fun b hb => x.block b (hlt b (hin b hb)) (hdis b (hin b hb))) fun b hb a v ha hab => ?_
      rcases x.new a v ha with ha | ha | ha
      · exact ha
      · have := hlt b (hin b hb); omega
      · exact absurd (hab ▸ ha) (hdis b (hin b hb))
  · refine List.pairwise_append.2 ⟨h'.apart, hp.2.1, fun e he e' he' b hb hb' => ?_⟩
    exact hnew b (mem_blks.2 ⟨e, he, hb⟩) (mem_blks.2 ⟨e', he', hb'⟩)
  · intro k hk hn
    rw [blks_append] at hn
    exact x.block k hk fun hm => hn (List.mem_append.2 (.inl hm))
  · intro k hk
    rw [blks_append] at hk ⊢
    rcases List.mem_append.1 hk with hk | hk
    · exact (x.own k hk).imp (fun h => List.mem_append.2 (.inl h)) id
    · exact .inl (List.mem_append.2 (.inr hk))
  · intro a v hv
    rw [blks_append]
    rcases x.new a v hv with h | h | h
    · exact .inl h
    · exact .inr (.inl h)
    · exact .inr (.inr (List.mem_append.2 (.inl h)))

/-- The order of entries does not matter. -/
theorem St.perm {R : RO} {w : World} {σ τ : Store} (h : St R w σ) (hp : σ.Perm τ) : St R w τ :=
  ⟨h.ro, fun e he => h.ents e (hp.mem_iff.2 he), hp.pairwise h.apart (fun {x y} hxy b hb hb' => hxy b hb' hb)⟩

/-! ### How a call ends -/
inductive AEnd where
  | ret (u : AV)
  | pan (u : AV)
def EndR (R : RO) : Ending → AEnd → Prop
  | .returned v, .ret u => VR R v u
  | .panicked chain, .pan u => ∃ v, chain = [{ v, recovered := false }] ∧ VR R v u
  | _, _ => False

def HasBody (P : Program) (f : FuncId) : Prop := ∃ fn c, P.funcs[f]? = some fn ∧ fn.body = some c ∧ (fn.name == "runtime.NumGoroutine") = false

/-- A call, told of abstract states. -/
def ACalls (P : Program) (f : FuncId) (args : List AV) (σ : Store) (Q : AEnd → Store → Prop) : Prop :=
  HasBody P f ∧ ∀ R w vs, VRs R vs args → St R w σ →
    Calls P f (List.toArray vs) w fun e w' => ∃ x R' σ', EndR R' e x ∧ Q x σ' ∧ St R' w' σ' ∧ Ext R w σ R' w' σ'

theorem ACalls.mono {P : Program} {f : FuncId} {args : List AV} {σ : Store} {Q Q' : AEnd → Store → Prop} (h : ACalls P f args σ Q) (hq : ∀ x σ', Q x σ' → Q' x σ') : ACalls P f args σ Q' :=
  ⟨h.1, fun R w vs hv hs => (h.2 R w vs hv hs).mono fun e w' ⟨x, R', σ', h1, h2, h3⟩ => ⟨x, R', σ', h1, hq _ _ h2, h3⟩⟩

theorem ACalls.frame {P : Program} {f : FuncId} {args : List AV} {σ : Store} {Q : AEnd → Store → Prop} (h : ACalls P f args σ Q) (τ : Store) :
    ACalls P f args (σ ++ τ) fun x σ' => ∃ σ1, σ' = σ1 ++ τ ∧ (∀ b ∈ blks σ1, b ∉ blks τ) ∧ Q x σ1 := by
  refine ⟨h.1, fun R w vs hv hs => (h.2 R w vs hv (hs.sub (List.sublist_append_left _ _))).mono ?_⟩
  rintro e w' ⟨x, R', σ', h1, h2, h3, h4⟩
  obtain ⟨g1, g2, g3⟩ := hs.frame h3 h4
  exact ⟨x, R', σ' ++ τ, h1, ⟨σ', rfl, g3, h2⟩, g1, g2⟩

/-- A call that needs no store of its own, and leaves none. -/
theorem ACalls.pure {P : Program} {f : FuncId} {args : List AV} {Q : AEnd → Prop} (h : ACalls P f args [] fun x σ' => Q x ∧ σ' = []) (τ : Store) : ACalls P f args τ fun x σ' => Q x ∧ σ' = τ :=
  (h.frame τ).mono fun x σ' ⟨σ1, e, _, hq, h0⟩ => ⟨hq, by rw [e, h0]; rfl⟩

theorem ACalls.perm {P : Program} {f : FuncId} {args : List AV} {σ τ : Store} {Q : AEnd → Store → Prop} (h : ACalls P f args σ Q) (hp : σ.Perm τ) : ACalls P f args τ Q := by
  refine ⟨h.1, fun R w vs hv hs => (h.2 R w vs hv (hs.perm hp.symm)).mono ?_⟩
  rintro e w' ⟨x, R', σ', h1, h2, h3, h4⟩
  have hb : ∀ k, k ∈ blks σ ↔ k ∈ blks τ := fun k => (hp.filterMap Ent.blk).mem_iff
  exact ⟨x, R', σ', h1, h2, h3, ⟨h4.ro, h4.os, h4.tape, h4.output, h4.size, fun k hk hn => h4.block k hk (fun h => hn ((hb k).1 h)), fun k hk => (h4.own k hk).imp (hb k).1 id,
    fun a v hv => (h4.new a v hv).imp id (Or.imp id (hb _).1)⟩⟩

end Go.Ab
