/- The texts that this claim needs, part 1: a logic over abstract values, its steps, what the functions do. No condition of its own. -/
import Derived.OwnWalk
import Derived.Below
import Derived.Scope
import Derived.Orders
import Derived.Laws.Tables
import Derived.Laws.Slices
import Derived.Laws.Cells
import Derived.Laws.Build
import Derived.Lib.ConvBytes
import Derived.Laws.BytesArg
import Derived.Laws.CopyRow
import Derived.Laws.MakeOwn
import Derived.Laws.AppendOwn
import Derived.Maps.AppendAt
import Derived.Lib.AppendStr
set_option linter.unusedVariables false
set_option linter.unusedSimpArgs false
namespace Go.Ab

abbrev RO := Addr → Option Value

inductive SM where
 | ro | full | nil
 deriving DecidableEq, Inhabited

def SMok : SM → Option Addr → Nat → Nat → Prop
 | .ro, _, n, cap => n ≤ cap
 | .full, _, n, cap => cap = n
 | .nil, ao, n, cap => ao = none ∧ n = 0 ∧ cap = 0

inductive AV where
 | undef
 | val (v : Value)
 | lst (sz : Nat) (l : List AV) (m : SM)
 | rptr (cs : List AV)
 | own (v : Value) (n : Nat)
 | eptr (v : Value) (sz i j : Nat)
 /-- a part of a growable row: from element a on, n of them -/
 | sub (v : Value) (sz a n : Nat)
 | agg (cs : List AV)
 | tuple (vs : List AV)
 | fn (f : Fn) (first captured : List AV)
 | ifc (t : TypeId) (v : AV)
 deriving Inhabited

def AV.cells : AV → List AV
 | .agg cs => cs
 | u => [u]
def AV.one : AV → Bool
 | .val v => v.oneCell'
 | .undef => false
 | .agg _ => false
 | .tuple _ => false
 | _ => true
def ofV : Value → AV
 | .agg cs => .agg (cs.toList.map .val)
 | v => .val v
def flat (l : List AV) : List AV := l.flatMap AV.cells

def RowV (v : Value) (n : Nat) : Prop := (v = .slice none 0 0 ∧ n = 0) ∨ ∃ g cap, v = .slice (some ⟨g, 0, none⟩) n cap ∧ n ≤ cap
def SubOf (v : Value) (sz a n : Nat) (x : Value) : Prop := (v = .slice none 0 0 ∧ a = 0 ∧ n = 0 ∧ x = .slice none 0 0) ∨
 ∃ g n0 cap p, v = .slice (some ⟨g, 0, none⟩) n0 cap ∧ a + n ≤ cap ∧ (a < cap → p = ⟨g, a * sz, none⟩) ∧ x = .slice (some p) n (cap - a)
inductive VR (R : RO) : Value → AV → Prop
 | undef (v : Value) : VR R v .undef
 | val (v : Value) : VR R v (.val v)
 | own {v : Value} {n : Nat} (h : RowV v n) : VR R v (.own v n)
 | lst {ao : Option Addr} {n cap : Nat} {l : List AV} {m : SM} {sz : Nat} (vs : List Value) (hn : l.length = n) (hz : 0 < sz) (hsz : ∀ e ∈ l, e.cells.length = sz) (hl : vs.length = (flat l).length)
   (hv : ∀ (j : Nat) (u : AV) (v : Value), (flat l)[j]? = some u → vs[j]? = some v → VR R v u)
   (hR : l ≠ [] → ∃ a, ao = some a ∧ ∀ (j : Nat) (v : Value), vs[j]? = some v → R (a.add j) = some v)
   (hm : SMok m ao n cap) (hb : n ≤ maxLen) (hone : ∀ v ∈ vs, v.oneCell' = true) : VR R (.slice ao n cap) (.lst sz l m)
 | rptr {a : Addr} {cs : List AV} (vs : List Value) (hl : vs.length = cs.length) (hv : ∀ (j : Nat) (u : AV) (v : Value), cs[j]? = some u → vs[j]? = some v → VR R v u)
   (hR : ∀ (j : Nat) (v : Value), vs[j]? = some v → R (a.add j) = some v) : VR R (.pointer (some a)) (.rptr cs)
 | sub {v x : Value} {sz a n : Nat} (h : SubOf v sz a n x) : VR R x (.sub v sz a n)
 | eptr {g n cap sz i j : Nat} : VR R (.pointer (some ⟨g, i * sz + j, none⟩)) (.eptr (.slice (some ⟨g, 0, none⟩) n cap) sz i j)
 | agg {vs : Array Value} {cs : List AV} (hl : vs.toList.length = cs.length) (hv : ∀ (j : Nat) (u : AV) (v : Value), cs[j]? = some u → vs.toList[j]? = some v → VR R v u) : VR R (.agg vs) (.agg cs)
 | tuple {vs : Array Value} {cs : List AV} (hl : vs.toList.length = cs.length) (hv : ∀ (j : Nat) (u : AV) (v : Value), cs[j]? = some u → vs.toList[j]? = some v → VR R v u) : VR R (.tuple vs) (.tuple cs)
 | fn {f : Fn} {fs cs : Array Value} {us ws : List AV} (hl : fs.toList.length = us.length) (hv : ∀ (j : Nat) (u : AV) (v : Value), us[j]? = some u → fs.toList[j]? = some v → VR R v u)
   (hl' : cs.toList.length = ws.length) (hv' : ∀ (j : Nat) (u : AV) (v : Value), ws[j]? = some u → cs.toList[j]? = some v → VR R v u) : VR R (.func f fs cs) (.fn f us ws)
 | ifc {t : TypeId} {v : Value} {u : AV} (h : VR R v u) : VR R (.iface t v) (.ifc t u)

abbrev RO.le (R R' : RO) : Prop := ∀ a v, R a = some v → R' a = some v

theorem VR.mono {R R' : RO} (hR : R.le R') {v : Value} {u : AV} (h : VR R v u) : VR R' v u := by
 induction h with
 | undef v => exact .undef v
 | val v => exact .val v
 | own h => exact .own h
 | lst vs hn hz hsz hl hv hr hm hb hone ih =>
  refine .lst vs hn hz hsz hl ih (fun hne => ?_) hm hb hone
  obtain ⟨a, e, h⟩ := hr hne
  exact ⟨a, e, fun j v hj => hR _ _ (h j v hj)⟩
 | rptr vs hl hv hr ih => exact .rptr vs hl ih fun j v hj => hR _ _ (hr j v hj)
 | eptr => exact .eptr
 | sub h => exact .sub h
 | agg hl hv ih => exact .agg hl ih
 | tuple hl hv ih => exact .tuple hl ih
 | fn hl hv hl' hv' ih ih' => exact .fn hl ih hl' ih'
 | ifc h ih => exact .ifc ih

def VRs (R : RO) (vs : List Value) (us : List AV) : Prop := vs.length = us.length ∧ ∀ (j : Nat) (u : AV) (v : Value), us[j]? = some u → vs[j]? = some v → VR R v u
theorem VRs.mono {R R' : RO} (hR : R.le R') {vs : List Value} {us : List AV} (h : VRs R vs us) : VRs R' vs us := ⟨h.1, fun j u v hu hv => (h.2 j u v hu hv).mono hR⟩
theorem VRs.nil (R : RO) : VRs R [] [] := ⟨rfl, by simp⟩
theorem VRs.cons {R : RO} {v : Value} {u : AV} {vs : List Value} {us : List AV} (h : VR R v u) (hs : VRs R vs us) : VRs R (v :: vs) (u :: us) := by
 refine ⟨by simp [hs.1], fun j x y hx hy => ?_⟩
 cases j with
 | zero => simp at hx hy; subst hx; subst hy; exact h
 | succ j => exact hs.2 j x y (by simpa using hx) (by simpa using hy)
theorem VRs.append {R : RO} {vs ws : List Value} {us xs : List AV} (h : VRs R vs us) (k : VRs R ws xs) : VRs R (vs ++ ws) (us ++ xs) := by
 refine ⟨by simp [h.1, k.1], fun j x y hx hy => ?_⟩
 rcases Nat.lt_or_ge j vs.length with hj | hj
 ·rw [List.getElem?_append_left hj] at hy
  rw [List.getElem?_append_left (by rw [← h.1]; exact hj)] at hx
  exact h.2 j x y hx hy
 ·rw [List.getElem?_append_right hj] at hy
  rw [List.getElem?_append_right (by rw [← h.1]; exact hj), ← h.1] at hx
  exact k.2 _ x y hx hy
theorem VRs.drop {R : RO} {vs : List Value} {us : List AV} (h : VRs R vs us) (n : Nat) : VRs R (vs.drop n) (us.drop n) :=
 ⟨by simp [h.1], fun j x y hx hy => h.2 (n + j) x y (by simpa using hx) (by simpa using hy)⟩
theorem VRs.take {R : RO} {vs : List Value} {us : List AV} (h : VRs R vs us) (n : Nat) : VRs R (vs.take n) (us.take n) := by
 refine ⟨by simp [h.1], fun j x y hx hy => ?_⟩
 rw [List.getElem?_take] at hx hy
 split at hx
 ·rename_i hj
  rw [if_pos hj] at hy
  exact h.2 j x y hx hy
 ·cases hx
theorem VRs.set {R : RO} {vs : List Value} {us : List AV} (h : VRs R vs us) (n : Nat) {v : Value} {u : AV} (hv : VR R v u) : VRs R (vs.set n v) (us.set n u) := by
 refine ⟨by simp [h.1], fun j x y hx hy => ?_⟩
 rw [List.getElem?_set] at hx hy
 by_cases hj : n = j
 ·subst hj
  rw [if_pos rfl] at hx hy
  split at hx
  ·split at hy
   ·cases hx; cases hy; exact hv
   ·cases hy
  ·cases hx
 ·rw [if_neg hj] at hx hy
  exact h.2 j x y hx hy
theorem VRs.get {R : RO} {vs : List Value} {us : List AV} (h : VRs R vs us) {j : Nat} {u : AV} (hu : us[j]? = some u) : ∃ v, vs[j]? = some v ∧ VR R v u := by
 have hj : j < us.length := (List.getElem?_eq_some_iff.1 hu).1
 have hj' : j < vs.length := by rw [h.1]; exact hj
 exact ⟨vs[j], List.getElem?_eq_getElem hj', h.2 j u _ hu (List.getElem?_eq_getElem hj')⟩
theorem VRs.toVals {R : RO} {vs : List Value} {xs : List Value} (h : VRs R vs (xs.map .val)) : vs = xs := by
 apply List.ext_getElem?
 intro j
 rcases Nat.lt_or_ge j xs.length with hj | hj
 ·have hx : (xs.map AV.val)[j]? = some (.val xs[j]) := by simp [hj]
  obtain ⟨v, hv, hr⟩ := h.get hx
  rw [hv, List.getElem?_eq_getElem hj]
  cases hr
  rfl
 ·rw [List.getElem?_eq_none hj, List.getElem?_eq_none]
  have := h.1
  simp at this
  omega
theorem VRs.ofVals (R : RO) (xs : List Value) : VRs R xs (xs.map .val) := by
 refine ⟨by simp, fun j u v hu hv => ?_⟩
 simp [hv] at hu
 subst hu
 exact .val v

theorem VR.agg' {R : RO} {vs : List Value} {cs : List AV} (h : VRs R vs cs) : VR R (.agg vs.toArray) (.agg cs) := .agg (by simpa using h.1) (by simpa using h.2)
theorem VR.tuple' {R : RO} {vs : List Value} {cs : List AV} (h : VRs R vs cs) : VR R (.tuple vs.toArray) (.tuple cs) := .tuple (by simpa using h.1) (by simpa using h.2)
theorem VR.agg_inv {R : RO} {v : Value} {cs : List AV} (h : VR R v (.agg cs)) : ∃ vs, v = .agg (List.toArray vs) ∧ VRs R vs cs := by
 cases h with
 | agg hl hv => exact ⟨_, by simp, hl, hv⟩
theorem VR.tuple_inv {R : RO} {v : Value} {cs : List AV} (h : VR R v (.tuple cs)) : ∃ vs, v = .tuple (List.toArray vs) ∧ VRs R vs cs := by
 cases h with
 | tuple hl hv => exact ⟨_, by simp, hl, hv⟩
theorem VR.val_inv {R : RO} {v x : Value} (h : VR R v (.val x)) : v = x := by cases h; rfl
theorem VR.sub_inv {R : RO} {x v : Value} {sz a n : Nat} (h : VR R x (.sub v sz a n)) : SubOf v sz a n x := by cases h; assumption
theorem VR.own_inv {R : RO} {v x : Value} {n : Nat} (h : VR R v (.own x n)) : v = x ∧ RowV x n := by cases h; exact ⟨rfl, by assumption⟩

inductive Ent where
 | row (v : Value) (E : TypeId) (sz : Nat) (l : List AV) (fl : Nat)
 | var (b : Nat) (t : TypeId) (cs : List AV)
 /-- a map: when each entry was born, its key, its element; the clock -/
 | map (b : Nat) (l : List (Nat × Value × AV)) (clock : Nat)
 /-- a walk over a map -/
 | iter (b mb since : Nat) (seen : List Nat) (stepped : Nat)
abbrev Store := List Ent
def Ent.blk : Ent → Option Nat
 | .row v _ _ _ _ => v.ownBlock
 | .var b _ _ => some b
 | .map b _ _ => some b
 | .iter b _ _ _ _ => some b
def blks (σ : Store) : List Nat := σ.filterMap Ent.blk

def fzOk (fz : Nat × Nat) (size n : Nat) : Prop := fz = (0, 0) ∨ (size = 1 ∧ n ≤ fz.1)
def rowM (w : World) (base : Nat) (e : TypeId) (size : Nat) (v : Value) (n : Nat) (xs : List Value) : Prop :=
  xs.length = n * size ∧
  ((v = .slice none 0 0 ∧ n = 0) ∨
   ∃ g cap cur, v = .slice (some ⟨g, 0, none⟩) n cap ∧ base ≤ g ∧ (∃ fz, fzOk fz size cur.size ∧ w.heap[g]? = some (.cells cur e fz)) ∧ n ≤ cap ∧ cap ≤ maxLen ∧ cur.size = cap * size ∧ cur.toList.take (n * size) = xs)
theorem rowM.of {w : World} {base : Nat} {e : TypeId} {size : Nat} {v : Value} {n : Nat} {xs : List Value} (h : w.ownsRow base e size v n xs) : rowM w base e size v n xs := by
 refine ⟨h.1, ?_⟩
 rcases h.2 with hn | ⟨g, cap, cur, h1, h2, h3, r⟩
 ·exact .inl hn
 ·exact .inr ⟨g, cap, cur, h1, h2, ⟨(0, 0), .inl rfl, h3⟩, r⟩
theorem rowM.plain {w : World} {base : Nat} {e : TypeId} {size : Nat} {v : Value} {n : Nat} {xs : List Value} (h : rowM w base e size v n xs) (hs : size ≠ 1) : w.ownsRow base e size v n xs := by
 refine ⟨h.1, ?_⟩
 rcases h.2 with hn | ⟨g, cap, cur, h1, h2, ⟨fz, hz, h3⟩, r⟩
 ·exact .inl hn
 ·rcases hz with rfl | hz
  ·exact .inr ⟨g, cap, cur, h1, h2, h3, r⟩
  ·exact absurd hz.1 hs
theorem rowM.lt {w : World} {base : Nat} {e : TypeId} {size : Nat} {v : Value} {n : Nat} {xs : List Value} (h : rowM w base e size v n xs) : ∀ k, v.ownBlock = some k → base ≤ k ∧ k < w.heap.size := by
 intro k hk
 rcases h.2 with ⟨rfl, _⟩ | ⟨g, cap, cur, rfl, hb, ⟨fz, _, hg⟩, _⟩
 ·simp [Value.ownBlock] at hk
 ·simp [Value.ownBlock] at hk
  subst hk
  exact ⟨hb, (Array.getElem?_eq_some_iff.1 hg).1⟩
theorem rowM.cells {w : World} {base : Nat} {e : TypeId} {size : Nat} {v : Value} {n : Nat} {xs : List Value} (h : rowM w base e size v n xs) {g : Nat} (hg : v.ownBlock = some g) : ∀ (j : Nat) (u : Value), xs[j]? = some u → w.cell? ((⟨g, 0, none⟩ : Addr).add j) = some u := by
 intro j u hu
 rcases h.2 with ⟨rfl, _⟩ | ⟨g', cap, cur, rfl, _, ⟨fz, _, hgg⟩, _, _, _, htake⟩
 ·simp [Value.ownBlock] at hg
 ·simp [Value.ownBlock] at hg
  subst hg
  have hadd : (⟨g', 0, none⟩ : Addr).add j = ⟨g', j, none⟩ := by unfold Addr.add; split <;> simp_all
  rw [hadd, cell_of_row w g' j cur e fz hgg]
  rw [← htake, List.getElem?_take] at hu
  split at hu
  ·simpa using hu
  ·cases hu
def EntOk (R : RO) (w : World) : Ent → Prop
 | .row v E sz l fl => 0 < sz ∧ (∀ e ∈ l, e.cells.length = sz) ∧ (∃ vs, rowM w 0 E sz v l.length vs ∧ VRs R vs (flat l) ∧ ∀ v ∈ vs, v.oneCell' = true) ∧ l.length ≤ maxLen ∧
   ∀ a x, R a = some x → v.ownBlock = some a.block → a.off < fl * sz ∧ fl ≤ l.length
 | .var b t cs => (∃ vs, w.heap[b]? = some (.cells (List.toArray vs) t (0, 0)) ∧ VRs R vs cs ∧ ∀ v ∈ vs, v.oneCell' = true) ∧ ∀ a x, R a = some x → a.block ≠ b
 | .map b l clock => (∃ es : Array MapEntry, w.heap[b]? = some (.map es clock) ∧ es.toList.length = l.length ∧ (∀ (i : Nat) (e : MapEntry) (x : Nat × Value × AV), es.toList[i]? = some e → l[i]? = some x → e.born = x.1 ∧ e.key = x.2.1 ∧ VR R e.val x.2.2)) ∧
   (∀ x ∈ l, x.1 < clock) ∧ (l.map (·.1)).Nodup ∧ ∀ a x, R a = some x → a.block ≠ b
 | .iter b mb since seen stepped => w.heap[b]? = some (.mapIter (some mb) since seen.toArray stepped) ∧ ∀ a x, R a = some x → a.block ≠ b

structure St (R : RO) (w : World) (σ : Store) : Prop where
 ro : ∀ a v, R a = some v → w.cell? a = some v
 ents : ∀ e ∈ σ, EntOk R w e
 apart : σ.Pairwise fun e e' => ∀ b, e.blk = some b → e'.blk ≠ some b

structure Ext (R : RO) (w : World) (σ : Store) (R' : RO) (w' : World) (σ' : Store) : Prop where
 ro : ∀ a v, R a = some v → R' a = some v
 os : w'.os = w.os
 tape : w'.tape = w.tape
 output : w'.output = w.output
 size : w.heap.size ≤ w'.heap.size
 block : ∀ k, k < w.heap.size → k ∉ blks σ → w'.heap[k]? = w.heap[k]?
 own : ∀ k ∈ blks σ', k ∈ blks σ ∨ w.heap.size ≤ k
 new : ∀ a v, R' a = some v → R a = some v ∨ w.heap.size ≤ a.block ∨ a.block ∈ blks σ

theorem Ext.refl (R : RO) (w : World) (σ : Store) : Ext R w σ R w σ :=
 ⟨fun _ _ h => h, rfl, rfl, rfl, Nat.le_refl _, fun _ _ _ => rfl, fun _ h => .inl h, fun _ _ h => .inl h⟩
theorem Ext.trans {R R1 R2 : RO} {w w1 w2 : World} {σ σ1 σ2 : Store} (h : Ext R w σ R1 w1 σ1) (k : Ext R1 w1 σ1 R2 w2 σ2) : Ext R w σ R2 w2 σ2 := by
 refine ⟨fun a v hv => k.ro _ _ (h.ro _ _ hv), k.os.trans h.os, k.tape.trans h.tape, k.output.trans h.output, Nat.le_trans h.size k.size, ?_, ?_, ?_⟩
 ·intro b hb hn
  rw [k.block b (Nat.lt_of_lt_of_le hb h.size) fun hm => (h.own b hm).elim hn (by omega), h.block b hb hn]
 ·intro b hb
  rcases k.own b hb with hb | hb
  ·exact h.own b hb
  ·exact .inr (Nat.le_trans h.size hb)
 ·intro a v hv
  rcases k.new a v hv with hv | hb | hb
  ·exact h.new a v hv
  ·exact .inr (.inl (Nat.le_trans h.size hb))
  ·rcases h.own _ hb with hb | hb
   ·exact .inr (.inr hb)
   ·exact .inr (.inl hb)

def Sub (σ : Store) (args : List AV) (σ1 : Store) (args1 : List AV) : Prop := ∀ R w vs, VRs R vs args → St R w σ → ∃ R', VRs R' vs args1 ∧ St R' w σ1 ∧ Ext R w σ R' w σ1
theorem Sub.refl (σ : Store) (args : List AV) : Sub σ args σ args := fun R w vs h hs => ⟨R, h, hs, Ext.refl _ _ _⟩
theorem Sub.trans {σ σ1 σ2 : Store} {a a1 a2 : List AV} (h : Sub σ a σ1 a1) (k : Sub σ1 a1 σ2 a2) : Sub σ a σ2 a2 := fun R w vs hv hs => by
 obtain ⟨R1, h1, h2, h3⟩ := h R w vs hv hs
 obtain ⟨R2, k1, k2, k3⟩ := k R1 w vs h1 h2
 exact ⟨R2, k1, k2, h3.trans k3⟩

theorem mem_blks {σ : Store} {b : Nat} : b ∈ blks σ ↔ ∃ e ∈ σ, e.blk = some b := by simp [blks, List.mem_filterMap]
theorem blks_append (σ τ : Store) : blks (σ ++ τ) = blks σ ++ blks τ := by simp [blks]

theorem ownsRow_block {w w' : World} {base : Nat} {e : TypeId} {size : Nat} {v : Value} {n : Nat} {xs : List Value} (h : rowM w base e size v n xs) (hb : ∀ b, v.ownBlock = some b → w'.heap[b]? = w.heap[b]?) : rowM w' base e size v n xs := by
 refine ⟨h.1, ?_⟩
 rcases h.2 with hn | ⟨g, cap, cur, rfl, hg, ⟨fz, hz, hh⟩, r⟩
 ·exact .inl hn
 ·exact .inr ⟨g, cap, cur, rfl, hg, ⟨fz, hz, by rw [hb g rfl]; exact hh⟩, r⟩

theorem EntOk.keep {R R' : RO} {w w' : World} {e : Ent} (h : EntOk R w e) (hR : R.le R') (hb : ∀ b, e.blk = some b → w'.heap[b]? = w.heap[b]?)
  (hn : ∀ b, e.blk = some b → ∀ a x, R' a = some x → a.block = b → R a = some x) : EntOk R' w' e := by
 cases e with
 | row v E sz l fl =>
  obtain ⟨h1, h2, ⟨vs, h3, h4, h7⟩, h5, h6⟩ := h
  exact ⟨h1, h2, ⟨vs, ownsRow_block h3 hb, h4.mono hR, h7⟩, h5, fun a x ha hv => h6 a x (hn a.block hv a x ha rfl) hv⟩
 | var b t cs =>
  obtain ⟨⟨vs, h1, h2, h4⟩, h3⟩ := h
  exact ⟨⟨vs, by rw [hb b rfl]; exact h1, h2.mono hR, h4⟩, fun a x ha hv => h3 a x (hn b rfl a x ha hv) hv⟩
 | map b l clock =>
  obtain ⟨⟨es, h1, h2, h3⟩, h4, h5, h6⟩ := h
  exact ⟨⟨es, by rw [hb b rfl]; exact h1, h2, fun i e x hi hx => ⟨(h3 i e x hi hx).1, (h3 i e x hi hx).2.1, (h3 i e x hi hx).2.2.mono hR⟩⟩, h4, h5, fun a x ha hv => h6 a x (hn b rfl a x ha hv) hv⟩
 | iter b mb since seen stepped =>
  obtain ⟨h1, h2⟩ := h
  exact ⟨by rw [hb b rfl]; exact h1, fun a x ha hv => h2 a x (hn b rfl a x ha hv) hv⟩

theorem EntOk.lt {R : RO} {w : World} {e : Ent} (h : EntOk R w e) {b : Nat} (hb : e.blk = some b) : b < w.heap.size := by
 cases e with
 | row v E sz l fl => obtain ⟨h1, h2, ⟨vs, h3, h4⟩, h5, h6⟩ := h; exact (h3.lt b hb).2
 | var b' t cs =>
  obtain ⟨⟨vs, h1, h2⟩, h3⟩ := h
  simp only [Ent.blk, Option.some.injEq] at hb
  subst hb
  exact (Array.getElem?_eq_some_iff.1 h1).1
 | map b' l clock =>
  obtain ⟨⟨es, h1, _⟩, _⟩ := h
  simp only [Ent.blk, Option.some.injEq] at hb
  subst hb
  exact (Array.getElem?_eq_some_iff.1 h1).1
 | iter b' mb since seen stepped =>
  obtain ⟨h1, _⟩ := h
  simp only [Ent.blk, Option.some.injEq] at hb
  subst hb
  exact (Array.getElem?_eq_some_iff.1 h1).1

theorem St.lt {R : RO} {w : World} {σ : Store} (h : St R w σ) {b : Nat} (hb : b ∈ blks σ) : b < w.heap.size := by
 obtain ⟨e, he, hb⟩ := mem_blks.1 hb
 exact (h.ents e he).lt hb
theorem St.roLt {R : RO} {w : World} {σ : Store} (h : St R w σ) {a : Addr} {v : Value} (ha : R a = some v) : a.block < w.heap.size := World.block_lt_of_cell? w a (h.ro a v ha)

theorem St.sub {R : RO} {w : World} {σ τ : Store} (h : St R w σ) (hs : τ.Sublist σ) : St R w τ := ⟨h.ro, fun e he => h.ents e (hs.subset he), h.apart.sublist hs⟩
theorem Ext.sub {R : RO} {w : World} {σ τ : Store} (hs : τ.Sublist σ) : Ext R w σ R w τ :=
 ⟨fun _ _ h => h, rfl, rfl, rfl, Nat.le_refl _, fun _ _ _ => rfl, fun k hk => .inl (by
  obtain ⟨e, he, hb⟩ := mem_blks.1 hk
  exact mem_blks.2 ⟨e, hs.subset he, hb⟩), fun _ _ h => .inl h⟩

theorem St.frame {R R' : RO} {w w' : World} {σ τ σ' : Store} (h : St R w (σ ++ τ)) (h' : St R' w' σ') (x : Ext R w σ R' w' σ') :
  St R' w' (σ' ++ τ) ∧ Ext R w (σ ++ τ) R' w' (σ' ++ τ) ∧ ∀ b ∈ blks σ', b ∉ blks τ := by
 have hp := List.pairwise_append.1 h.apart
 have hdis : ∀ b ∈ blks τ, b ∉ blks σ := by
  intro b hb hb'
  obtain ⟨e, he, hb⟩ := mem_blks.1 hb
  obtain ⟨e', he', hb'⟩ := mem_blks.1 hb'
  exact hp.2.2 e' he' e he b hb' hb
 have hlt : ∀ b ∈ blks τ, b < w.heap.size := fun b hb => h.lt (by rw [blks_append]; exact List.mem_append.2 (.inr hb))
 have hnew : ∀ b ∈ blks σ', b ∉ blks τ := by
  intro b hb hb'
  rcases x.own b hb with hb | hb
  ·exact hdis b hb' hb
  ·have := hlt b hb'; omega
 refine ⟨⟨h'.ro, ?_, ?_⟩, ⟨x.ro, x.os, x.tape, x.output, x.size, ?_, ?_, ?_⟩, hnew⟩
 ·intro e he
  rcases List.mem_append.1 he with he | he
  ·exact h'.ents e he
  ·have hin : ∀ b, e.blk = some b → b ∈ blks τ := fun b hb => mem_blks.2 ⟨e, he, hb⟩
   refine (h.ents e (List.mem_append.2 (.inr he))).keep x.ro (fun b hb => x.block b (hlt b (hin b hb)) (hdis b (hin b hb))) fun b hb a v ha hab => ?_
   rcases x.new a v ha with ha | ha | ha
   ·exact ha
   ·have := hlt b (hin b hb); omega
   ·exact absurd (hab ▸ ha) (hdis b (hin b hb))
 ·refine List.pairwise_append.2 ⟨h'.apart, hp.2.1, fun e he e' he' b hb hb' => ?_⟩
  exact hnew b (mem_blks.2 ⟨e, he, hb⟩) (mem_blks.2 ⟨e', he', hb'⟩)
 ·intro k hk hn
  rw [blks_append] at hn
  exact x.block k hk fun hm => hn (List.mem_append.2 (.inl hm))
 ·intro k hk
  rw [blks_append] at hk ⊢
  rcases List.mem_append.1 hk with hk | hk
  ·exact (x.own k hk).imp (fun h => List.mem_append.2 (.inl h)) id
  ·exact .inl (List.mem_append.2 (.inr hk))
 ·intro a v hv
  rw [blks_append]
  rcases x.new a v hv with h | h | h
  ·exact .inl h
  ·exact .inr (.inl h)
  ·exact .inr (.inr (List.mem_append.2 (.inl h)))

theorem St.perm {R : RO} {w : World} {σ τ : Store} (h : St R w σ) (hp : σ.Perm τ) : St R w τ :=
 ⟨h.ro, fun e he => h.ents e (hp.mem_iff.2 he), hp.pairwise h.apart (fun {x y} hxy b hb hb' => hxy b hb' hb)⟩

inductive AEnd where
 | ret (u : AV)
 | pan (u : AV)
def EndR (R : RO) : Ending → AEnd → Prop
 | .returned v, .ret u => VR R v u
 | .panicked chain, .pan u => ∃ v, chain = [{ v, recovered := false }] ∧ VR R v u
 | _, _ => False

def HasBody (P : Program) (f : FuncId) : Prop := ∃ fn c, P.funcs[f]? = some fn ∧ fn.body = some c ∧ (fn.name == "runtime.NumGoroutine") = false

def ACalls (P : Program) (f : FuncId) (args : List AV) (σ : Store) (Q : AEnd → Store → Prop) : Prop :=
 HasBody P f ∧ ∀ R w vs, VRs R vs args → St R w σ →
  Calls P f (List.toArray vs) w fun e w' => ∃ x R' σ', EndR R' e x ∧ Q x σ' ∧ St R' w' σ' ∧ Ext R w σ R' w' σ'

theorem ACalls.mono {P : Program} {f : FuncId} {args : List AV} {σ : Store} {Q Q' : AEnd → Store → Prop} (h : ACalls P f args σ Q) (hq : ∀ x σ', Q x σ' → Q' x σ') : ACalls P f args σ Q' :=
 ⟨h.1, fun R w vs hv hs => (h.2 R w vs hv hs).mono fun e w' ⟨x, R', σ', h1, h2, h3⟩ => ⟨x, R', σ', h1, hq _ _ h2, h3⟩⟩

theorem ACalls.frame {P : Program} {f : FuncId} {args : List AV} {σ : Store} {Q : AEnd → Store → Prop} (h : ACalls P f args σ Q) (τ : Store) :
  ACalls P f args (σ ++ τ) fun x σ' => ∃ σ1, σ' = σ1 ++ τ ∧ (∀ b ∈ blks σ1, b ∉ blks τ) ∧ Q x σ1 := by
 refine ⟨h.1, fun R w vs hv hs => (h.2 R w vs hv (hs.sub (List.sublist_append_left _ _))).mono ?_⟩
 rintro e w' ⟨x, R', σ', h1, h2, h3, h4⟩
 obtain ⟨g1, g2, g3⟩ := hs.frame h3 h4
 exact ⟨x, R', σ' ++ τ, h1, ⟨σ', rfl, g3, h2⟩, g1, g2⟩

theorem ACalls.pure {P : Program} {f : FuncId} {args : List AV} {Q : AEnd → Prop} (h : ACalls P f args [] fun x σ' => Q x ∧ σ' = []) (τ : Store) : ACalls P f args τ fun x σ' => Q x ∧ σ' = τ :=
 (h.frame τ).mono fun x σ' ⟨σ1, e, _, hq, h0⟩ => ⟨hq, by rw [e, h0]; rfl⟩

theorem ACalls.perm {P : Program} {f : FuncId} {args : List AV} {σ τ : Store} {Q : AEnd → Store → Prop} (h : ACalls P f args σ Q) (hp : σ.Perm τ) : ACalls P f args τ Q := by
 refine ⟨h.1, fun R w vs hv hs => (h.2 R w vs hv (hs.perm hp.symm)).mono ?_⟩
 rintro e w' ⟨x, R', σ', h1, h2, h3, h4⟩
 have hb : ∀ k, k ∈ blks σ ↔ k ∈ blks τ := fun k => (hp.filterMap Ent.blk).mem_iff
 exact ⟨x, R', σ', h1, h2, h3, ⟨h4.ro, h4.os, h4.tape, h4.output, h4.size, fun k hk hn => h4.block k hk (fun h => hn ((hb k).1 h)), fun k hk => (h4.own k hk).imp (hb k).1 id,
  fun a v hv => (h4.new a v hv).imp id (Or.imp id (hb _).1)⟩⟩

end Go.Ab

namespace Go.Ab

inductive AX where
 | norm | exit (id : Nat) | ret | pan (u : AV)
def EXR (R : RO) : Exit → AX → Prop
 | .normal, .norm => True
 | .exit i, .exit j => i = j
 | .ret, .ret => True
 | .panic chain, .pan u => ∃ v, chain = [{ v, recovered := false }] ∧ VR R v u
 | _, _ => False

abbrev Fr := Nat → AV
def upd (fr : Fr) (d : Nat) (u : AV) : Fr := fun j => bif Nat.beq j d then u else fr j
def updo (fr : Fr) : Option Nat → AV → Fr
 | none, _ => fr
 | some d, u => upd fr d u
theorem upd_same (fr : Fr) (d : Nat) (u : AV) : upd fr d u d = u := by simp [upd]
theorem upd_other (fr : Fr) {d j : Nat} (u : AV) (h : j ≠ d) : upd fr d u j = fr j := by
 have hb : Nat.beq j d = false := by
  cases hb : Nat.beq j d with
  | false => rfl
  | true => exact absurd (Nat.eq_of_beq_eq_true hb) h
 simp [upd, hb]
theorem upd_comm (fr : Fr) {d e : Nat} (u v : AV) (h : d ≠ e) : upd (upd fr d u) e v = upd (upd fr e v) d u := by
 funext j
 by_cases h1 : j = e
 ·subst h1; rw [upd_same, upd_other _ _ (fun h' => h h'.symm), upd_same]
 ·rw [upd_other _ _ h1]
  by_cases h2 : j = d
  ·subst h2; rw [upd_same, upd_same]
  ·rw [upd_other _ _ h2, upd_other _ _ h2, upd_other _ _ h1]

def evA (fr : Fr) : Operand → AV
 | .tmp t => fr t
 | .const v => ofV v
 | .global g => .val (.pointer (some ⟨g, 0, none⟩))
 | .func f => .val (.func (.func f) #[] #[])

structure ActR (R : RO) (N : Nat) (D : List Deferred) (a : Act) (fr : Fr) : Prop where
 size : a.tmps.size = N
 defers : a.defers = D
 tmps : ∀ t, VR R (a.tmps.getD t Go.undef) (fr t)
theorem ActR.eval {R : RO} {N : Nat} {D : List Deferred} {a : Act} {fr : Fr} (h : ActR R N D a fr) (x : Operand) : VR R (a.eval x) (evA fr x) := by
 cases x with
 | tmp t => exact h.tmps t
 | const v =>
  show VR R v (ofV v)
  cases v with
  | agg cs => exact .agg (by simp) (fun j u v hu hv => by
    simp only [List.getElem?_map, hv, Option.map_some, Option.some.injEq] at hu
    subst hu
    exact .val v)
  | _ => exact .val _
 | global g => exact .val _
 | func f => exact .val _
theorem ActR.mono {R R' : RO} {N : Nat} {D : List Deferred} {a : Act} {fr : Fr} (h : ActR R N D a fr) (hR : R.le R') : ActR R' N D a fr := ⟨h.size, h.defers, fun t => (h.tmps t).mono hR⟩
theorem ActR.put {R : RO} {N : Nat} {D : List Deferred} {a : Act} {fr : Fr} (h : ActR R N D a fr) {dst : Option Nat} (hd : ∀ d, dst = some d → d < N) {v : Value} {u : AV} (hv : VR R v u) : ActR R N D (a.put dst v) (updo fr dst u) := by
 cases dst with
 | none => exact h
 | some d =>
  refine ⟨by simp [Act.put, h.size], h.defers, fun t => ?_⟩
  have hdN : d < a.tmps.size := by rw [h.size]; exact hd d rfl
  by_cases ht : t = d
  ·subst ht
   simp only [Act.put, updo, upd_same]
   rw [Array.getD_eq_getD_getElem?, Array.getElem?_setIfInBounds_self_of_lt hdN]
   exact hv
  ·simp only [Act.put, updo, upd_other _ _ ht]
   rw [Array.getD_eq_getD_getElem?, Array.getElem?_setIfInBounds_ne (fun e => ht e.symm), ← Array.getD_eq_getD_getElem?]
   exact h.tmps t

def AOp (P : Program) (o : Oper) (ρ : Operand → AV) (σ : Store) (k kp : AV → Store → Prop) : Prop :=
 ∀ (R : RO) (w : World) (a : Act), (∀ x, VR R (a.eval x) (ρ x)) → St R w σ → ∀ (next : Act → World → Prop) (Q : Exit → Act → World → Prop),
  (∀ v u w' R' σ', k u σ' → VR R' v u → St R' w' σ' → Ext R w σ R' w' σ' → next (a.put o.dst v) w') →
  (∀ v u w' R' σ', kp u σ' → VR R' v u → St R' w' σ' → Ext R w σ R' w' σ' → Q (.panic [{ v, recovered := false }]) a w') → o.wp P a w next Q

theorem AOp.ofRun {P : Program} {o : Oper} {ρ : Operand → AV} {σ : Store} {k kp : AV → Store → Prop}
  (h : ∀ (R : RO) (w : World) (ev : Operand → Value), (∀ x, VR R (ev x) (ρ x)) → St R w σ → ∃ v w' u R' σ', (execOp ev o).run P w = .ok (.value v) w' ∧ k u σ' ∧ VR R' v u ∧ St R' w' σ' ∧ Ext R w σ R' w' σ') : AOp P o ρ σ k kp := by
 intro R w a ha hs next Q hn hp
 obtain ⟨v, w', u, R', σ', hr, hk, hv, hs', hx⟩ := h R w a.eval ha hs
 unfold Oper.wp
 rw [hr]
 exact hn v u w' R' σ' hk hv hs' hx
theorem AOp.ofSkip {P : Program} {o : Oper} {ρ : Operand → AV} {σ : Store} {k kp : AV → Store → Prop}
  (h : ∀ (R : RO) (w : World) (ev : Operand → Value), (∀ x, VR R (ev x) (ρ x)) → St R w σ → ∃ w' R' σ', (execOp ev o).run P w = .ok .skip w' ∧ k .undef σ' ∧ St R' w' σ' ∧ Ext R w σ R' w' σ') : AOp P o ρ σ k kp := by
 intro R w a ha hs next Q hn hp
 obtain ⟨w', R', σ', hr, hk, hs', hx⟩ := h R w a.eval ha hs
 unfold Oper.wp
 rw [hr]
 exact hn Go.undef .undef w' R' σ' hk (.undef _) hs' hx

inductive Cls where
 | pure | read | eff
 deriving DecidableEq, Inhabited

structure Sem' (P : Program) where
 cls : Oper → Cls
 pure : Oper → (Operand → AV) → AV → Prop
 read : Oper → (Operand → AV) → Store → AV → Prop
 eff : Oper → (Operand → AV) → Store → (AV → Store → Prop) → (AV → Store → Prop) → Prop
 pureOk : ∀ o ρ u σ k kp, pure o ρ u → k u σ → AOp P o ρ σ k kp
 readOk : ∀ o ρ u σ k kp, read o ρ σ u → k u σ → AOp P o ρ σ k kp
 effOk : ∀ o ρ σ k kp, eff o ρ σ k kp → AOp P o ρ σ k kp
 mono : ∀ o ρ σ k k' kp, (∀ u σ', k u σ' → k' u σ') → eff o ρ σ k kp → eff o ρ σ k' kp
 pureOn : ∀ o ρ ρ' u, (∀ x ∈ o.op.operands, ρ x = ρ' x) → pure o ρ u → pure o ρ' u
 readOn : ∀ o ρ ρ' σ u, (∀ x ∈ o.op.operands, ρ x = ρ' x) → read o ρ σ u → read o ρ' σ u
 effOn : ∀ o ρ ρ' σ k kp, (∀ x ∈ o.op.operands, ρ x = ρ' x) → eff o ρ σ k kp → eff o ρ' σ k kp
 /-- what is told at once -/
 fn : Oper → (Operand → AV) → Option AV
 fnOk : ∀ o ρ u, fn o ρ = some u → cls o = .pure ∧ pure o ρ u

variable {P : Program}

def guardTmp (ops : Array Oper) (o : Oper) : Option (Nat × Bool) :=
 match o.guard with
 | none => none
 | some (j, want) => some (((ops[j]?).bind (·.dst)).getD 0, want)
def guardOk (ops : Array Oper) (N : Nat) (o : Oper) : Bool :=
 match o.guard with
 | none => true
 | some (j, _) => match (ops[j]?).bind (·.dst) with
  | some d => Nat.blt d N
  | none => false

def wantedA (g : AV) (want : Bool) : Option Bool := match g with
 | .val (.bool t) => some (t == want)
 | .val (.tuple _) => some false
 | _ => none
def gives (S : Sem' P) (ops : Array Oper) (o : Oper) (fr : Fr) (σ : Store) (u : AV) : Prop :=
 match o.guard with
 | none => (match S.cls o with
  | .pure => S.pure o (evA fr) u
  | _ => S.read o (evA fr) σ u)
 | some (j, want) => ∃ t, wantedA (fr (((ops[j]?).bind (·.dst)).getD 0)) want = some t ∧ if t = true then (match S.cls o with
  | .pure => S.pure o (evA fr) u
  | _ => S.read o (evA fr) σ u) else u = .val Go.undef
def vcOp (S : Sem' P) (N : Nat) (ops : Array Oper) (o : Oper) (K : Fr → Store → Prop) (kp : Fr → AV → Store → Prop) (fr : Fr) (σ : Store) : Prop :=
 match S.cls o with
 | .eff => (match o.guard with
  | none => S.eff o (evA fr) σ (fun u σ' => K (updo fr o.dst u) σ') (kp fr)
  | some (j, want) => ∃ t, wantedA (fr (((ops[j]?).bind (·.dst)).getD 0)) want = some t ∧
    if t = true then S.eff o (evA fr) σ (fun u σ' => K (updo fr o.dst u) σ') (kp fr) else K (updo fr o.dst (.val Go.undef)) σ)
 | _ => ∃ u, gives S ops o fr σ u ∧ K (updo fr o.dst u) σ
theorem vcOp_gives {S : Sem' P} {N : Nat} {ops : Array Oper} {o : Oper} (hc : S.cls o ≠ .eff) {K : Fr → Store → Prop} {kp : Fr → AV → Store → Prop} {fr : Fr} {σ : Store} :
  vcOp S N ops o K kp fr σ ↔ ∃ u, gives S ops o fr σ u ∧ K (updo fr o.dst u) σ := by
 unfold vcOp
 cases h : S.cls o with
 | eff => exact absurd h hc
 | _ => exact Iff.rfl

def opFine (N : Nat) (ops : Array Oper) (o : Oper) : Bool := (match o.dst with | some d => Nat.blt d N | none => true) && guardOk ops N o

theorem vcOp_mono {S : Sem' P} {N : Nat} {ops : Array Oper} {o : Oper} {K K' : Fr → Store → Prop} {kp : Fr → AV → Store → Prop} {fr : Fr} {σ : Store} (hK : ∀ fr σ, K fr σ → K' fr σ) (h : vcOp S N ops o K kp fr σ) : vcOp S N ops o K' kp fr σ := by
 by_cases hc : S.cls o = .eff
 ·unfold vcOp at h ⊢
  simp only [hc] at h ⊢
  split at h
  ·exact S.mono _ _ _ _ _ _ (fun u σ' hk => hK _ _ hk) h
  ·obtain ⟨t, ht, h⟩ := h
   refine ⟨t, ht, ?_⟩
   split at h
   ·rename_i he; rw [if_pos he]; exact S.mono _ _ _ _ _ _ (fun u σ' hk => hK _ _ hk) h
   ·rename_i he; rw [if_neg he]; exact hK _ _ h
 ·obtain ⟨u, h1, h2⟩ := (vcOp_gives hc).1 h
  exact (vcOp_gives hc).2 ⟨u, h1, hK _ _ h2⟩

theorem vcOp_sound {S : Sem' P} {N : Nat} {D : List Deferred} {ops : Array Oper} {o : Oper} (hf : opFine N ops o = true) {K : Fr → Store → Prop} {kp : Fr → AV → Store → Prop} {fr : Fr} {σ : Store}
  (h : vcOp S N ops o K kp fr σ) {R : RO} {w : World} {a : Act} (ha : ActR R N D a fr) (hs : St R w σ) {next : Act → World → Prop} {Q : Exit → Act → World → Prop}
  (hn : ∀ a' w' fr' σ' R', K fr' σ' → ActR R' N D a' fr' → St R' w' σ' → Ext R w σ R' w' σ' → next a' w')
  (hp : ∀ v u w' σ' R', kp fr u σ' → VR R' v u → St R' w' σ' → Ext R w σ R' w' σ' → Q (.panic [{ v, recovered := false }]) a w') :
  if Region.wanted o (yielded ops a.tmps) then o.wp P a w next Q else next (a.put o.dst Go.undef) w := by
 have hd : ∀ d, o.dst = some d → d < N := by
  intro d hd
  simp only [opFine, hd, Bool.and_eq_true] at hf
  simpa [Nat.blt_eq] using hf.1
 have hq : ∀ v u w' R' σ', K (updo fr o.dst u) σ' → VR R' v u → St R' w' σ' → Ext R w σ R' w' σ' → next (a.put o.dst v) w' := fun v u w' R' σ' hk hv hs' hx => hn _ _ _ _ _ hk ((ha.mono hx.ro).put hd hv) hs' hx
 have hpp : ∀ v u w' R' σ', kp fr u σ' → VR R' v u → St R' w' σ' → Ext R w σ R' w' σ' → Q (.panic [{ v, recovered := false }]) a w' := fun v u w' R' σ' hk hv hs' hx => hp _ _ _ _ _ hk hv hs' hx
 have hy : ∀ j want t, o.guard = some (j, want) → wantedA (fr (((ops[j]?).bind (·.dst)).getD 0)) want = some t → (yielded ops a.tmps j == some want) = t := by
  intro j want t hg ht
  simp only [opFine, guardOk, hg, Bool.and_eq_true] at hf
  cases hd' : (ops[j]?).bind (·.dst) with
  | none => simp [hd'] at hf
  | some d =>
   simp only [hd', Nat.blt_eq] at hf
   simp only [hd', Option.getD_some] at ht
   have hv := ha.tmps d
   have hlt : d < a.tmps.size := by rw [ha.size]; exact hf.2
   rw [Array.getD_eq_getD_getElem?, Array.getElem?_eq_getElem hlt, Option.getD_some] at hv
   unfold wantedA at ht
   split at ht
   ·rename_i b hb
    rw [hb] at hv
    have he := hv.val_inv
    cases ht
    simp [yielded, hd', Array.getElem?_eq_getElem hlt, he]
   ·rename_i b hb
    rw [hb] at hv
    have he := hv.val_inv
    cases ht
    simp [yielded, hd', Array.getElem?_eq_getElem hlt, he]
   ·cases ht
 by_cases hc : S.cls o = .eff
 ·unfold vcOp at h
  simp only [hc] at h
  cases hg : o.guard with
  | none =>
   simp only [hg] at h
   simp only [Region.wanted, hg, if_true]
   exact S.effOk _ _ _ _ _ h R w a (fun x => ha.eval x) hs next Q hq hpp
  | some jw =>
   obtain ⟨j, want⟩ := jw
   simp only [hg] at h
   obtain ⟨t, ht, h⟩ := h
   simp only [Region.wanted, hg, hy j want t hg ht]
   cases t with
   | true =>
    rw [if_pos rfl] at h
    simp only [if_true]
    exact S.effOk _ _ _ _ _ h R w a (fun x => ha.eval x) hs next Q hq hpp
   | false =>
    simp only [Bool.false_eq_true, if_false] at h ⊢
    exact hn _ _ _ _ _ h (ha.put hd (.val _)) hs (Ext.refl _ _ _)
 ·obtain ⟨u, hu, hK⟩ := (vcOp_gives hc).1 h
  have hrun : (match S.cls o with | .pure => S.pure o (evA fr) u | _ => S.read o (evA fr) σ u) → o.wp P a w next Q := by
   intro hr
   cases hcl : S.cls o with
   | eff => exact absurd hcl hc
   | pure => rw [hcl] at hr; exact S.pureOk _ _ _ _ _ _ hr hK R w a (fun x => ha.eval x) hs next Q hq hpp
   | read => rw [hcl] at hr; exact S.readOk _ _ _ _ _ _ hr hK R w a (fun x => ha.eval x) hs next Q hq hpp
  unfold gives at hu
  cases hg : o.guard with
  | none =>
   simp only [hg] at hu
   simp only [Region.wanted, hg, if_true]
   exact hrun hu
  | some jw =>
   obtain ⟨j, want⟩ := jw
   simp only [hg] at hu
   obtain ⟨t, ht, hu⟩ := hu
   simp only [Region.wanted, hg, hy j want t hg ht]
   cases t with
   | true =>
    rw [if_pos rfl] at hu
    simp only [if_true]
    exact hrun hu
   | false =>
    simp only [Bool.false_eq_true, if_false] at hu ⊢
    subst hu
    exact hn _ _ _ _ _ hK (ha.put hd (.val _)) hs (Ext.refl _ _ _)

def vcOps (S : Sem' P) (N : Nat) (ops : Array Oper) (K : AX → Fr → Store → Prop) : List Oper → Fr → Store → Prop
 | [], fr, σ => K .norm fr σ
 | o :: rest, fr, σ => vcOp S N ops o (vcOps S N ops K rest) (fun fr u σ => K (.pan u) fr σ) fr σ

def Post (N : Nat) (D : List Deferred) (R : RO) (w : World) (σ : Store) (K : AX → Fr → Store → Prop) (e : Exit) (a' : Act) (w' : World) : Prop :=
 ∃ x fr' σ' R', EXR R' e x ∧ K x fr' σ' ∧ ActR R' N D a' fr' ∧ St R' w' σ' ∧ Ext R w σ R' w' σ'
theorem Post.trans {N : Nat} {D : List Deferred} {R R1 : RO} {w w1 : World} {σ σ1 : Store} {K : AX → Fr → Store → Prop} {e : Exit} {a' : Act} {w' : World} (hx : Ext R w σ R1 w1 σ1) (h : Post N D R1 w1 σ1 K e a' w') : Post N D R w σ K e a' w' := by
 obtain ⟨x, fr', σ', R', h1, h2, h3, h4, h5⟩ := h
 exact ⟨x, fr', σ', R', h1, h2, h3, h4, hx.trans h5⟩

theorem vcOps_sound {S : Sem' P} {N : Nat} {D : List Deferred} {ops : Array Oper} {K : AX → Fr → Store → Prop} (l : List Oper) (hf : ∀ o ∈ l, opFine N ops o = true) :
  ∀ {fr : Fr} {σ : Store}, vcOps S N ops K l fr σ → ∀ {R : RO} {w : World} {a : Act}, ActR R N D a fr → St R w σ → ∀ {Q : Exit → Act → World → Prop}, (∀ e a' w', Post N D R w σ K e a' w' → Q e a' w') → wpList P ops Q l a w := by
 induction l with
 | nil =>
  intro fr σ h R w a ha hs Q hQ
  exact hQ _ _ _ ⟨.norm, fr, σ, R, trivial, h, ha, hs, Ext.refl _ _ _⟩
 | cons o rest ih =>
  intro fr σ h R w a ha hs Q hQ
  have := vcOp_sound (D := D) (hf o (List.mem_cons_self ..)) (next := wpList P ops Q rest) (Q := Q) h ha hs
   (fun a' w' fr' σ' R' hk ha' hs' hx => ih (fun o ho => hf o (List.mem_cons_of_mem _ ho)) hk ha' hs' fun e a'' w'' hp => hQ _ _ _ (hp.trans hx))
   (fun v u w' σ' R' hk hv hs' hx => hQ _ _ _ ⟨.pan u, fr, σ', R', ⟨v, rfl, hv⟩, hk, ha.mono hx.ro, hs', hx⟩)
  unfold wpList
  split
  ·rename_i hw; rw [if_pos hw] at this; exact .inl this
  ·rename_i hw; rw [if_neg hw] at this; exact this

def apart (ops : Array Oper) (x y : Oper) : Bool := x.apart ops y
def swaps (S : Sem' P) (x y : Oper) : Bool :=
 match S.cls x, S.cls y with
 | .pure, _ => true
 | .read, .read => true
 | .read, .pure => true
 | _, _ => false

def readyAt (ops : Array Oper) (listed : Array Bool) (i : Nat) : Bool :=
 !listed.getD i true && ((ops[i]?).map (·.after.all fun e => !Region.binds .any e || listed.getD e.on false)).getD false
def frees (S : Sem' P) (ops : Array Oper) (listed : Array Bool) (i : Nat) : Bool :=
 readyAt ops listed i && (List.range ops.size).all fun j =>
  listed.getD j true || Nat.beq i j || (match ops[i]?, ops[j]? with
   | some x, some y => (apart ops x y && swaps S x y) || y.after.any (fun e => Region.binds .any e && Nat.beq e.on i)
   | _, _ => false)

def vcAny (S : Sem' P) (N : Nat) (ops : Array Oper) (kp : Fr → AV → Store → Prop) (K : Fr → Store → Prop) : Nat → Array Bool → Fr → Store → Prop
 | 0, listed, fr, σ => K fr σ
 | n + 1, listed, fr, σ =>
  match (List.range ops.size).find? (frees S ops listed) with
  | some i => match ops[i]? with
   | some o => vcOp S N ops o (vcAny S N ops kp K n (listed.setIfInBounds i true)) kp fr σ
   | none => False
  | none => match (List.range ops.size).filter (readyAt ops listed) with
   | [] => K fr σ
   | rs => ∀ i, i ∈ rs → match ops[i]? with
     | some o => vcOp S N ops o (vcAny S N ops kp K n (listed.setIfInBounds i true)) kp fr σ
     | none => False

def agree (ops : Array Oper) (o : Oper) (fr fr' : Fr) : Prop := ∀ t ∈ o.looksAt ops, fr t = fr' t
theorem agree.eval {ops : Array Oper} {o : Oper} {fr fr' : Fr} (h : agree ops o fr fr') : ∀ x ∈ o.op.operands, evA fr x = evA fr' x := by
 intro x hx
 cases x with
 | tmp t =>
  refine h t (List.mem_append.2 (.inl ?_))
  exact List.mem_filterMap.2 ⟨.tmp t, Array.mem_toList_iff.2 hx, rfl⟩
 | _ => rfl
theorem agree.guard {ops : Array Oper} {o : Oper} {N : Nat} (hf : opFine N ops o = true) {fr fr' : Fr} (h : agree ops o fr fr') {j : Nat} {want : Bool} (hg : o.guard = some (j, want)) :
  fr (((ops[j]?).bind (·.dst)).getD 0) = fr' (((ops[j]?).bind (·.dst)).getD 0) := by
 simp only [opFine, guardOk, hg, Bool.and_eq_true] at hf
 cases hd : (ops[j]?).bind (·.dst) with
 | none => simp [hd] at hf
 | some d => exact h d (List.mem_append.2 (.inr (by simp [hg, hd])))
theorem gives_on {S : Sem' P} {ops : Array Oper} {o : Oper} {N : Nat} (hf : opFine N ops o = true) {fr fr' : Fr} (h : agree ops o fr fr') {σ : Store} {u : AV} (hu : gives S ops o fr σ u) : gives S ops o fr' σ u := by
 have hx : (match S.cls o with | .pure => S.pure o (evA fr) u | _ => S.read o (evA fr) σ u) → (match S.cls o with | .pure => S.pure o (evA fr') u | _ => S.read o (evA fr') σ u) := by
  intro hr
  cases hc : S.cls o with
  | pure => rw [hc] at hr; exact S.pureOn _ _ _ _ h.eval hr
  | read => rw [hc] at hr; exact S.readOn _ _ _ _ _ h.eval hr
  | eff => rw [hc] at hr; exact S.readOn _ _ _ _ _ h.eval hr
 unfold gives at hu ⊢
 cases hg : o.guard with
 | none => simp only [hg] at hu ⊢; exact hx hu
 | some jw =>
  obtain ⟨j, want⟩ := jw
  simp only [hg] at hu ⊢
  obtain ⟨t, ht, hr⟩ := hu
  refine ⟨t, by rw [← h.guard hf hg]; exact ht, ?_⟩
  split at hr
  ·rename_i he; rw [if_pos he]; exact hx hr
  ·rename_i he; rw [if_neg he]; exact hr
theorem vcOp_on {S : Sem' P} {N : Nat} {ops : Array Oper} {o : Oper} (hf : opFine N ops o = true) {fr fr' : Fr} (h : agree ops o fr fr') {K K' : Fr → Store → Prop} {σ : Store}
  (hK : ∀ u σ', K (updo fr o.dst u) σ' → K' (updo fr' o.dst u) σ') {kp : Fr → AV → Store → Prop} (hkp : kp fr = kp fr') (hv : vcOp S N ops o K kp fr σ) : vcOp S N ops o K' kp fr' σ := by
 by_cases hc : S.cls o = .eff
 ·unfold vcOp at hv ⊢
  simp only [hc] at hv ⊢
  rw [hkp] at hv
  cases hg : o.guard with
  | none => simp only [hg] at hv ⊢; exact S.mono _ _ _ _ _ _ (fun u σ' => hK u σ') (S.effOn _ _ _ _ _ _ h.eval hv)
  | some jw =>
   obtain ⟨j, want⟩ := jw
   simp only [hg] at hv ⊢
   obtain ⟨t, ht, hr⟩ := hv
   refine ⟨t, by rw [← h.guard hf hg]; exact ht, ?_⟩
   split at hr
   ·rename_i he; rw [if_pos he]; exact S.mono _ _ _ _ _ _ (fun u σ' => hK u σ') (S.effOn _ _ _ _ _ _ h.eval hr)
   ·rename_i he; rw [if_neg he]; exact hK _ _ hr
 ·obtain ⟨u, h1, h2⟩ := (vcOp_gives hc).1 hv
  exact (vcOp_gives hc).2 ⟨u, gives_on hf h h1, hK _ _ h2⟩

theorem agree_upd {ops : Array Oper} {o : Oper} {dst : Option Nat} (h : ∀ d, dst = some d → d ∉ o.looksAt ops) (fr : Fr) (u : AV) : agree ops o (updo fr dst u) fr := by
 intro t ht
 cases dst with
 | none => rfl
 | some d => exact upd_other _ _ (fun e => h d rfl (e ▸ ht))
theorem agree.symm {ops : Array Oper} {o : Oper} {fr fr' : Fr} (h : agree ops o fr fr') : agree ops o fr' fr := fun t ht => (h t ht).symm
theorem updo_comm (fr : Fr) {x y : Option Nat} (u v : AV) (h : ∀ d, x = some d → y ≠ some d) : updo (updo fr x u) y v = updo (updo fr y v) x u := by
 cases x with
 | none => rfl
 | some d =>
  cases y with
  | none => rfl
  | some e => exact upd_comm fr u v (fun he => h d rfl (by rw [he]))

theorem swap_sound {S : Sem' P} {N : Nat} {ops : Array Oper} {x y : Oper} (hfx : opFine N ops x = true) (hfy : opFine N ops y = true) (ha : apart ops x y = true) (hs : swaps S x y = true) {X : Fr → Store → Prop} {fr : Fr} {σ : Store} {kp : Fr → AV → Store → Prop} (hkp : ∀ fr u, kp (updo fr x.dst u) = kp fr)
  (h : vcOp S N ops x (vcOp S N ops y X kp) kp fr σ) : vcOp S N ops y (vcOp S N ops x X kp) kp fr σ := by
 obtain ⟨a1, a2, a3⟩ := Oper.apart_spec ha
 have hxc : S.cls x ≠ .eff := by intro hc; simp [swaps, hc] at hs
 obtain ⟨u, hu, hy⟩ := (vcOp_gives hxc).1 h
 have ag : agree ops y (updo fr x.dst u) fr := agree_upd a1 fr u
 by_cases hp : S.cls x = .pure
 ·refine vcOp_on hfy ag (fun v σ' hX => ?_) (hkp fr u) hy
  refine (vcOp_gives hxc).2 ⟨u, ?_, by rw [← updo_comm fr u v a2]; exact hX⟩
  have hu' : gives S ops x fr σ' u := by
   unfold gives at hu ⊢
   rw [hp] at hu ⊢
   exact hu
  exact gives_on hfx (agree_upd a3 fr v).symm hu'
 ·have hyc : S.cls y ≠ .eff := by
   intro hc
   unfold swaps at hs
   rw [hc] at hs
   cases hx : S.cls x with
   | pure => exact hp hx
   | read => rw [hx] at hs; cases hs
   | eff => exact hxc hx
  obtain ⟨v, hv, hX⟩ := (vcOp_gives hyc).1 hy
  refine (vcOp_gives hyc).2 ⟨v, gives_on hfy ag hv, (vcOp_gives hxc).2 ⟨u, gives_on hfx (agree_upd a3 fr v).symm hu, ?_⟩⟩
  rw [← updo_comm fr u v a2]; exact hX

def open_ (ops : Array Oper) (listed : Array Bool) : List Nat := (List.range ops.size).filter fun i => !listed.getD i true
theorem getD_list (listed : Array Bool) (i j : Nat) (h : listed.getD i true = false) : (listed.setIfInBounds i true).getD j true = (if i = j then true else listed.getD j true) := by
 have hi : i < listed.size := by
  rcases Nat.lt_or_ge i listed.size with h' | h'
  ·exact h'
  ·simp [Array.getD, Nat.not_lt.2 h'] at h
 by_cases hij : i = j
 ·subst hij
  simp [Array.getD_eq_getD_getElem?, Array.getElem?_setIfInBounds_self_of_lt hi]
 ·simp [Array.getD_eq_getD_getElem?, Array.getElem?_setIfInBounds_ne hij, hij]
theorem getD_false (listed : Array Bool) (i j : Nat) (h : listed.getD i true = false) : (listed.setIfInBounds i true).getD j false = (if i = j then true else listed.getD j false) := by
 have hi : i < listed.size := by
  rcases Nat.lt_or_ge i listed.size with h' | h'
  ·exact h'
  ·simp [Array.getD, Nat.not_lt.2 h'] at h
 by_cases hij : i = j
 ·subst hij
  simp [Array.getD_eq_getD_getElem?, Array.getElem?_setIfInBounds_self_of_lt hi]
 ·simp [Array.getD_eq_getD_getElem?, Array.getElem?_setIfInBounds_ne hij, hij]
theorem ready_open {ops : Array Oper} {listed : Array Bool} {i : Nat} (h : readyAt ops listed i = true) : listed.getD i true = false := by
 simp only [readyAt, Bool.and_eq_true, Bool.not_eq_true'] at h
 exact h.1
theorem ready_lt {ops : Array Oper} {listed : Array Bool} {i : Nat} (h : readyAt ops listed i = true) : ∃ o, ops[i]? = some o ∧ (o.after.all fun e => !Region.binds .any e || listed.getD e.on false) = true := by
 simp only [readyAt, Bool.and_eq_true] at h
 cases ho : ops[i]? with
 | none => simp [ho] at h
 | some o => exact ⟨o, rfl, by simpa [ho] using h.2⟩
theorem ready_more {ops : Array Oper} {listed : Array Bool} {i j : Nat} (hi : listed.getD i true = false) (hij : i ≠ j) (h : readyAt ops listed j = true) : readyAt ops (listed.setIfInBounds i true) j = true := by
 obtain ⟨o, ho, ha⟩ := ready_lt h
 have h0 := ready_open h
 simp only [readyAt, getD_list _ _ _ hi, if_neg hij, h0, ho, Option.map_some, Option.getD_some, Bool.not_false, Bool.true_and]
 rw [Array.all_eq_true_iff_forall_mem] at ha ⊢
 intro e he
 have := ha e he
 simp only [Bool.or_eq_true, Bool.not_eq_true'] at this ⊢
 refine this.imp id fun h => ?_
 rw [getD_false _ _ _ hi]
 split
 ·rfl
 ·exact h
theorem frees_ready {S : Sem' P} {ops : Array Oper} {listed : Array Bool} {i : Nat} (h : frees S ops listed i = true) : readyAt ops listed i = true := by
 simp only [frees, Bool.and_eq_true] at h
 exact h.1
theorem frees_more {S : Sem' P} {ops : Array Oper} {listed : Array Bool} {i j : Nat} (hj : listed.getD j true = false) (hij : j ≠ i) (h : frees S ops listed i = true) : frees S ops (listed.setIfInBounds j true) i = true := by
 simp only [frees, Bool.and_eq_true] at h ⊢
 refine ⟨ready_more hj hij h.1, ?_⟩
 rw [List.all_eq_true] at h ⊢
 intro k hk
 have := h.2 k hk
 simp only [Bool.or_eq_true, getD_list _ _ _ hj] at this ⊢
 rcases this with (h1 | h1) | h1
 ·left; left; split
  ·rfl
  ·exact h1
 ·exact .inl (.inr h1)
 ·exact .inr h1
theorem frees_swap {S : Sem' P} {ops : Array Oper} {listed : Array Bool} {i j : Nat} (h : frees S ops listed i = true) (hj : readyAt ops listed j = true) (hij : i ≠ j) {x y : Oper} (hx : ops[i]? = some x) (hy : ops[j]? = some y) :
  apart ops x y = true ∧ swaps S x y = true := by
 have hi := frees_ready h
 simp only [frees, Bool.and_eq_true, List.all_eq_true] at h
 obtain ⟨o, ho, ha⟩ := ready_lt hj
 rw [hy] at ho; cases ho
 have hlt : j < ops.size := (Array.getElem?_eq_some_iff.1 hy).1
 have := h.2 j (List.mem_range.2 hlt)
 simp only [ready_open hj, hx, hy, Bool.false_or, Bool.or_eq_true, Bool.and_eq_true] at this
 rcases this with h1 | h1 | h1
 ·exact absurd (Nat.eq_of_beq_eq_true h1) hij
 ·exact h1
 ·exfalso
  rw [← Array.any_toList, List.any_eq_true] at h1
  obtain ⟨e, he, hb⟩ := h1
  replace he := Array.mem_toList_iff.1 he
  simp only [Bool.and_eq_true] at hb
  rw [Array.all_eq_true_iff_forall_mem] at ha
  have h2 := ha e he
  simp only [hb.1, Bool.not_true, Bool.false_or] at h2
  have hon : e.on = i := Nat.eq_of_beq_eq_true hb.2
  rw [hon] at h2
  have h3 := ready_open hi
  rw [Array.getD_eq_getD_getElem?] at h2 h3
  cases hl : listed[i]? with
  | none => simp [hl] at h2
  | some b => simp [hl] at h2 h3; rw [h2] at h3; cases h3
theorem mem_open {ops : Array Oper} {listed : Array Bool} {i : Nat} : i ∈ open_ ops listed ↔ i < ops.size ∧ listed.getD i true = false := by
 simp only [open_, List.mem_filter, List.mem_range, Bool.not_eq_true']
theorem open_list {ops : Array Oper} {listed : Array Bool} {i : Nat} (hi : listed.getD i true = false) (hlt : i < ops.size) : (open_ ops (listed.setIfInBounds i true)).length < (open_ ops listed).length := by
 have hsub : (open_ ops (listed.setIfInBounds i true)).Sublist (open_ ops listed) := by
  unfold open_
  have : (List.range ops.size).filter (fun j => !(listed.setIfInBounds i true).getD j true) = ((List.range ops.size).filter fun j => !listed.getD j true).filter (fun j => !decide (i = j)) := by
   rw [List.filter_filter]
   refine List.filter_congr fun j _ => ?_
   rw [getD_list _ _ _ hi]
   by_cases h : i = j <;> simp [h]
  rw [this]
  exact List.filter_sublist
 rcases Nat.lt_or_ge (open_ ops (listed.setIfInBounds i true)).length (open_ ops listed).length with h | h
 ·exact h
 ·exfalso
  have heq := hsub.eq_of_length (Nat.le_antisymm hsub.length_le h)
  have hm : i ∈ open_ ops listed := mem_open.2 ⟨hlt, hi⟩
  rw [← heq, mem_open, getD_list _ _ _ hi] at hm
  simp at hm
theorem set_comm (listed : Array Bool) (i j : Nat) : (listed.setIfInBounds i true).setIfInBounds j true = (listed.setIfInBounds j true).setIfInBounds i true := by
 by_cases h : i = j
 ·subst h; rfl
 ·exact Array.setIfInBounds_comm _ _ h

theorem vcAny_both {S : Sem' P} {N : Nat} {ops : Array Oper} (hf : ∀ (i : Nat) (o : Oper), ops[i]? = some o → opFine N ops o = true) {kp : Fr → AV → Store → Prop} (hkp : ∀ (i : Nat) (o : Oper), ops[i]? = some o → ∀ fr u, kp (updo fr o.dst u) = kp fr) {K : Fr → Store → Prop} (n : Nat) :
  (∀ (listed : Array Bool) (fr : Fr) (σ : Store), (open_ ops listed).length ≤ n + 1 → ∀ i o, frees S ops listed i = true → ops[i]? = some o →
   vcOp S N ops o (vcAny S N ops kp K n (listed.setIfInBounds i true)) kp fr σ → vcAny S N ops kp K (n + 1) listed fr σ) ∧
  (∀ (listed : Array Bool) (fr : Fr) (σ : Store), (open_ ops listed).length ≤ n + 1 → ∀ i o, readyAt ops listed i = true → ops[i]? = some o →
   vcAny S N ops kp K (n + 1) listed fr σ → vcOp S N ops o (vcAny S N ops kp K n (listed.setIfInBounds i true)) kp fr σ) := by
 have pos : ∀ (n : Nat) (listed : Array Bool) (i j : Nat), (open_ ops listed).length ≤ n + 1 → readyAt ops listed i = true → readyAt ops listed j = true → i ≠ j → ∃ m, n = m + 1 := by
  intro n listed i j hl hi hj hij
  cases n with
  | succ m => exact ⟨m, rfl⟩
  | zero =>
   exfalso
   obtain ⟨x, hx, _⟩ := ready_lt hi
   obtain ⟨y, hy, _⟩ := ready_lt hj
   have h1 := open_list (ops := ops) (ready_open hi) (Array.getElem?_eq_some_iff.1 hx).1
   have h2 : j ∈ open_ ops (listed.setIfInBounds i true) := mem_open.2 ⟨(Array.getElem?_eq_some_iff.1 hy).1, by rw [getD_list _ _ _ (ready_open hi), if_neg hij]; exact ready_open hj⟩
   have := List.length_pos_of_mem h2
   omega
 have less : ∀ (n : Nat) (listed : Array Bool) (i : Nat), (open_ ops listed).length ≤ n + 1 → readyAt ops listed i = true → (open_ ops (listed.setIfInBounds i true)).length ≤ n := by
  intro n listed i hl hi
  obtain ⟨x, hx, _⟩ := ready_lt hi
  have h1 := open_list (ops := ops) (ready_open hi) (Array.getElem?_eq_some_iff.1 hx).1
  omega
 induction n with
 | zero =>
  constructor
  ·intro listed fr σ hl i o hi ho h
   unfold vcAny
   cases hfind : (List.range ops.size).find? (frees S ops listed) with
   | none =>
    have := List.find?_eq_none.1 hfind i (List.mem_range.2 (Array.getElem?_eq_some_iff.1 ho).1)
    exact absurd hi this
   | some i0 =>
    have h0 := List.find?_some hfind
    by_cases he : i0 = i
    ·subst he; simp only [ho]; exact h
    ·obtain ⟨m, hm⟩ := pos 0 listed i0 i hl (frees_ready h0) (frees_ready hi) he
     cases hm
  ·intro listed fr σ hl i o hi ho h
   unfold vcAny at h
   cases hfind : (List.range ops.size).find? (frees S ops listed) with
   | none =>
    rw [hfind] at h
    simp only at h
    have hmem : i ∈ (List.range ops.size).filter (readyAt ops listed) := by simp [hi, (Array.getElem?_eq_some_iff.1 ho).1]
    split at h
    ·rename_i heq; rw [heq] at hmem; cases hmem
    ·have := h i hmem
     simpa only [ho] using this
   | some i0 =>
    have h0 := List.find?_some hfind
    by_cases he : i0 = i
    ·subst he; rw [hfind] at h; simpa only [ho] using h
    ·obtain ⟨m, hm⟩ := pos 0 listed i0 i hl (frees_ready h0) hi he
     cases hm
 | succ n ih =>
  obtain ⟨ihA, ihB⟩ := ih
  constructor
  ·intro listed fr σ hl i o hi ho h
   rw [vcAny]
   cases hfind : (List.range ops.size).find? (frees S ops listed) with
   | none =>
    have := List.find?_eq_none.1 hfind i (List.mem_range.2 (Array.getElem?_eq_some_iff.1 ho).1)
    exact absurd hi this
   | some i0 =>
    have h0 := List.find?_some hfind
    obtain ⟨o0, ho0, _⟩ := ready_lt (frees_ready h0)
    by_cases he : i0 = i
    ·subst he; simp only [ho]; exact h
    ·simp only [ho0]
     have hi' := ready_open (frees_ready hi)
     have h0' := ready_open (frees_ready h0)
     have h1 : vcOp S N ops o (vcOp S N ops o0 (vcAny S N ops kp K n ((listed.setIfInBounds i true).setIfInBounds i0 true)) kp) kp fr σ :=
      vcOp_mono (fun fr σ hv => ihB _ fr σ (less _ _ _ hl (frees_ready hi)) i0 o0 (ready_more hi' (fun e => he e.symm) (frees_ready h0)) ho0 hv) h
     obtain ⟨s1, s2⟩ := frees_swap hi (frees_ready h0) (fun e => he e.symm) ho ho0
     have h2 := swap_sound (hf _ _ ho) (hf _ _ ho0) s1 s2 (hkp _ _ ho) h1
     refine vcOp_mono (fun fr σ hv => ihA _ fr σ (less _ _ _ hl (frees_ready h0)) i o (frees_more h0' he hi) ho ?_) h2
     rw [set_comm]; exact hv
  ·intro listed fr σ hl i o hi ho h
   rw [vcAny] at h
   cases hfind : (List.range ops.size).find? (frees S ops listed) with
   | none =>
    rw [hfind] at h
    simp only at h
    have hmem : i ∈ (List.range ops.size).filter (readyAt ops listed) := by simp [hi, (Array.getElem?_eq_some_iff.1 ho).1]
    split at h
    ·rename_i heq; rw [heq] at hmem; cases hmem
    ·have := h i hmem
     simpa only [ho] using this
   | some i0 =>
    have h0 := List.find?_some hfind
    obtain ⟨o0, ho0, _⟩ := ready_lt (frees_ready h0)
    by_cases he : i0 = i
    ·subst he; rw [hfind] at h; simpa only [ho] using h
    ·rw [hfind] at h
     simp only [ho0] at h
     have hi' := ready_open hi
     have h0' := ready_open (frees_ready h0)
     have h1 : vcOp S N ops o0 (vcOp S N ops o (vcAny S N ops kp K n ((listed.setIfInBounds i0 true).setIfInBounds i true)) kp) kp fr σ :=
      vcOp_mono (fun fr σ hv => ihB _ fr σ (less _ _ _ hl (frees_ready h0)) i o (ready_more h0' he hi) ho hv) h
     obtain ⟨s1, s2⟩ := frees_swap h0 hi he ho0 ho
     have h2 := swap_sound (hf _ _ ho0) (hf _ _ ho) s1 s2 (hkp _ _ ho0) h1
     refine vcOp_mono (fun fr σ hv => ihA _ fr σ (less _ _ _ hl hi) i0 o0 (frees_more hi' (fun e => he e.symm) h0) ho0 ?_) h2
     rw [set_comm]; exact hv

theorem ready_eq (ops : Array Oper) (listed : Array Bool) : Region.ready .any ops listed = (List.range ops.size).filter (readyAt ops listed) := rfl

def clearFr (ops : Array Oper) (fr : Fr) : Fr := fun t => bif ops.toList.any (fun o => match o.dst with | some d => Nat.beq d t | none => false) then .undef else fr t
theorem clearFr_upd {ops : Array Oper} {i : Nat} {o : Oper} (h : ops[i]? = some o) (fr : Fr) (u : AV) : clearFr ops (updo fr o.dst u) = clearFr ops fr := by
 funext t
 unfold clearFr
 cases hd : o.dst with
 | none => rfl
 | some d =>
  by_cases ht : t = d
  ·subst ht
   have e : (ops.toList.any fun o => match o.dst with | some d => Nat.beq d t | none => false) = true := List.any_eq_true.2 ⟨o, Array.mem_toList_iff.2 (Array.mem_of_getElem? h), by simp [hd]⟩
   rw [e]; rfl
  ·have e : updo fr (some d) u t = fr t := upd_other _ _ ht
   rw [e]
theorem ActR.clear {R : RO} {N : Nat} {D : List Deferred} {a : Act} {fr : Fr} (h : ActR R N D a fr) (ops : Array Oper) : ActR R N D a (clearFr ops fr) := ⟨h.size, h.defers, fun t => by
 unfold clearFr
 cases ops.toList.any (fun o => match o.dst with | some d => Nat.beq d t | none => false) with
 | true => exact .undef _
 | false => exact h.tmps t⟩
def panK (K : AX → Fr → Store → Prop) (ops : Array Oper) : Fr → AV → Store → Prop := fun fr u σ => K (.pan u) (clearFr ops fr) σ
theorem panK_upd {K : AX → Fr → Store → Prop} {ops : Array Oper} (i : Nat) (o : Oper) (h : ops[i]? = some o) (fr : Fr) (u : AV) : panK K ops (updo fr o.dst u) = panK K ops fr := by
 unfold panK; rw [clearFr_upd h]

theorem vcAny_sound {S : Sem' P} {N : Nat} {D : List Deferred} {ops : Array Oper} (hf : ∀ (i : Nat) (o : Oper), ops[i]? = some o → opFine N ops o = true) {K : AX → Fr → Store → Prop} (n : Nat) :
  ∀ {listed : Array Bool} {fr : Fr} {σ : Store}, (open_ ops listed).length ≤ n → vcAny S N ops (panK K ops) (K .norm) n listed fr σ → ∀ {R : RO} {w : World} {a : Act}, ActR R N D a fr → St R w σ →
  ∀ {Q : Exit → Act → World → Prop}, (∀ e a' w', Post N D R w σ K e a' w' → Q e a' w') → wpAny P .any ops Q n listed a w := by
 have fin : ∀ {fr : Fr} {σ : Store} {R : RO} {w : World} {a : Act} {Q : Exit → Act → World → Prop}, K .norm fr σ → ActR R N D a fr → St R w σ → (∀ e a' w', Post N D R w σ K e a' w' → Q e a' w') → Q .normal a w :=
  fun h ha hs hQ => hQ _ _ _ ⟨.norm, _, _, _, trivial, h, ha, hs, Ext.refl _ _ _⟩
 induction n with
 | zero =>
  intro listed fr σ hl h R w a ha hs Q hQ
  refine ⟨?_, fin h ha hs hQ⟩
  rw [ready_eq]
  apply List.eq_nil_iff_forall_not_mem.2
  intro i hi
  obtain ⟨h1, h2⟩ := List.mem_filter.1 hi
  have : i ∈ open_ ops listed := mem_open.2 ⟨List.mem_range.1 h1, ready_open h2⟩
  have := List.length_pos_of_mem this
  omega
 | succ n ih =>
  intro listed fr σ hl h R w a ha hs Q hQ
  refine ⟨fun hr => ?_, fun i hi => ?_⟩
  ·rw [ready_eq] at hr
   unfold vcAny at h
   cases hfind : (List.range ops.size).find? (frees S ops listed) with
   | none => rw [hfind] at h; simp only [hr] at h; exact fin h ha hs hQ
   | some i0 =>
    exfalso
    have h0 := List.find?_some hfind
    obtain ⟨o0, ho0, _⟩ := ready_lt (frees_ready h0)
    have : i0 ∈ (List.range ops.size).filter (readyAt ops listed) := by simp [frees_ready h0, (Array.getElem?_eq_some_iff.1 ho0).1]
    rw [hr] at this
    cases this
  ·rw [ready_eq] at hi
   obtain ⟨h1, h2⟩ := List.mem_filter.1 hi
   obtain ⟨o, ho, _⟩ := ready_lt h2
   have hv := (vcAny_both hf panK_upd n).2 listed fr σ hl i o h2 ho h
   have hlt := open_list (ops := ops) (ready_open h2) (List.mem_range.1 h1)
   have := vcOp_sound (D := D) (hf i o ho) (next := wpAny P .any ops Q n (listed.setIfInBounds i true)) (Q := Q) hv ha hs
    (fun a' w' fr' σ' R' hk ha' hs' hx => ih (by omega) hk ha' hs' fun e a'' w'' hp => hQ _ _ _ (hp.trans hx))
    (fun v u w' σ' R' hk hv hs' hx => hQ _ _ _ ⟨.pan u, clearFr ops fr, σ', R', ⟨v, rfl, hv⟩, hk, (ha.clear ops).mono hx.ro, hs', hx⟩)
   unfold wpOp
   simp only [ho]
   split
   ·rename_i hw; rw [if_pos hw] at this; exact .inl this
   ·rename_i hw; rw [if_neg hw] at this; exact this

def vcOp1 (S : Sem' P) (N : Nat) (ops : Array Oper) (o : Oper) (K : Fr → Store → Prop) (kp : Fr → AV → Store → Prop) (fr : Fr) (σ : Store) : Prop :=
 match o.guard with
 | none => (match S.fn o (evA fr) with
  | some u => K (updo fr o.dst u) σ
  | none => vcOp S N ops o K kp fr σ)
 | some _ => vcOp S N ops o K kp fr σ
theorem vcOp1_vcOp {S : Sem' P} {N : Nat} {ops : Array Oper} {o : Oper} {K K' : Fr → Store → Prop} (hK : ∀ fr σ, K fr σ → K' fr σ) {kp : Fr → AV → Store → Prop} {fr : Fr} {σ : Store} (h : vcOp1 S N ops o K kp fr σ) : vcOp S N ops o K' kp fr σ := by
 unfold vcOp1 at h
 split at h
 ·rename_i hg
  split at h
  ·rename_i u hf
   obtain ⟨h1, h2⟩ := S.fnOk _ _ _ hf
   refine (vcOp_gives (by rw [h1]; intro e; cases e)).2 ⟨u, ?_, hK _ _ h⟩
   unfold gives
   rw [hg, h1]
   exact h2
  ·exact vcOp_mono hK h
 ·exact vcOp_mono hK h
def vcOps1 (S : Sem' P) (N : Nat) (ops : Array Oper) (K : AX → Fr → Store → Prop) : List Oper → Fr → Store → Prop
 | [], fr, σ => K .norm fr σ
 | o :: rest, fr, σ => vcOp1 S N ops o (vcOps1 S N ops K rest) (fun fr u σ => K (.pan u) fr σ) fr σ
theorem vcOps1_vcOps {S : Sem' P} {N : Nat} {ops : Array Oper} {K : AX → Fr → Store → Prop} : ∀ (l : List Oper) (fr : Fr) (σ : Store), vcOps1 S N ops K l fr σ → vcOps S N ops K l fr σ
 | [], _, _, h => h
 | _ :: rest, _, _, h => vcOp1_vcOp (vcOps1_vcOps rest) h
def vcAny1 (S : Sem' P) (N : Nat) (ops : Array Oper) (kp : Fr → AV → Store → Prop) (K : Fr → Store → Prop) : Nat → Array Bool → Fr → Store → Prop
 | 0, listed, fr, σ => K fr σ
 | n + 1, listed, fr, σ =>
  match (List.range ops.size).find? (frees S ops listed) with
  | some i => match ops[i]? with
   | some o => vcOp1 S N ops o (vcAny1 S N ops kp K n (listed.setIfInBounds i true)) kp fr σ
   | none => False
  | none => match (List.range ops.size).filter (readyAt ops listed) with
   | [] => K fr σ
   | rs => vcAll (fun i fr σ => match ops[i]? with
     | some o => vcOp1 S N ops o (vcAny1 S N ops kp K n (listed.setIfInBounds i true)) kp fr σ
     | none => False) rs fr σ
where vcAll (f : Nat → Fr → Store → Prop) : List Nat → Fr → Store → Prop
  | [], _, _ => True
  | [i], fr, σ => f i fr σ
  | i :: rs, fr, σ => f i fr σ ∧ vcAll f rs fr σ
theorem vcAll_mem {f : Nat → Fr → Store → Prop} : ∀ (rs : List Nat) (fr : Fr) (σ : Store), vcAny1.vcAll f rs fr σ → ∀ i ∈ rs, f i fr σ
 | [], _, _, _, i, hi => by cases hi
 | [j], _, _, h, i, hi => by rw [List.mem_singleton.1 hi]; exact h
 | j :: k :: rs, fr, σ, h, i, hi => by
  rcases List.mem_cons.1 hi with rfl | hi
  ·exact h.1
  ·exact vcAll_mem (k :: rs) fr σ h.2 i hi
theorem vcAny1_vcAny {S : Sem' P} {N : Nat} {ops : Array Oper} {kp : Fr → AV → Store → Prop} {K : Fr → Store → Prop} : ∀ (n : Nat) (listed : Array Bool) (fr : Fr) (σ : Store), vcAny1 S N ops kp K n listed fr σ → vcAny S N ops kp K n listed fr σ
 | 0, _, _, _, h => h
 | n + 1, listed, fr, σ, h => by
  unfold vcAny1 at h
  unfold vcAny
  cases hf : (List.range ops.size).find? (frees S ops listed) with
  | some i =>
   rw [hf] at h
   simp only at h ⊢
   cases ho : ops[i]? with
   | none => rw [ho] at h; exact h
   | some o => rw [ho] at h; exact vcOp1_vcOp (vcAny1_vcAny n _) h
  | none =>
   rw [hf] at h
   simp only at h ⊢
   cases hr : (List.range ops.size).filter (readyAt ops listed) with
   | nil => rw [hr] at h; exact h
   | cons r rs =>
    rw [hr] at h
    simp only at h ⊢
    intro i hi
    have := vcAll_mem _ _ _ h i hi
    cases ho : ops[i]? with
    | none => rw [ho] at this; exact this
    | some o => rw [ho] at this; exact vcOp1_vcOp (vcAny1_vcAny n _) this

end Go.Ab

namespace Go.Ab

structure Ann where
 lp : Nat → List Nat
 jn : Nat → Option (List Nat)
 /-- likewise where the orders of a drawn region meet (by its number) -/
 rj : Nat → Option (List Nat)

def firstRegion : Code → Nat
 | .region id _ _ => id
 | .seq a b => match firstRegion a with
  | 1000000 => firstRegion b
  | n => n
 | .cond _ a b => match firstRegion a with
  | 1000000 => firstRegion b
  | n => n
 | .block _ a => firstRegion a
 | .loop a => firstRegion a
 | .scope a => firstRegion a
 | _ => 1000000

def ixL : List Nat → Nat → Nat
 | [], _ => 0
 | i :: L, t => bif Nat.beq t i then 0 else ixL L t + 1
def mkFr (L : List Nat) (vs : List AV) : Fr := fun t => vs.getD (ixL L t) .undef
theorem ixL_get : ∀ (L : List Nat) (t : Nat), ixL L t < L.length → L[ixL L t]? = some t
 | [], t, h => by simp at h
 | i :: L, t, h => by
  unfold ixL at h ⊢
  cases hb : Nat.beq t i with
  | true => simp [Nat.eq_of_beq_eq_true hb]
  | false =>
   rw [hb] at h
   simp only [cond_false, List.length_cons, Nat.add_lt_add_iff_right, List.getElem?_cons_succ] at h ⊢
   exact ixL_get L t h
theorem ActR.sub {R : RO} {N : Nat} {D : List Deferred} {a : Act} {fr : Fr} {w : World} {σ τ : Store} {vs : List AV} (h : ActR R N D a fr) (hs : St R w σ) (L : List Nat) (hsub : Sub σ (L.map fr) τ vs) :
  ∃ R', ActR R' N D a (mkFr L vs) ∧ St R' w τ ∧ Ext R w σ R' w τ := by
 have hv : VRs R (L.map fun t => a.tmps.getD t Go.undef) (L.map fr) := by
  refine ⟨by simp, fun j u v hu hv => ?_⟩
  rw [List.getElem?_map] at hu hv
  cases hL : L[j]? with
  | none => rw [hL] at hu; cases hu
  | some t =>
   rw [hL] at hu hv
   simp only [Option.map_some, Option.some.injEq] at hu hv
   rw [← hu, ← hv]
   exact h.tmps t
 obtain ⟨R', h1, h2, h3⟩ := hsub R w _ hv hs
 refine ⟨R', ⟨h.size, h.defers, fun t => ?_⟩, h2, h3⟩
 unfold mkFr
 rcases Nat.lt_or_ge (ixL L t) L.length with hlt | hge
 ·have hg := ixL_get L t hlt
  have hlen : vs.length = L.length := by rw [← h1.1]; simp
  have hx : vs[ixL L t]? = some (vs.getD (ixL L t) .undef) := by
   rw [List.getD_eq_getElem?_getD, List.getElem?_eq_getElem (by omega)]; rfl
  exact h1.2 _ _ _ hx (by rw [List.getElem?_map, hg]; rfl)
 ·have hlen : vs.length = L.length := by rw [← h1.1]; simp
  rw [List.getD_eq_getElem?_getD, List.getElem?_eq_none (by omega)]
  exact .undef _
def aCond (c : AV) (x y : Prop) : Prop := match c with
 | .val (.bool b) => if b = true then x else y
 | _ => False
def aJoin (x : (List AV → Store → Prop) → Prop) (y : List AV → Store → Prop) : Prop := ∃ J : List AV → Store → Prop, x (fun vs σ => ∃ vs' τ, Sub σ vs τ vs' ∧ J vs' τ) ∧ ∀ vs σ, J vs σ → y vs σ
def Less (τ σ : Store) : Prop := (∀ R w, St R w σ → St R w τ) ∧ ∀ b ∈ blks τ, b ∈ blks σ
theorem Less.refl (σ : Store) : Less σ σ := ⟨fun _ _ h => h, fun _ h => h⟩
theorem Less.sub {τ σ : Store} (h : τ.Sublist σ) : Less τ σ := ⟨fun _ _ hs => hs.sub h, fun b hb => by
 obtain ⟨e, he, hb⟩ := mem_blks.1 hb
 exact mem_blks.2 ⟨e, h.subset he, hb⟩⟩
theorem Less.perm {τ σ : Store} (h : σ.Perm τ) : Less τ σ := ⟨fun _ _ hs => hs.perm h, fun b hb => (h.filterMap Ent.blk).mem_iff.2 hb⟩
theorem Less.trans {τ σ ρ : Store} (h : Less τ σ) (k : Less σ ρ) : Less τ ρ := ⟨fun R w hs => h.1 R w (k.1 R w hs), fun b hb => k.2 b (h.2 b hb)⟩
theorem Less.ext {R : RO} {w : World} {τ σ : Store} (h : Less τ σ) : Ext R w σ R w τ :=
 ⟨fun _ _ h => h, rfl, rfl, rfl, Nat.le_refl _, fun _ _ _ => rfl, fun k hk => .inl (h.2 k hk), fun _ _ h => .inl h⟩
def aLoop (body : (List AV → Store → Prop) → List AV → Store → Prop) (vals : List AV) (σ : Store) : Prop :=
 ∃ I : Nat → List AV → Store → Prop, (∃ n vs τ, Sub σ vals τ vs ∧ I n vs τ) ∧ ∀ n vs τ, I n vs τ → body (fun vs' σ' => ∃ m vs'' τ', m < n ∧ Sub σ' vs' τ' vs'' ∧ I m vs'' τ') vs τ

def thenX (k : Fr → Store → Prop) (K : AX → Fr → Store → Prop) : AX → Fr → Store → Prop
 | .norm, fr, σ => k fr σ
 | x, fr, σ => K x fr σ
def inBlockX (id : Nat) (K : AX → Fr → Store → Prop) : AX → Fr → Store → Prop
 | .exit i, fr, σ => bif Nat.beq i id then K .norm fr σ else K (.exit i) fr σ
 | x, fr, σ => K x fr σ

variable {P : Program}

def vc (S : Sem' P) (N : Nat) (A : Ann) : Code → (AX → Fr → Store → Prop) → Fr → Store → Prop
 | .skip, K, fr, σ => K .norm fr σ
 | .label _, K, fr, σ => K .norm fr σ
 | .region _ ops false, K, fr, σ => bif ops.toList.all (opFine N ops) then vcOps1 S N ops K ops.toList fr σ else False
 | .region id ops true, K, fr, σ => bif ops.toList.all (opFine N ops) && P.follows .mixedOrders then (match A.rj id with
   | none => vcAny1 S N ops (panK K ops) (K .norm) ops.size (Array.replicate ops.size false) fr σ
   | some L => aJoin (fun j => vcAny1 S N ops (panK K ops) (fun fr σ => j (L.map fr) σ) ops.size (Array.replicate ops.size false) fr σ) (fun vs σ => K .norm (mkFr L vs) σ)) else False
 | .seq a b, K, fr, σ => match A.jn (firstRegion b) with
  | none => vc S N A a (thenX (vc S N A b K) K) fr σ
  | some L => aJoin (fun j => vc S N A a (thenX (fun fr σ => j (L.map fr) σ) K) fr σ) (fun vs σ => vc S N A b K (mkFr L vs) σ)
 | .cond c a b, K, fr, σ => aCond (evA fr c) (vc S N A a K fr σ) (vc S N A b K fr σ)
 | .block id a, K, fr, σ => vc S N A a (inBlockX id K) fr σ
 | .loop a, K, fr, σ => aLoop (fun cont vs σ => vc S N A a (thenX (fun fr σ => cont ((A.lp (firstRegion a)).map fr) σ) K) (mkFr (A.lp (firstRegion a)) vs) σ) ((A.lp (firstRegion a)).map fr) σ
 | .exit id, K, fr, σ => K (.exit id) fr σ
 | .ret, K, fr, σ => K .ret fr σ
 | .scope a, K, fr, σ => vc S N A a K fr σ
 | _, _, _, _ => False

theorem exists_least {p : Nat → Prop} (h : ∃ n, p n) : ∃ n, p n ∧ ∀ m, m < n → ¬ p m := by
 obtain ⟨n, hn⟩ := h
 induction n using Nat.strongRecOn with
 | _ n ih =>
  by_cases h : ∃ m, m < n ∧ p m
  ·obtain ⟨m, hm, hp⟩ := h; exact ih m hm hp
  ·exact ⟨n, hn, fun m hm hp => h ⟨m, hm, hp⟩⟩
noncomputable def least (p : Nat → Prop) : Nat := open Classical in if h : ∃ n, p n then (exists_least h).choose else 0
theorem least_spec {p : Nat → Prop} (h : ∃ n, p n) : p (least p) ∧ ∀ m, m < least p → ¬ p m := by
 unfold least
 rw [dif_pos h]
 exact (exists_least h).choose_spec

theorem vc_sound {S : Sem' P} {N : Nat} {A : Ann} {D : List Deferred} (c : Code) :
  ∀ {K : AX → Fr → Store → Prop} {fr : Fr} {σ : Store}, vc S N A c K fr σ → ∀ {R : RO} {w : World} {a : Act}, ActR R N D a fr → St R w σ →
  ∀ {Q : Exit → Act → World → Prop}, (∀ e a' w', Post N D R w σ K e a' w' → Q e a' w') → c.wp P Q a w := by
 induction c with
 | skip => intro K fr σ h R w a ha hs Q hQ; exact wp_skip (hQ _ _ _ ⟨.norm, fr, σ, R, trivial, h, ha, hs, Ext.refl _ _ _⟩)
 | label l => intro K fr σ h R w a ha hs Q hQ; exact wp_label (hQ _ _ _ ⟨.norm, fr, σ, R, trivial, h, ha, hs, Ext.refl _ _ _⟩)
 | exit id => intro K fr σ h R w a ha hs Q hQ; exact wp_exit (hQ _ _ _ ⟨.exit id, fr, σ, R, rfl, h, ha, hs, Ext.refl _ _ _⟩)
 | ret => intro K fr σ h R w a ha hs Q hQ; exact wp_ret (hQ _ _ _ ⟨.ret, fr, σ, R, trivial, h, ha, hs, Ext.refl _ _ _⟩)
 | region id ops draw =>
  intro K fr σ h R w a ha hs Q hQ
  cases draw with
  | false =>
   unfold vc at h
   cases hf : ops.toList.all (opFine N ops) with
   | false => rw [hf] at h; exact h.elim
   | true =>
    rw [hf] at h
    exact wp_region_list (vcOps_sound ops.toList (fun o ho => List.all_eq_true.1 hf o ho) (vcOps1_vcOps _ _ _ h) ha hs hQ)
  | true =>
   unfold vc at h
   cases hf : (ops.toList.all (opFine N ops) && P.follows .mixedOrders) with
   | false => rw [hf] at h; exact h.elim
   | true =>
    rw [hf] at h
    simp only [Bool.and_eq_true] at hf
    refine wp_region_any hf.2 ?_
    have hs' : St R { w with drawn := w.drawn + 1 } σ := by
     refine ⟨hs.ro, fun e he => ?_, hs.apart⟩
     exact (hs.ents e he).keep (fun _ _ h => h) (fun _ _ => rfl) (fun _ _ _ _ h _ => h)
    have hx : Ext R w σ R { w with drawn := w.drawn + 1 } σ := ⟨fun _ _ h => h, rfl, rfl, rfl, Nat.le_refl _, fun _ _ _ => rfl, fun _ h => .inl h, fun _ _ h => .inl h⟩
    have hlen : (open_ ops (Array.replicate ops.size false)).length ≤ ops.size := Nat.le_trans (List.length_filter_le _ _) (by simp)
    have hof : ∀ (i : Nat) (o : Oper), ops[i]? = some o → opFine N ops o = true := fun i o ho => List.all_eq_true.1 hf.1 o (Array.mem_toList_iff.2 (Array.mem_of_getElem? ho))
    cases hj : A.rj id with
    | none =>
     rw [hj] at h
     exact vcAny_sound hof ops.size hlen (vcAny1_vcAny _ _ _ _ h) ha hs' fun e a' w' hp => hQ _ _ _ (hp.trans hx)
    | some L =>
     rw [hj] at h
     obtain ⟨J, h, hJ⟩ := h
     refine vcAny_sound (K := fun x fr σ => match x with | .norm => ∃ vs' τ, Sub σ (L.map fr) τ vs' ∧ J vs' τ | .pan u => K (.pan u) fr σ | _ => False) hof ops.size hlen (vcAny1_vcAny _ _ _ _ h) ha hs' ?_
     rintro e a' w' ⟨ax, fr', σ', R', h1, h2, h3, h4, h5⟩
     cases ax with
     | norm =>
      obtain ⟨vs', τ, hsub, h2⟩ := h2
      obtain ⟨R2, g1, g2, g3⟩ := h3.sub h4 L hsub
      cases e with
      | normal => exact hQ _ _ _ ⟨.norm, _, τ, R2, trivial, hJ _ _ h2, g1, g2, (hx.trans h5).trans g3⟩
      | _ => exact h1.elim
     | pan u => exact hQ _ _ _ ⟨.pan u, fr', σ', R', h1, h2, h3, h4, hx.trans h5⟩
     | _ => exact h2.elim
 | seq x y ihx ihy =>
  intro K fr σ h R w a ha hs Q hQ
  unfold vc at h
  have go : ∀ (k : Fr → Store → Prop), (∀ fr σ, k fr σ → ∀ {R : RO} {w : World} {a : Act}, ActR R N D a fr → St R w σ → ∀ {Q : Exit → Act → World → Prop}, (∀ e a' w', Post N D R w σ K e a' w' → Q e a' w') → y.wp P Q a w) →
    vc S N A x (thenX k K) fr σ → (Code.seq x y).wp P Q a w := by
   intro k hk hv
   refine wp_seq (ihx hv ha hs ?_)
   rintro e a' w' ⟨ax, fr', σ', R', h1, h2, h3, h4, h5⟩
   cases e with
   | normal =>
    cases ax with
    | norm => exact hk fr' σ' h2 h3 h4 fun e a'' w'' hp => hQ _ _ _ (hp.trans h5)
    | _ => exact h1.elim
   | exit i =>
    cases ax with
    | exit j => exact hQ _ _ _ ⟨.exit j, fr', σ', R', h1, h2, h3, h4, h5⟩
    | _ => exact h1.elim
   | goto l => cases ax <;> exact h1.elim
   | ret =>
    cases ax with
    | ret => exact hQ _ _ _ ⟨.ret, fr', σ', R', h1, h2, h3, h4, h5⟩
    | _ => exact h1.elim
   | panic ch =>
    cases ax with
    | pan u => exact hQ _ _ _ ⟨.pan u, fr', σ', R', h1, h2, h3, h4, h5⟩
    | _ => exact h1.elim
   | outgrown => cases ax <;> exact h1.elim
  cases hj : A.jn (firstRegion y) with
  | none =>
   rw [hj] at h
   exact go _ (fun fr σ hk _ _ _ ha hs _ hQ => ihy hk ha hs hQ) h
  | some L =>
   rw [hj] at h
   obtain ⟨J, h, hJ⟩ := h
   exact go _ (fun fr σ hk _ _ _ ha hs _ hQ => by
    obtain ⟨vs', τ, hsub, hk⟩ := hk
    obtain ⟨R2, g1, g2, g3⟩ := ha.sub hs L hsub
    exact ihy (hJ _ _ hk) g1 g2 fun e a' w' hp => hQ _ _ _ (hp.trans g3)) h
 | cond c x y ihx ihy =>
  intro K fr σ h R w a ha hs Q hQ
  unfold vc aCond at h
  have hv := ha.eval c
  split at h
  ·rename_i b hb
   rw [hb] at hv
   refine wp_cond hv.val_inv ?_
   cases b with
   | true => exact ihx h ha hs hQ
   | false => exact ihy (by simpa using h) ha hs hQ
  ·exact h.elim
 | block id x ih =>
  intro K fr σ h R w a ha hs Q hQ
  unfold vc at h
  refine wp_block (ih h ha hs ?_)
  rintro e a' w' ⟨ax, fr', σ', R', h1, h2, h3, h4, h5⟩
  cases e with
  | normal =>
   cases ax with
   | norm => exact hQ _ _ _ ⟨.norm, fr', σ', R', h1, h2, h3, h4, h5⟩
   | _ => exact h1.elim
  | exit i =>
   cases ax with
   | exit j =>
    cases h1
    simp only [inBlockX] at h2
    simp only [Exit.inBlock]
    by_cases he : i = id
    ·subst he
     rw [if_pos rfl]
     have hb : Nat.beq i i = true := Nat.beq_refl i
     rw [hb] at h2
     exact hQ _ _ _ ⟨.norm, fr', σ', R', trivial, h2, h3, h4, h5⟩
    ·rw [if_neg he]
     have hb : Nat.beq i id = false := by
      cases hb : Nat.beq i id with
      | false => rfl
      | true => exact absurd (Nat.eq_of_beq_eq_true hb) he
     rw [hb] at h2
     exact hQ _ _ _ ⟨.exit i, fr', σ', R', rfl, h2, h3, h4, h5⟩
   | _ => exact h1.elim
  | goto l => cases ax <;> exact h1.elim
  | ret =>
   cases ax with
   | ret => exact hQ _ _ _ ⟨.ret, fr', σ', R', h1, h2, h3, h4, h5⟩
   | _ => exact h1.elim
  | panic ch =>
   cases ax with
   | pan u => exact hQ _ _ _ ⟨.pan u, fr', σ', R', h1, h2, h3, h4, h5⟩
   | _ => exact h1.elim
  | outgrown => cases ax <;> exact h1.elim
 | scope x ih =>
  intro K fr σ h R w a ha hs Q hQ
  unfold vc at h
  refine wp_scope_straight (ih h ha hs ?_)
  rintro e a' w' ⟨ax, fr', σ', R', h1, h2, h3, h4, h5⟩
  have hq := hQ e a' w' ⟨ax, fr', σ', R', h1, h2, h3, h4, h5⟩
  cases e with
  | goto l => cases ax <;> exact h1.elim
  | _ => exact hq
 | loop x ih =>
  intro K fr σ h R0 w0 a0 ha0 hs0 Q hQ
  unfold vc aLoop at h
  obtain ⟨I, ⟨n0, vs0, τ0, hl0, hI0⟩, hround⟩ := h
  obtain ⟨Rs, k1, k2, k3⟩ := ha0.sub hs0 _ hl0
  let L := A.lp (firstRegion x)
  let Inv : Nat → Act → World → Prop := fun n a w => ∃ vs τ R, I n vs τ ∧ ActR R N D a (mkFr L vs) ∧ St R w τ ∧ Ext R0 w0 σ R w τ
  refine wp_loop (fun a w => ∃ n, Inv n a w) (fun a w => least fun n => Inv n a w) ⟨n0, _, τ0, Rs, hI0, k1, k2, k3⟩ ?_
  intro a w hex
  obtain ⟨⟨vs, τ, R, hI, ha, hs, hx⟩, _⟩ := least_spec hex
  refine ih (hround _ vs τ hI) ha hs ?_
  rintro e a' w' ⟨ax, fr', σ', R', h1, h2, h3, h4, h5⟩
  cases e with
  | normal =>
   cases ax with
   | norm =>
    obtain ⟨m, vs'', τ', hm, hl, hI'⟩ := h2
    obtain ⟨R2, g1, g2, g3⟩ := h3.sub h4 _ hl
    have hinv : Inv m a' w' := ⟨_, τ', R2, hI', g1, g2, (hx.trans h5).trans g3⟩
    refine ⟨⟨m, hinv⟩, ?_⟩
    have hex' : ∃ n, Inv n a' w' := ⟨m, hinv⟩
    have hle : least (fun n => Inv n a' w') ≤ m := by
     rcases Nat.lt_or_ge m (least fun n => Inv n a' w') with hlt | hge
     ·exact absurd hinv ((least_spec hex').2 m hlt)
     ·exact hge
    exact Nat.lt_of_le_of_lt hle hm
   | _ => exact h1.elim
  | exit i =>
   cases ax with
   | exit j => exact hQ _ _ _ ⟨.exit j, fr', σ', R', h1, h2, h3, h4, hx.trans h5⟩
   | _ => exact h1.elim
  | goto l => cases ax <;> exact h1.elim
  | ret =>
   cases ax with
   | ret => exact hQ _ _ _ ⟨.ret, fr', σ', R', h1, h2, h3, h4, hx.trans h5⟩
   | _ => exact h1.elim
  | panic ch =>
   cases ax with
   | pan u => exact hQ _ _ _ ⟨.pan u, fr', σ', R', h1, h2, h3, h4, hx.trans h5⟩
   | _ => exact h1.elim
  | outgrown => cases ax <;> exact h1.elim
 | _ => intro K fr σ h; exact h.elim

def argFr (args : List AV) : Fr := fun j => args.getD j .undef

theorem calls_args {R : RO} {vs : List Value} {args : List AV} (h : VRs R vs args) (n : Nat) (hn : args.length ≤ n) :
  ActR R n [] { tmps := vs.toArray ++ Array.replicate (n - vs.toArray.size) Go.undef, defers := [] } (argFr args) := by
 refine ⟨by simp; have := h.1; omega, rfl, fun t => ?_⟩
 rcases Nat.lt_or_ge t args.length with ht | ht
 ·obtain ⟨v, hv, hr⟩ := h.get (List.getElem?_eq_getElem ht)
  have ht' : t < vs.length := (List.getElem?_eq_some_iff.1 hv).1
  have e1 : argFr args t = args[t] := by simp [argFr, List.getD_eq_getElem?_getD, List.getElem?_eq_getElem ht]
  have e2 : (vs.toArray ++ Array.replicate (n - vs.toArray.size) Go.undef).getD t Go.undef = v := by
   rw [Array.getD_eq_getD_getElem?, Array.getElem?_append_left (by simpa using ht'), List.getElem?_toArray, hv]
   rfl
  show VR R ((vs.toArray ++ Array.replicate (n - vs.toArray.size) Go.undef).getD t Go.undef) _
  rw [e1, e2]
  exact hr
 ·have e1 : argFr args t = .undef := by simp [argFr, List.getD_eq_getElem?_getD, List.getElem?_eq_none ht]
  rw [e1]
  exact .undef _

def resTmps : List ResultVar → Option (List Nat)
 | [] => some []
 | .tmp t :: rs => (resTmps rs).map (t :: ·)
 | _ :: _ => none
def resA (l : List Nat) (fr : Fr) : AV := match l with
 | [t] => fr t
 | l => .tuple (l.map fr)

theorem results_run {P : Program} {fn : Func} {l : List Nat} (h : resTmps fn.results.toList = some l) (tmps : Array Value) (w : World) :
  (results fn tmps).run P w = .ok (match l with | [t] => tmps.getD t Go.undef | l => .tuple (l.map fun t => tmps.getD t Go.undef).toArray) w := by
 have key : ∀ (g : ResultVar → Sem Value) (f : Nat → Value), (∀ t, g (.tmp t) = pure (f t)) → ∀ (rs : List ResultVar) (l : List Nat), resTmps rs = some l → (rs.mapM g).run P w = .ok (l.map f) w := by
  intro g f hg rs
  induction rs with
  | nil => intro l hl; simp [resTmps] at hl; subst hl; simp
  | cons r rs ih =>
   intro l hl
   cases r with
   | cell a t => simp [resTmps] at hl
   | tmp t =>
    simp only [resTmps, Option.map_eq_some_iff] at hl
    obtain ⟨l', hl', rfl⟩ := hl
    simp only [List.mapM_cons, hg, Sem.run_bind, Sem.run_pure, Result.andThen_ok, ih l' hl', List.map_cons]
 unfold results
 rw [Array.mapM_eq_mapM_toList]
 simp only [Sem.run_bind, Sem.run_map]
 rw [key _ (fun t => tmps.getD t Go.undef) (fun t => rfl) _ _ h]
 simp only [Result.andThen_ok, Sem.run_pure]
 congr 1
 cases l with
 | nil => simp
 | cons t l =>
  cases l with
  | nil => simp
  | cons u l => simp

end Go.Ab

namespace Go.Ab

def isAggB (P : Program) (t : TypeId) : Option Bool := match P.underlying t with
 | some (.struct _) | some (.array _ _) => some true
 | some _ => some false
 | none => none
def shapeOf (P : Program) (t : TypeId) : Option (Bool × Nat) := match isAggB P t, P.info? t with
 | some b, some i => some (b, i.size)
 | _, _ => none
def fieldOf (P : Program) (t : TypeId) (i : Nat) : Option (Nat × Bool × Nat) := match P.underlying t with
 | some (.struct fs) => match fs[i]? with
  | some f => match shapeOf P f.type with
   | some (b, s) => some (f.offset, b, s)
   | none => none
  | none => none
 | _ => none
inductive Con where
 | slice | array (n : Nat) | string
def elemOf (P : Program) (t : TypeId) : Option (Con × Bool × Nat) := match P.underlying t with
 | some (.slice e) => match shapeOf P e with
  | some (b, s) => some (.slice, b, s)
  | none => none
 | some (.array n e) => match shapeOf P e with
  | some (b, s) => some (.array n, b, s)
  | none => none
 | some .string => some (.string, false, 1)
 | _ => none

theorem run_isAgg {P : Program} {t : TypeId} {b : Bool} (h : isAggB P t = some b) (w : World) : (isAgg t).run P w = .ok b w := by
 unfold isAggB at h
 cases hu : P.underlying t with
 | none => rw [hu] at h; cases h
 | some d =>
  rw [hu] at h
  cases d <;> simp [isAgg, run_underlying hu] at h ⊢ <;> exact h
theorem run_sizeOf {P : Program} {t : TypeId} {i : TypeInfo} (h : P.info? t = some i) (w : World) : (sizeOf t).run P w = .ok i.size w := by simp [sizeOf, typeInfo, h]
theorem shapeOf_run {P : Program} {t : TypeId} {b : Bool} {s : Nat} (h : shapeOf P t = some (b, s)) (w : World) : (isAgg t).run P w = .ok b w ∧ (sizeOf t).run P w = .ok s w := by
 unfold shapeOf at h
 split at h
 ·rename_i b' i hb hi
  simp only [Option.some.injEq, Prod.mk.injEq] at h
  obtain ⟨rfl, rfl⟩ := h
  exact ⟨run_isAgg hb w, run_sizeOf hi w⟩
 ·cases h

def mkV (ag : Bool) (cs : List AV) : AV := bif ag then .agg cs else cs.headD .undef
def mkC (ag : Bool) (cs : List Value) : Value := if ag then .agg cs.toArray else cs.headD Go.undef
theorem mkV_rel {R : RO} {vs : List Value} {cs : List AV} (h : VRs R vs cs) (ag : Bool) : VR R (mkC ag vs) (mkV ag cs) := by
 cases ag with
 | true => exact VR.agg' h
 | false =>
  cases cs with
  | nil => exact .undef _
  | cons u us =>
   cases vs with
   | nil => have := h.1; simp at this
   | cons v vs => exact h.2 0 u v rfl rfl

def aPick (c a b u : AV) : Prop := match c with
 | .val (.bool t) => u = if t = true then a else b
 | _ => False
def aNil (x u : AV) : Prop := match x with
 | .val (.pointer (some a)) => u = x
 | .rptr _ => u = x
 | .eptr _ _ _ _ => u = x
 | .val (.func f a b) => match f with
  | .method _ => False
  | _ => u = x
 | .fn f _ _ => match f with
  | .method _ => False
  | _ => u = x
 | _ => False
def aExt (x : AV) (i : Nat) (u : AV) : Prop := match x with
 | .tuple us => us[i]? = some u
 | _ => False
def aField (off : Nat) (ag : Bool) (s : Nat) (x u : AV) : Prop := match x with
 | .agg cs => off + s ≤ cs.length ∧ (ag = false → s = 1) ∧ u = mkV ag ((cs.drop off).take s)
 | _ => False
def aFieldAddr (off s : Nat) (x u : AV) : Prop := 0 < s ∧ match x with
 | .val (.pointer (some a)) => u = .val (.pointer (some (a.add off)))
 | .rptr cs => off + s ≤ cs.length ∧ u = .rptr ((cs.drop off).take s)
 | .eptr v sz i j => u = .eptr v sz i (j + off)
 | _ => False
def ixOf (x : AV) : Option Int := match x with
 | .val (.int _ n) => some n
 | _ => none
def aIndexAddr (c : Con) (sz : Nat) (x i u : AV) : Prop := match c, ixOf i with
 | .slice, some i => match x with
  | .lst z l _ => z = sz ∧ 0 ≤ i ∧ i < l.length ∧ u = .rptr (l.getD i.toNat .undef).cells
  | .own v n => 0 ≤ i ∧ i < n ∧ u = .eptr v sz i.toNat 0
  | .sub v z a n => z = sz ∧ 0 ≤ i ∧ i < n ∧ u = .eptr v sz (a + i.toNat) 0
  | .val (.slice (some a) n _) => 0 ≤ i ∧ i < n ∧ u = .val (.pointer (some (a.add (i.toNat * sz))))
  | _ => False
 | .array n, some i => 0 ≤ i ∧ i < n ∧ match x with
  | .val (.pointer (some a)) => u = .val (.pointer (some (a.add (i.toNat * sz))))
  | .rptr cs => (i.toNat + 1) * sz ≤ cs.length ∧ u = .rptr ((cs.drop (i.toNat * sz)).take sz)
  | .eptr v z e j => u = .eptr v z e (j + i.toNat * sz)
  | _ => False
 | _, _ => False
def aIndex (c : Con) (ag : Bool) (sz : Nat) (x i u : AV) : Prop := match c, ixOf i with
 | .string, some i => match x with
  | .val (.string s) => 0 ≤ i ∧ ∃ h : i.toNat < s.size, u = .val (.int .u8 s[i.toNat].toNat)
  | _ => False
 | .array n, some i => 0 ≤ i ∧ i < n ∧ match x with
  | .agg cs => (i.toNat + 1) * sz ≤ cs.length ∧ (ag = false → sz = 1) ∧ u = mkV ag ((cs.drop (i.toNat * sz)).take sz)
  | _ => False
 | _, _ => False
def bdOf (x : Option AV) (d : Int) : Option Int := match x with
 | none => some d
 | some x => ixOf x
def capV : Value → Nat
 | .slice _ _ c => c
 | _ => 0
def aSlice (c : Con) (sz : Nat) (x : AV) (lo hi mx : Option AV) (u : AV) : Prop := match c with
 | .string => match x, bdOf lo 0, mx with
  | .val (.string s), some l, none => match bdOf hi s.size with
   | some h => 0 ≤ l ∧ l ≤ h ∧ h ≤ s.size ∧ u = .val (.string (s.extract l.toNat h.toNat))
   | none => False
  | _, _, _ => False
 | .slice => match x, bdOf lo 0 with
  | .lst z xs m, some l => match bdOf hi xs.length, mx with
   | some h, none => z = sz ∧ 0 ≤ l ∧ l ≤ h ∧ h ≤ xs.length ∧ u = .lst sz ((xs.take h.toNat).drop l.toNat) .ro
   | some h, some mx => z = sz ∧ 0 ≤ l ∧ l ≤ h ∧ h ≤ xs.length ∧ ixOf mx = some h ∧ hi.isSome = true ∧ u = .lst sz ((xs.take h.toNat).drop l.toNat) .full
   | _, _ => False
  | .own v n, some l => match bdOf hi n, mx with
   | some h, none => 0 ≤ l ∧ l ≤ h ∧ h ≤ n ∧ u = .sub v sz l.toNat (h - l).toNat
   | _, _ => False
  | .sub v z a n, some l => match bdOf hi n, mx with
   | some h, none => z = sz ∧ 0 < sz ∧ 0 ≤ l ∧ l ≤ h ∧ (h ≤ n ∨ a + h ≤ capV v) ∧ u = .sub v sz (a + l.toNat) (h - l).toNat
   | _, _ => False
  | .val (.slice (some a) n cap), some l => match bdOf hi n, mx with
   | some h, none => 0 ≤ l ∧ l ≤ h ∧ h ≤ cap ∧ u = .val (.slice (some (if cap = l.toNat then a else a.add (l.toNat * sz))) (h - l).toNat (cap - l.toNat))
   | _, _ => False
  | _, _ => False
 | .array n => match x, bdOf lo 0, bdOf hi n, mx with
  | .val (.pointer (some a)), some l, some h, none => 0 ≤ l ∧ l ≤ h ∧ h ≤ n ∧ u = .val (.slice (some (if n = l.toNat then a else a.add (l.toNat * sz))) (h - l).toNat (n - l.toNat))
  | .rptr cs, some l, some h, none => sz = 1 ∧ 0 ≤ l ∧ l ≤ h ∧ h ≤ n ∧ n = cs.length ∧ n ≤ maxLen ∧ (∀ c ∈ cs, c.cells = [c]) ∧ (∀ c ∈ cs, c.one = true) ∧ u = .lst 1 ((cs.take h.toNat).drop l.toNat) .ro
  | _, _, _, _ => False
def splice (cs : List AV) (off : Nat) (new : List AV) : List AV := cs.take off ++ new ++ cs.drop (off + new.length)
def fillA (place : Nat → Option (Nat × Nat)) (cs : List AV) : List (Nat × AV) → Option (List AV)
 | [] => some cs
 | (i, v) :: rest => match place i with
  | none => none
  | some (off, s) => if v.cells.length = s ∧ off + s ≤ cs.length then fillA place (splice cs off v.cells) rest else none
def aBuild (zs : List AV) (pl : Nat → Option (Nat × Nat)) (parts : List (Nat × AV)) (u : AV) : Prop := ∃ cs, fillA pl zs parts = some cs ∧ u = .agg cs
def aBuildSl (z : AV) (sz n : Nat) (parts : List (Nat × AV)) (u : AV) : Prop :=
 ∃ l, l.length = n ∧ (∀ e ∈ l, (e : AV).cells.length = sz) ∧ fillA (fun i => some (i * sz, sz)) ((List.replicate n z.cells).flatten) parts = some (flat l) ∧ u = .lst sz l .full
def mayBe (x : AV) (c : Value) : Prop := match x with
 | .lst _ l m => if m = .nil then c = .slice none 0 0 else if l = [] then True else ∃ a n cap, c = .slice (some a) n cap
 | .own _ n => if n = 0 then True else ∃ a m cap, c = .slice (some a) m cap
 | .sub v _ _ _ => (v = .slice none 0 0 ∧ c = .slice none 0 0) ∨ (v ≠ .slice none 0 0 ∧ ∃ a m cap, c = .slice (some a) m cap)
 | .ifc t _ => ∃ v, c = .iface t v
 | _ => True
def allVals : List AV → Option (List Value)
 | [] => some []
 | .val v :: l => (allVals l).map (v :: ·)
 | _ :: _ => none
def plainV : AV → Option Value
 | .val v => some v
 | .agg cs => (allVals cs).map fun vs => .agg (List.toArray vs)
 | _ => none
def aBin (P : Program) (op : BinOp) (t : TypeId) (x y u : AV) : Prop := match plainV x, plainV y with
 | some a, some b => ∃ v, u = .val v ∧ ∀ (xo yo : Operand) (w : World), (do eqGuard op t xo yo a b; binOp op t a b : Sem Value).run P w = .ok v w
 | _, some (.slice none 0 0) => ∃ v, u = .val v ∧ ∀ c : Value, mayBe x c → ∀ (xo yo : Operand) (w : World), (do eqGuard op t xo yo c (.slice none 0 0); binOp op t c (.slice none 0 0) : Sem Value).run P w = .ok v w
 | _, some .nilIface => ∃ v, u = .val v ∧ ∀ c : Value, mayBe x c → ∀ (xo yo : Operand) (w : World), (do eqGuard op t xo yo c .nilIface; binOp op t c .nilIface : Sem Value).run P w = .ok v w
 | _, _ => False
def aUn (P : Program) (op : UnOp) (x u : AV) : Prop := match x with
 | .val a => ∃ v, u = .val v ∧ ∀ w : World, (Op.unary op a).run P w = .ok v w
 | _ => False
def byt (b : UInt8) : AV := .val (.int .u8 b.toNat)
def isBytes (P : Program) (t : TypeId) : Bool := match P.underlying t with
 | some (.slice e) => match P.underlying e with
  | some (.int .u8) => true
  | _ => false
 | _ => false
def isString (P : Program) (t : TypeId) : Bool := match P.underlying t with
 | some .string => true
 | _ => false
def aConv (P : Program) (s d : TypeId) (x u : AV) : Prop :=
 if (isString P s && isBytes P d) = true then match x with
  | .val (.string str) => str.size ≤ maxLen ∧ u = .lst 1 (str.data.toList.map byt) .ro
  | _ => False
 else if (isBytes P s && isString P d) = true then match x with
  | .lst _ l _ => ∃ bs : List UInt8, l = bs.map byt ∧ u = .val (.string ⟨bs.toArray⟩)
  | _ => False
 else match x with
  | .val a => ∃ v, u = .val v ∧ ∀ w : World, (convert s d a).run P w = .ok v w
  | _ => False
def aBuiltin (P : Program) (b : Builtin) (ts : Array TypeId) (args : List AV) (u : AV) : Prop := match b, args with
 | .len, [.lst _ l _] => (∃ e, ts[0]? = some e ∧ ∃ d, P.underlying e = some (.slice d)) ∧ u = .val (.int .i64 l.length)
 | .len, [.own _ n] => (∃ e, ts[0]? = some e ∧ ∃ d, P.underlying e = some (.slice d)) ∧ u = .val (.int .i64 n)
 | .len, [.sub _ _ _ n] => (∃ e, ts[0]? = some e ∧ ∃ d, P.underlying e = some (.slice d)) ∧ u = .val (.int .i64 n)
 | .cap, [.own v _] => (∃ e, ts[0]? = some e ∧ ∃ d, P.underlying e = some (.slice d)) ∧ u = .val (.int .i64 (capV v))
 | .cap, [.sub v _ a _] => (∃ e, ts[0]? = some e ∧ ∃ d, P.underlying e = some (.slice d)) ∧ u = .val (.int .i64 ((capV v - a : Nat) : Int))
 | b, args => (match b with | .len | .min | .max | .cap => True | _ => False) ∧ ∃ vs v, allVals args = some vs ∧ u = .val v ∧ ∀ (ty : TypeId) (cs : Array Bool) (w : World), (builtin b ts ty cs vs.toArray).run P w = .ok (.value v) w
def aPure (P : Program) (f : FuncId) (args : List AV) (u : AV) : Prop := ACalls P f args [] fun x σ' => x = .ret u ∧ σ' = []

end Go.Ab

namespace Go.Ab
variable {P : Program}

def PRun (P : Program) (s : (Operand → Value) → Sem Next) (ρ : Operand → AV) (u : AV) : Prop :=
 ∀ (R : RO) (w : World) (ev : Operand → Value) (σ : Store), (∀ x, VR R (ev x) (ρ x)) → St R w σ →
  ∃ v w' R', (s ev).run P w = .ok (.value v) w' ∧ VR R' v u ∧ St R' w' σ ∧ Ext R w σ R' w' σ
theorem PRun.aop {o : Oper} {ρ : Operand → AV} {u : AV} (h : PRun P (fun ev => execOp ev o) ρ u) {σ : Store} {k kp : AV → Store → Prop} (hk : k u σ) : AOp P o ρ σ k kp :=
 AOp.ofRun fun R w ev ha hs => let ⟨v, w', R', h1, h2, h3, h4⟩ := h R w ev σ ha hs; ⟨v, w', u, R', σ, h1, hk, h2, h3, h4⟩
theorem PRun.still {s : (Operand → Value) → Sem Next} {ρ : Operand → AV} {u : AV}
  (h : ∀ (R : RO) (w : World) (ev : Operand → Value), (∀ x, VR R (ev x) (ρ x)) → (∀ a v, R a = some v → w.cell? a = some v) → ∃ v, (s ev).run P w = .ok (.value v) w ∧ VR R v u) : PRun P s ρ u :=
 fun R w ev σ ha hs => let ⟨v, h1, h2⟩ := h R w ev ha hs.ro; ⟨v, w, R, h1, h2, hs, Ext.refl _ _ _⟩

theorem pr_move {ρ : Operand → AV} (x : Operand) : PRun P (fun ev => pure (.value (ev x))) ρ (ρ x) := PRun.still fun R w ev ha _ => ⟨_, rfl, ha x⟩

theorem pr_pick {ρ : Operand → AV} {c a b : Operand} {u : AV} (h : aPick (ρ c) (ρ a) (ρ b) u) : PRun P (fun ev => do pure (.value (if ← asBool (ev c) then ev a else ev b))) ρ u := by
 refine PRun.still fun R w ev ha _ => ?_
 unfold aPick at h
 have hc := ha c
 split at h
 ·rename_i t ht
  rw [ht] at hc
  rw [hc.val_inv]
  cases t with
  | true => exact ⟨ev a, by simp [asBool], by rw [h]; exact ha a⟩
  | false => exact ⟨ev b, by simp [asBool], by rw [h]; simpa using ha b⟩
 ·exact h.elim

theorem pr_nil {ρ : Operand → AV} {o : Oper} {x : Operand} (ho : o.op = .nilCheck x) {u : AV} (h : aNil (ρ x) u) : PRun P (fun ev => execOp ev o) ρ u := by
 refine PRun.still fun R w ev ha _ => ?_
 have hx := ha x
 unfold aNil at h
 split at h
 ·rename_i a e
  rw [e] at hx h
  have := hx.val_inv
  exact ⟨ev x, by simp [execOp, ho, this], by rw [h]; exact hx⟩
 ·rename_i cs e
  rw [e] at hx h
  refine ⟨ev x, ?_, by rw [h]; exact hx⟩
  cases hv : ev x <;> rw [hv] at hx <;> cases hx
  simp [execOp, ho, hv]
 ·rename_i v sz i j e
  rw [e] at hx h
  refine ⟨ev x, ?_, by rw [h]; exact hx⟩
  cases hv : ev x <;> rw [hv] at hx <;> cases hx
  simp [execOp, ho, hv]
 ·rename_i f a b e
  rw [e] at hx
  have hv := hx.val_inv
  cases f with
  | method n => exact h.elim
  | _ => exact ⟨ev x, by simp [execOp, ho, hv], by rw [h]; rw [e]; exact hx⟩
 ·rename_i f a b e
  rw [e] at hx
  cases f with
  | method n => exact h.elim
  | _ =>
   refine ⟨ev x, ?_, by rw [h]; rw [e]; exact hx⟩
   cases hv : ev x <;> rw [hv] at hx <;> cases hx
   simp [execOp, ho, hv]
 ·exact h.elim

theorem pr_ext {ρ : Operand → AV} {x : Operand} {i : Nat} {u : AV} (h : aExt (ρ x) i u) : PRun P (fun ev => do pure (.value (← Instr.extract (ev x) i))) ρ u := by
 refine PRun.still fun R w ev ha _ => ?_
 have hx := ha x
 unfold aExt at h
 split at h
 ·rename_i us e
  rw [e] at hx
  obtain ⟨vs, hv, hr⟩ := hx.tuple_inv
  obtain ⟨v, h1, h2⟩ := hr.get h
  exact ⟨v, by simp [Instr.extract, hv, h1], h2⟩
 ·exact h.elim

theorem part_run {t : TypeId} {b : Bool} {s : Nat} (h : shapeOf P t = some (b, s)) {vs : List Value} {off : Nat} (hl : off + s ≤ vs.length) (h1 : b = false → s = 1) (w : World) :
  (part t vs.toArray off).run P w = .ok (mkC b ((vs.drop off).take s)) w := by
 obtain ⟨ha, hs⟩ := shapeOf_run h w
 cases b with
 | true =>
  simp only [part, Sem.run_bind, ha, Result.andThen_ok, if_true, hs, Sem.run_pure]
  congr 1
  simp only [mkC, if_true]
  congr 1
  apply Array.ext'
  simp
 | false =>
  have h1 := h1 rfl
  subst h1
  have hlt : off < vs.length := by omega
  simp only [part, Sem.run_bind, ha, Result.andThen_ok, Bool.false_eq_true, if_false, List.getElem?_toArray, List.getElem?_eq_getElem hlt, Sem.run_pure]
  congr 1
  simp only [mkC, Bool.false_eq_true, if_false]
  rw [List.drop_eq_getElem_cons hlt]
  rfl

theorem pr_field {ρ : Operand → AV} {t : TypeId} {x : Operand} {i : Nat} {off : Nat} {ag : Bool} {s : Nat} (hf : fieldOf P t i = some (off, ag, s)) {u : AV} (h : aField off ag s (ρ x) u) :
  PRun P (fun ev => do pure (.value (← Instr.field t (ev x) i))) ρ u := by
 refine PRun.still fun R w ev ha _ => ?_
 have hx := ha x
 unfold aField at h
 split at h
 ·rename_i cs e
  rw [e] at hx
  obtain ⟨vs, hv, hr⟩ := hx.agg_inv
  obtain ⟨hl, h1, hu⟩ := h
  unfold fieldOf at hf
  split at hf
  ·rename_i fs hu'
   split at hf
   ·rename_i f hfi
    split at hf
    ·rename_i b s' hsh
     simp only [Option.some.injEq, Prod.mk.injEq] at hf
     obtain ⟨rfl, rfl, rfl⟩ := hf
     refine ⟨mkC b ((vs.drop f.offset).take s'), ?_, ?_⟩
     ·have := part_run (P := P) hsh (vs := vs) (off := f.offset) (by rw [hr.1]; exact hl) h1 w
      simp [Instr.field, run_underlying hu', hfi, hv, asAgg, this]
     ·rw [hu]; exact mkV_rel ((hr.drop _).take _) _
    ·cases hf
   ·cases hf
  ·cases hf
 ·exact h.elim

theorem addr_add_add (a : Addr) (i j : Nat) : (a.add i).add j = a.add (i + j) := by
 unfold Addr.add
 by_cases h1 : i = 0 <;> by_cases h2 : j = 0 <;> simp [h1, h2, Nat.add_assoc]
theorem addr_add_zero (a : Addr) : a.add 0 = a := by simp [Addr.add]
theorem addr_lit_add (b o i : Nat) : (⟨b, o, none⟩ : Addr).add i = ⟨b, o + i, none⟩ := by
 unfold Addr.add; split
 ·rename_i h; simp [h]
 ·rfl

theorem VR.eptr_inv {R : RO} {v x : Value} {sz i j : Nat} (h : VR R v (.eptr x sz i j)) : ∃ g n cap, x = .slice (some ⟨g, 0, none⟩) n cap ∧ v = .pointer (some ⟨g, i * sz + j, none⟩) := by
 cases h with
 | eptr => exact ⟨_, _, _, rfl, rfl⟩
theorem VR.rptr_inv {R : RO} {v : Value} {cs : List AV} (h : VR R v (.rptr cs)) : ∃ a vs, v = .pointer (some a) ∧ VRs R vs cs ∧ ∀ (j : Nat) (v : Value), vs[j]? = some v → R (a.add j) = some v := by
 cases h with
 | rptr vs hl hv hR => exact ⟨_, vs, rfl, ⟨hl, hv⟩, hR⟩
theorem VR.rptr_mk {R : RO} {a : Addr} {vs : List Value} {cs : List AV} (h : VRs R vs cs) (hR : ∀ (j : Nat) (v : Value), vs[j]? = some v → R (a.add j) = some v) : VR R (.pointer (some a)) (.rptr cs) := .rptr vs h.1 h.2 hR
theorem rptr_part {R : RO} {a : Addr} {vs : List Value} {cs : List AV} (h : VRs R vs cs) (hR : ∀ (j : Nat) (v : Value), vs[j]? = some v → R (a.add j) = some v) (off s : Nat) : VR R (.pointer (some (a.add off))) (.rptr ((cs.drop off).take s)) :=
 VR.rptr_mk ((h.drop off).take s) fun j v hj => by
  rw [addr_add_add]
  refine hR _ _ ?_
  rw [List.getElem?_take] at hj
  split at hj
  ·simpa using hj
  ·cases hj

theorem pr_fieldAddr {ρ : Operand → AV} {t : TypeId} {x : Operand} {i : Nat} {off : Nat} {ag : Bool} {s : Nat} (hf : fieldOf P t i = some (off, ag, s)) {u : AV} (h : aFieldAddr off s (ρ x) u) :
  PRun P (fun ev => do pure (.value (← Instr.fieldAt t (ev x) i))) ρ u := by
 refine PRun.still fun R w ev ha _ => ?_
 have hx := ha x
 obtain ⟨hs0, h⟩ := h
 have key : ∀ a, ev x = .pointer (some a) → (do pure (Next.value (← Instr.fieldAt t (ev x) i)) : Sem Next).run P w = .ok (.value (.pointer (some (a.add off)))) w := by
  intro a hv
  unfold fieldOf at hf
  split at hf
  ·rename_i fs hu'
   split at hf
   ·rename_i f hfi
    split at hf
    ·rename_i b s' hsh
     simp only [Option.some.injEq, Prod.mk.injEq] at hf
     obtain ⟨rfl, rfl, rfl⟩ := hf
     obtain ⟨h1, h2⟩ := shapeOf_run hsh w
     have : ¬ s' = 0 := by omega
     simp [Instr.fieldAt, run_underlying hu', hfi, hv, Instr.sureAddr, fieldPlace, h2, this]
    ·cases hf
   ·cases hf
  ·cases hf
 split at h
 ·rename_i a e
  rw [e] at hx
  exact ⟨_, key a hx.val_inv, by rw [h]; exact .val _⟩
 ·rename_i cs e
  rw [e] at hx
  obtain ⟨a, vs, hv, hr, hR⟩ := hx.rptr_inv
  exact ⟨_, key a hv, by rw [h.2]; exact rptr_part hr hR off s⟩
 ·rename_i v sz ii j e
  rw [e] at hx
  obtain ⟨g, n, cap, e1, hv⟩ := VR.eptr_inv hx
  refine ⟨_, key _ hv, ?_⟩
  rw [h, addr_lit_add, Nat.add_assoc, e1]
  exact .eptr
 ·exact h.elim

theorem ixOf_inv {x : AV} {n : Int} (h : ixOf x = some n) : ∃ k, x = .val (.int k n) := by
 unfold ixOf at h
 split at h
 ·rename_i k n'
  simp only [Option.some.injEq] at h
  subst h
  exact ⟨k, rfl⟩
 ·cases h

theorem elemOf_slice {t : TypeId} {b : Bool} {s : Nat} (h : elemOf P t = some (.slice, b, s)) : ∃ e, P.underlying t = some (.slice e) ∧ shapeOf P e = some (b, s) := by
 unfold elemOf at h
 cases hu : P.underlying t with
 | none => rw [hu] at h; cases h
 | some d =>
  rw [hu] at h
  cases d with
  | slice e =>
   simp only at h
   cases hs : shapeOf P e with
   | none => rw [hs] at h; cases h
   | some bs => rw [hs] at h; simp only [Option.some.injEq, Prod.mk.injEq, true_and] at h; exact ⟨e, rfl, by rw [hs]; simp [← h.1, ← h.2]⟩
  | array n e =>
   simp only at h
   cases hs : shapeOf P e with
   | none => rw [hs] at h; cases h
   | some bs => rw [hs] at h; simp at h
  | _ => simp at h
theorem elemOf_array {t : TypeId} {n : Nat} {b : Bool} {s : Nat} (h : elemOf P t = some (.array n, b, s)) : ∃ e, P.underlying t = some (.array n e) ∧ shapeOf P e = some (b, s) := by
 unfold elemOf at h
 cases hu : P.underlying t with
 | none => rw [hu] at h; cases h
 | some d =>
  rw [hu] at h
  cases d with
  | slice e =>
   simp only at h
   cases hs : shapeOf P e with
   | none => rw [hs] at h; cases h
   | some bs => rw [hs] at h; simp at h
  | array n' e =>
   simp only at h
   cases hs : shapeOf P e with
   | none => rw [hs] at h; cases h
   | some bs => rw [hs] at h; simp only [Option.some.injEq, Prod.mk.injEq, Con.array.injEq] at h; exact ⟨e, by rw [h.1], by rw [hs]; simp [← h.2.1, ← h.2.2]⟩
  | _ => simp at h
theorem elemOf_string {t : TypeId} {b : Bool} {s : Nat} (h : elemOf P t = some (.string, b, s)) : P.underlying t = some .string := by
 unfold elemOf at h
 cases hu : P.underlying t with
 | none => rw [hu] at h; cases h
 | some d =>
  rw [hu] at h
  cases d with
  | string => rfl
  | slice e =>
   simp only at h
   cases hs : shapeOf P e with
   | none => rw [hs] at h; cases h
   | some bs => rw [hs] at h; simp at h
  | array n' e =>
   simp only at h
   cases hs : shapeOf P e with
   | none => rw [hs] at h; cases h
   | some bs => rw [hs] at h; simp at h
  | _ => simp at h
theorem flat_get {l : List AV} {sz : Nat} (hsz : ∀ e ∈ l, e.cells.length = sz) : ∀ (i : Nat), i < l.length → ((flat l).drop (i * sz)).take sz = (l.getD i .undef).cells := by
 induction l with
 | nil => intro i hi; simp at hi
 | cons e l ih =>
  intro i hi
  have he := hsz e (by simp)
  have hfl : flat (e :: l) = e.cells ++ flat l := rfl
  cases i with
  | zero =>
   simp only [Nat.zero_mul, List.drop_zero, hfl, List.getD_cons_zero]
   rw [List.take_append_of_le_length (by omega), ← he, List.take_length]
  | succ i =>
   have hi' : i < l.length := by simpa using hi
   rw [hfl, List.getD_cons_succ, ← ih (fun x hx => hsz x (by simp [hx])) i hi', Nat.add_mul, Nat.one_mul, ← he, List.drop_append, Nat.add_comm]
   rw [List.drop_eq_nil_of_le (by omega)]
   simp only [List.nil_append]
   congr 2
   omega
theorem flat_length {l : List AV} {sz : Nat} (hsz : ∀ e ∈ l, e.cells.length = sz) : (flat l).length = l.length * sz := by
 induction l with
 | nil => simp [flat]
 | cons e l ih =>
  have hfl : flat (e :: l) = e.cells ++ flat l := rfl
  rw [hfl, List.length_append, ih (fun x hx => hsz x (by simp [hx])), hsz e (by simp), List.length_cons, Nat.add_mul, Nat.one_mul, Nat.add_comm]

theorem VR.lst_inv {R : RO} {v : Value} {sz : Nat} {l : List AV} {m : SM} (h : VR R v (.lst sz l m)) : ∃ ao cap vs, v = .slice ao l.length cap ∧ 0 < sz ∧ (∀ e ∈ l, e.cells.length = sz) ∧ VRs R vs (flat l) ∧
  (l ≠ [] → ∃ a, ao = some a ∧ ∀ (j : Nat) (v : Value), vs[j]? = some v → R (a.add j) = some v) ∧ SMok m ao l.length cap ∧ l.length ≤ maxLen ∧ ∀ v ∈ vs, v.oneCell' = true := by
 cases h with
 | lst vs hn hz hsz hl hv hR hm hb hone => subst hn; exact ⟨_, _, vs, rfl, hz, hsz, ⟨hl, hv⟩, hR, hm, hb, hone⟩

theorem pr_indexAddr {ρ : Operand → AV} {t : TypeId} {x i : Operand} {c : Con} {ag : Bool} {s : Nat} (he : elemOf P t = some (c, ag, s)) {u : AV} (h : aIndexAddr c s (ρ x) (ρ i) u) :
  PRun P (fun ev => do pure (.value (← Instr.indexAt t (ev x) (ev i)))) ρ u := by
 refine PRun.still fun R w ev ha _ => ?_
 have hx := ha x
 have hi := ha i
 unfold aIndexAddr at h
 cases hix : ixOf (ρ i) with
 | none => rw [hix] at h; cases c <;> exact h.elim
 | some n =>
  rw [hix] at h
  obtain ⟨k, hik⟩ := ixOf_inv hix
  rw [hik] at hi
  have hiv := hi.val_inv
  cases c with
  | string => exact h.elim
  | slice =>
   obtain ⟨e, hu, hsh⟩ := elemOf_slice he
   obtain ⟨h1, h2⟩ := shapeOf_run hsh w
   simp only at h
   have key : ∀ a len cap, ev x = .slice (some a) len cap → 0 ≤ n → n < len → (do pure (Next.value (← Instr.indexAt t (ev x) (ev i))) : Sem Next).run P w = .ok (.value (.pointer (some (a.add (n.toNat * s))))) w := by
    intro a len cap hv h0 hn
    simp [Instr.indexAt, run_underlying hu, hv, hiv, asIntOf, h0, hn, h2]
   split at h
   ·rename_i sz l m ex
    rw [ex] at hx
    obtain ⟨rfl, h0, hn, hu'⟩ := h
    obtain ⟨ao, cap, vs, hv, hz, hsz, hr, hR, hm, hb, hone⟩ := hx.lst_inv
    have hne : l ≠ [] := by intro e'; subst e'; simp at hn; omega
    obtain ⟨a, rfl, hR'⟩ := hR hne
    have hlt : n.toNat < l.length := by omega
    refine ⟨_, key a _ _ hv h0 hn, ?_⟩
    rw [hu', ← flat_get hsz n.toNat hlt]
    exact rptr_part hr hR' _ _
   ·rename_i v n' ex
    rw [ex] at hx
    obtain ⟨hv, hrow⟩ := hx.own_inv
    obtain ⟨h0, hn, hu'⟩ := h
    rcases hrow with ⟨_, hn0⟩ | ⟨g, cap, hs, _⟩
    ·omega
    ·rw [hs] at hv hu'
     refine ⟨_, key ⟨g, 0, none⟩ n' cap hv h0 hn, ?_⟩
     rw [hu', addr_lit_add, Nat.zero_add]
     exact VR.eptr (j := 0)
   ·rename_i v z a n' ex
    rw [ex] at hx
    obtain ⟨rfl, h0, hn, hu'⟩ := h
    rcases hx.sub_inv with ⟨_, _, hn0, _⟩ | ⟨g, n0, cap, p, hs, hc, hp, hv⟩
    ·omega
    ·rw [hp (by omega)] at hv
     refine ⟨_, key ⟨g, a * z, none⟩ n' _ hv h0 hn, ?_⟩
     rw [hu', addr_lit_add, hs, ← Nat.add_mul]
     exact VR.eptr (j := 0)
   ·rename_i a len cap ex
    rw [ex] at hx
    exact ⟨_, key a len cap hx.val_inv h.1 h.2.1, by rw [h.2.2]; exact .val _⟩
   ·exact h.elim
  | array m =>
   obtain ⟨e, hu, hsh⟩ := elemOf_array he
   obtain ⟨h1, h2⟩ := shapeOf_run hsh w
   simp only at h
   obtain ⟨h0, hn, h⟩ := h
   have key : ∀ a, ev x = .pointer (some a) → (do pure (Next.value (← Instr.indexAt t (ev x) (ev i))) : Sem Next).run P w = .ok (.value (.pointer (some (a.add (n.toNat * s))))) w := by
    intro a hv
    simp [Instr.indexAt, run_underlying hu, hv, hiv, asIntOf, h0, hn, h2, Instr.sureAddr]
   split at h
   ·rename_i a ex
    rw [ex] at hx
    exact ⟨_, key a hx.val_inv, by rw [h]; exact .val _⟩
   ·rename_i cs ex
    rw [ex] at hx
    obtain ⟨a, vs, hv, hr, hR⟩ := hx.rptr_inv
    exact ⟨_, key a hv, by rw [h.2]; exact rptr_part hr hR _ _⟩
   ·rename_i v z ee j ex
    rw [ex] at hx
    obtain ⟨g, n', cap, e1, hv⟩ := VR.eptr_inv hx
    refine ⟨_, key _ hv, ?_⟩
    rw [h, addr_lit_add, Nat.add_assoc, e1]
    exact .eptr
   ·exact h.elim

theorem pr_index {ρ : Operand → AV} {t : TypeId} {x i : Operand} {c : Con} {ag : Bool} {s : Nat} (he : elemOf P t = some (c, ag, s)) {u : AV} (h : aIndex c ag s (ρ x) (ρ i) u) :
  PRun P (fun ev => do pure (.value (← Instr.index t (ev x) (ev i)))) ρ u := by
 refine PRun.still fun R w ev ha _ => ?_
 have hx := ha x
 have hi := ha i
 unfold aIndex at h
 cases hix : ixOf (ρ i) with
 | none => rw [hix] at h; cases c <;> exact h.elim
 | some n =>
  rw [hix] at h
  obtain ⟨k, hik⟩ := ixOf_inv hix
  rw [hik] at hi
  have hiv := hi.val_inv
  cases c with
  | slice => exact h.elim
  | string =>
   have hu := elemOf_string he
   simp only at h
   split at h
   ·rename_i str ex
    rw [ex] at hx
    obtain ⟨h0, hlt, hu'⟩ := h
    refine ⟨_, ?_, by rw [hu']; exact .val _⟩
    have hg : str[n.toNat]? = some str[n.toNat] := getElem?_pos str n.toNat hlt
    simp [Instr.index, run_underlying hu, hx.val_inv, hiv, asIntOf, h0, hg]
   ·exact h.elim
  | array m =>
   obtain ⟨e, hu, hsh⟩ := elemOf_array he
   obtain ⟨h1, h2⟩ := shapeOf_run hsh w
   simp only at h
   obtain ⟨h0, hn, h⟩ := h
   split at h
   ·rename_i cs ex
    rw [ex] at hx
    obtain ⟨vs, hv, hr⟩ := hx.agg_inv
    obtain ⟨hl, hone, hu'⟩ := h
    have := part_run (P := P) hsh (vs := vs) (off := n.toNat * s) (by rw [hr.1]; rw [Nat.add_mul, Nat.one_mul] at hl; exact hl) hone w
    refine ⟨mkC ag ((vs.drop (n.toNat * s)).take s), ?_, by rw [hu']; exact mkV_rel ((hr.drop _).take _) _⟩
    simp [Instr.index, run_underlying hu, hv, hiv, asIntOf, h0, hn, h2, this]
   ·exact h.elim

end Go.Ab

namespace Go.Ab
variable {P : Program}

theorem bound_run {kk : IntKind} {n : Int} {y : Nat} (h0 : 0 ≤ n) (h1 : n ≤ y) (code : BoundsCode) (w : World) : (Instr.sliceBound (.int kk n) y code).run P w = .ok n.toNat w := by
 simp [Instr.sliceBound, asIntOf, h0, h1]
theorem bounds_run {ρ : Operand → AV} {R : RO} {ev : Operand → Value} (ha : ∀ x, VR R (ev x) (ρ x)) (isS : Bool) {len cap : Nat} {lo hi mx : Option Operand} {l h m : Int}
  (hl : bdOf (lo.map ρ) 0 = some l) (hh : bdOf (hi.map ρ) len = some h) (hm : bdOf (mx.map ρ) cap = some m) (hmh : mx.isSome = true → hi.isSome = true)
  (h0 : 0 ≤ l) (h1 : l ≤ h) (h2 : h ≤ m) (h3 : m ≤ cap) (w : World) : (Instr.sliceBounds isS len cap (lo.map ev) (hi.map ev) (mx.map ev)).run P w = .ok (l.toNat, h.toNat, m.toNat) w := by
 have key : ∀ (x : Option Operand) (d n : Int), bdOf (x.map ρ) d = some n → (x = none ∧ n = d) ∨ ∃ y k, x = some y ∧ ev y = .int k n := by
  intro x d n hx
  cases x with
  | none => simp [bdOf] at hx; exact .inl ⟨rfl, hx.symm⟩
  | some y =>
   simp only [Option.map_some, bdOf] at hx
   obtain ⟨k, hk⟩ := ixOf_inv hx
   have hv := ha y
   rw [hk] at hv
   exact .inr ⟨y, k, rfl, hv.val_inv⟩
 have eh : (h.toNat : Int) = h := Int.toNat_of_nonneg (by omega)
 have em : (m.toNat : Int) = m := Int.toNat_of_nonneg (by omega)
 rcases key mx _ _ hm with ⟨rfl, rfl⟩ | ⟨ym, km, rfl, em'⟩
 ·rcases key hi _ _ hh with ⟨rfl, rfl⟩ | ⟨yh, kh, rfl, eh'⟩
  ·rcases key lo _ _ hl with ⟨rfl, rfl⟩ | ⟨yl, kl, rfl, el'⟩
   ·simp [Instr.sliceBounds]
   ·simp [Instr.sliceBounds, el', bound_run (P := P) (kk := kl) h0 h1]
  ·rcases key lo _ _ hl with ⟨rfl, rfl⟩ | ⟨yl, kl, rfl, el'⟩
   ·simp [Instr.sliceBounds, eh', bound_run (P := P) (kk := kh) (by omega : 0 ≤ h) h2]
   ·simp [Instr.sliceBounds, eh', el', bound_run (P := P) (kk := kh) (by omega : 0 ≤ h) h2, bound_run (P := P) (kk := kl) (y := h.toNat) h0 (by omega)]
 ·obtain ⟨yh, kh, rfl, eh'⟩ : ∃ y k, hi = some y ∧ ev y = .int k h := by
   rcases key hi _ _ hh with ⟨rfl, _⟩ | h
   ·simp at hmh
   ·exact h
  rcases key lo _ _ hl with ⟨rfl, rfl⟩ | ⟨yl, kl, rfl, el'⟩
  ·simp [Instr.sliceBounds, eh', em', bound_run (P := P) (kk := km) (by omega : 0 ≤ m) h3, bound_run (P := P) (kk := kh) (y := m.toNat) (by omega : 0 ≤ h) (by omega)]
  ·simp [Instr.sliceBounds, eh', em', el', bound_run (P := P) (kk := km) (by omega : 0 ≤ m) h3, bound_run (P := P) (kk := kh) (y := m.toNat) (by omega : 0 ≤ h) (by omega), bound_run (P := P) (kk := kl) (y := h.toNat) h0 (by omega)]

theorem flat_take {l : List AV} {sz : Nat} (hsz : ∀ e ∈ l, e.cells.length = sz) : ∀ n, flat (l.take n) = (flat l).take (n * sz) := by
 induction l with
 | nil => intro n; simp [flat]
 | cons e l ih =>
  intro n
  have he := hsz e (by simp)
  have hfl : ∀ (e : AV) l, flat (e :: l) = e.cells ++ flat l := fun _ _ => rfl
  cases n with
  | zero => simp [flat]
  | succ n =>
   rw [List.take_succ_cons, hfl, hfl, ih (fun x hx => hsz x (by simp [hx])), List.take_append, he, Nat.add_mul, Nat.one_mul]
   rw [List.take_of_length_le (l := e.cells) (by omega), show n * sz + sz - sz = n * sz by omega]
theorem flat_drop {l : List AV} {sz : Nat} (hsz : ∀ e ∈ l, e.cells.length = sz) : ∀ n, flat (l.drop n) = (flat l).drop (n * sz) := by
 induction l with
 | nil => intro n; simp [flat]
 | cons e l ih =>
  intro n
  have he := hsz e (by simp)
  have hfl : ∀ (e : AV) l, flat (e :: l) = e.cells ++ flat l := fun _ _ => rfl
  cases n with
  | zero => simp
  | succ n =>
   rw [List.drop_succ_cons, hfl, ih (fun x hx => hsz x (by simp [hx])), List.drop_append, he, Nat.add_mul, Nat.one_mul]
   rw [List.drop_eq_nil_of_le (as := e.cells) (by omega), show n * sz + sz - sz = n * sz by omega]
   rfl
theorem flat_append (l m : List AV) : flat (l ++ m) = flat l ++ flat m := by simp [flat]

theorem lst_cut {R : RO} {ao : Option Addr} {xs : List AV} {vs : List Value} {sz : Nat} (hz : 0 < sz) (hsz : ∀ e ∈ xs, e.cells.length = sz) (hr : VRs R vs (flat xs))
  (hR : xs ≠ [] → ∃ a, ao = some a ∧ ∀ (j : Nat) (v : Value), vs[j]? = some v → R (a.add j) = some v) (hone : ∀ v ∈ vs, v.oneCell' = true) (hb : xs.length ≤ maxLen) {l h cp : Nat} (h1 : l ≤ h) (h2 : h ≤ xs.length) {m : SM} {ao' : Option Addr}
  (hao : l < h → ao' = ao.map (·.add (l * sz))) (hm : SMok m ao' (h - l) cp) : VR R (.slice ao' (h - l) cp) (.lst sz ((xs.take h).drop l) m) := by
 have e1 : flat ((xs.take h).drop l) = ((flat xs).take (h * sz)).drop (l * sz) := by
  rw [flat_drop (fun e he => hsz e (List.mem_of_mem_take he)), flat_take hsz]
 have hr' := (hr.take (h * sz)).drop (l * sz)
 rw [← e1] at hr'
 refine .lst _ (by simp; omega) hz (fun e he => hsz e (List.mem_of_mem_take (List.mem_of_mem_drop he))) hr'.1 hr'.2 (fun hne => ?_) hm (by omega) (fun v hv => hone v (List.mem_of_mem_take (List.mem_of_mem_drop hv)))
 have hlt : l < h := by
  rcases Nat.lt_or_ge l h with h' | h'
  ·exact h'
  ·exact absurd (List.drop_eq_nil_of_le (by simp; omega)) hne
 have hxs : xs ≠ [] := by intro e; subst e; simp at h2; omega
 obtain ⟨a, rfl, hR'⟩ := hR hxs
 refine ⟨_, hao hlt, fun j v hj => ?_⟩
 rw [addr_add_add]
 refine hR' _ _ ?_
 rw [List.getElem?_drop, List.getElem?_take] at hj
 split at hj
 ·exact hj
 ·cases hj

theorem one_rel {R : RO} {v : Value} {u : AV} (h : VR R v u) (hu : u.one = true) : v.oneCell' = true := by
 cases h with
 | val v => exact hu
 | own h => rcases h with ⟨rfl, _⟩ | ⟨g, cap, rfl, _⟩ <;> rfl
 | sub h => rcases h with ⟨_, _, _, rfl⟩ | ⟨g, n0, cap, p, _, _, _, rfl⟩ <;> rfl
 | undef => cases hu
 | agg hl hv => cases hu
 | tuple hl hv => cases hu
 | _ => rfl
theorem ones_rel {R : RO} {vs : List Value} {us : List AV} (h : VRs R vs us) (hu : ∀ u ∈ us, u.one = true) : ∀ v ∈ vs, v.oneCell' = true := by
 intro v hv
 obtain ⟨j, hj⟩ := List.mem_iff_getElem?.1 hv
 have hlt : j < us.length := by rw [← h.1]; exact (List.getElem?_eq_some_iff.1 hj).1
 exact one_rel (h.2 j us[j] v (List.getElem?_eq_getElem hlt) hj) (hu _ (List.getElem_mem _))
theorem pr_slice {ρ : Operand → AV} {t : TypeId} {x : Operand} {lo hi mx : Option Operand} {c : Con} {ag : Bool} {s : Nat} (he : elemOf P t = some (c, ag, s)) {u : AV} (h : aSlice c s (ρ x) (lo.map ρ) (hi.map ρ) (mx.map ρ) u) :
  PRun P (fun ev => do pure (.value (← Instr.sliceAt t (ev x) (lo.map ev) (hi.map ev) (mx.map ev)))) ρ u := by
 refine PRun.still fun R w ev ha _ => ?_
 have hx := ha x
 unfold aSlice at h
 cases c with
 | string =>
  have hu := elemOf_string he
  simp only at h
  split at h
  ·rename_i str l e1 e2 e3
   rw [e1] at hx
   cases hh : bdOf (hi.map ρ) str.size with
   | none => rw [hh] at h; exact h.elim
   | some hh' =>
    rw [hh] at h
    obtain ⟨h0, h1, h2, hu'⟩ := h
    have hmx : mx = none := by cases mx with | none => rfl | some y => simp at e3
    subst hmx
    have hb := bounds_run (P := P) ha false (len := str.size) (cap := str.size) (lo := lo) (hi := hi) (mx := none) (m := str.size) e2 hh rfl (by simp) h0 h1 h2 (Int.le_refl _) w
    simp only [Option.map_none] at hb
    refine ⟨_, ?_, by rw [hu']; exact .val _⟩
    simp [Instr.sliceAt, run_underlying hu, Instr.slice, hx.val_inv, hb]
  ·exact h.elim
 | slice =>
  obtain ⟨e, hu, hsh⟩ := elemOf_slice he
  obtain ⟨q1, q2⟩ := shapeOf_run hsh w
  simp only at h
  have run : ∀ ao n cap l h' m, ev x = .slice ao n cap → (Instr.sliceBounds true n cap (lo.map ev) (hi.map ev) (mx.map ev)).run P w = .ok (l, h', m) w →
    (do pure (Next.value (← Instr.sliceAt t (ev x) (lo.map ev) (hi.map ev) (mx.map ev))) : Sem Next).run P w = .ok (.value (.slice (if m = l then ao else ao.map (·.add (l * s))) (h' - l) (m - l))) w := by
   intro ao n cap l h' m hv hb
   simp [Instr.sliceAt, run_underlying hu, Instr.slice, hv, hb, q2]
  split at h
  ·rename_i z xs m l e1 e2
   rw [e1] at hx
   obtain ⟨ao, cap, vs, hv, hz, hsz, hr, hR, hm, hb, hone⟩ := hx.lst_inv
   have hcap : xs.length ≤ cap := by cases m <;> simp only [SMok] at hm <;> omega
   split at h
   ·rename_i hh' e3 e4
    obtain ⟨rfl, h0, h1, h2, hu'⟩ := h
    have hmx : mx = none := by cases mx with | none => rfl | some y => simp at e4
    subst hmx
    have hb' := bounds_run (P := P) ha true (len := xs.length) (cap := cap) (lo := lo) (hi := hi) (mx := none) (m := cap) e2 e3 rfl (by simp) h0 h1 (by omega) (Int.le_refl _) w
    refine ⟨_, run ao _ cap _ _ _ hv hb', ?_⟩
    rw [hu']
    refine lst_cut hz hsz hr hR hone hb (by omega) (by omega) (fun hlt => by rw [if_neg (by omega)]) ?_
    simp only [SMok]; omega
   ·rename_i hh' mxv e3 e4
    obtain ⟨rfl, h0, h1, h2, e5, e6, hu'⟩ := h
    obtain ⟨ym, rfl⟩ : ∃ ym, mx = some ym := by cases mx with | none => simp at e4 | some y => exact ⟨y, rfl⟩
    have e7 : bdOf ((some ym).map ρ) cap = some hh' := by simp only [Option.map_some, Option.some.injEq] at e4; simp [bdOf, e4, e5]
    have hb' := bounds_run (P := P) ha true (len := xs.length) (cap := cap) (lo := lo) (hi := hi) (mx := some ym) (m := hh') e2 e3 e7 (fun _ => by simpa using e6) h0 h1 (Int.le_refl _) (by omega) w
    refine ⟨_, run ao _ cap _ _ _ hv hb', ?_⟩
    rw [hu']
    refine lst_cut hz hsz hr hR hone hb (by omega) (by omega) (fun hlt => by rw [if_neg (by omega)]) ?_
    simp only [SMok]
   ·exact h.elim
  ·rename_i v n l e1 e2
   rw [e1] at hx
   obtain ⟨hv, hrow⟩ := hx.own_inv
   split at h
   ·rename_i hh' e3 e4
    obtain ⟨h0, h1, h2, hu'⟩ := h
    have hmx : mx = none := by cases mx with | none => rfl | some y => simp at e4
    subst hmx
    rcases hrow with ⟨hs, hn0⟩ | ⟨g, cap, hs, hcap⟩
    ·rw [hs] at hv
     have hb' := bounds_run (P := P) ha true (len := n) (cap := 0) (lo := lo) (hi := hi) (mx := none) (m := 0) e2 e3 rfl (by simp) h0 h1 (by omega) (Int.le_refl _) w
     subst hn0
     refine ⟨_, run none 0 0 _ _ _ hv hb', ?_⟩
     rw [hu']
     refine .sub (.inl ⟨hs, by omega, by omega, ?_⟩)
     have e5 : hh'.toNat = 0 := by omega
     simp [e5]
    ·rw [hs] at hv
     have hb' := bounds_run (P := P) ha true (len := n) (cap := cap) (lo := lo) (hi := hi) (mx := none) (m := cap) e2 e3 rfl (by simp) h0 h1 (by omega) (Int.le_refl _) w
     refine ⟨_, run _ n cap _ _ _ hv hb', ?_⟩
     rw [hu']
     have e5 : hh'.toNat - l.toNat = (hh' - l).toNat := by omega
     rw [e5]
     simp only [Int.toNat_natCast]
     by_cases hc : cap = l.toNat
     ·rw [if_pos hc]; exact .sub (.inr ⟨g, n, cap, _, hs, by omega, fun h => by omega, rfl⟩)
     ·rw [if_neg hc]; exact .sub (.inr ⟨g, n, cap, _, hs, by omega, fun h => by show (⟨g, 0, none⟩ : Addr).add _ = _; rw [addr_lit_add, Nat.zero_add], rfl⟩)
   ·exact h.elim
  ·rename_i v z a n l e1 e2
   rw [e1] at hx
   split at h
   ·rename_i hh' e3 e4
    obtain ⟨rfl, hz, h0, h1, h2, hu'⟩ := h
    have hmx : mx = none := by cases mx with | none => rfl | some y => simp at e4
    subst hmx
    rcases hx.sub_inv with ⟨hs, ha0, hn0, hv⟩ | ⟨g, n0, cap, p, hs, hc, hp, hv⟩
    ·rw [hs] at h2
     simp only [capV] at h2
     have hb' := bounds_run (P := P) ha true (len := n) (cap := 0) (lo := lo) (hi := hi) (mx := none) (m := 0) e2 e3 rfl (by simp) h0 h1 (by omega) (Int.le_refl _) w
     subst hn0
     refine ⟨_, run none 0 0 _ _ _ hv hb', ?_⟩
     rw [hu']
     refine .sub (.inl ⟨hs, by omega, by omega, ?_⟩)
     have e5 : hh'.toNat = 0 := by omega
     simp [e5]
    ·have h2 : hh' ≤ ((cap - a : Nat) : Int) := by
      rw [hs] at h2
      simp only [capV] at h2
      omega
     have hb' := bounds_run (P := P) ha true (len := n) (cap := cap - a) (lo := lo) (hi := hi) (mx := none) (m := ((cap - a : Nat) : Int)) e2 e3 rfl (by simp) h0 h1 (by omega) (Int.le_refl _) w
     refine ⟨_, run _ n (cap - a) _ _ _ hv hb', ?_⟩
     rw [hu']
     have e5 : hh'.toNat - l.toNat = (hh' - l).toNat := by omega
     rw [e5]
     simp only [Int.toNat_natCast]
     have e6 : cap - a - l.toNat = cap - (a + l.toNat) := by omega
     by_cases hc2 : cap - a = l.toNat
     ·rw [if_pos hc2, e6]; exact .sub (.inr ⟨g, n0, cap, _, hs, by omega, fun h => by omega, rfl⟩)
     ·rw [if_neg hc2, e6]; exact .sub (.inr ⟨g, n0, cap, _, hs, by omega, fun h => by show p.add _ = _; rw [hp (by omega), addr_lit_add, Nat.add_mul], rfl⟩)
   ·exact h.elim
  ·rename_i a n cap l e1 e2
   rw [e1] at hx
   split at h
   ·rename_i hh' e3 e4
    obtain ⟨h0, h1, h2, hu'⟩ := h
    have hmx : mx = none := by cases mx with | none => rfl | some y => simp at e4
    subst hmx
    have hb' := bounds_run (P := P) ha true (len := n) (cap := cap) (lo := lo) (hi := hi) (mx := none) (m := cap) e2 e3 rfl (by simp) h0 h1 (by omega) (Int.le_refl _) w
    refine ⟨_, run _ _ cap _ _ _ hx.val_inv hb', ?_⟩
    rw [hu']
    have e5 : hh'.toNat - l.toNat = (hh' - l).toNat := by omega
    rw [e5]
    simp only [Int.toNat_natCast]
    by_cases hc : cap = l.toNat
    ·simp [hc]; exact .val _
    ·simp [hc]; exact .val _
   ·exact h.elim
  ·exact h.elim
 | array n =>
  obtain ⟨e, hu, hsh⟩ := elemOf_array he
  obtain ⟨q1, q2⟩ := shapeOf_run hsh w
  simp only at h
  split at h
  ·rename_i a l hh' e1 e2 e3 e4
   rw [e1] at hx
   obtain ⟨h0, h1, h2, hu'⟩ := h
   have hmx : mx = none := by cases mx with | none => rfl | some y => simp at e4
   subst hmx
   have hb' := bounds_run (P := P) ha false (len := n) (cap := n) (lo := lo) (hi := hi) (mx := none) (m := n) e2 e3 rfl (by simp) h0 h1 h2 (Int.le_refl _) w
   simp only [Option.map_none] at hb'
   refine ⟨_, ?_, by rw [hu']; exact .val _⟩
   have e5 : hh'.toNat - l.toNat = (hh' - l).toNat := by omega
   simp [Instr.sliceAt, run_underlying hu, hx.val_inv, Instr.sureAddr, hb', q2, e5]
  ·rename_i cs l hh' e1 e2 e3 e4
   rw [e1] at hx
   obtain ⟨rfl, h0, h1, h2, hn, hmax, hpl, hone, hu'⟩ := h
   have hmx : mx = none := by cases mx with | none => rfl | some y => simp at e4
   subst hmx
   have hb' := bounds_run (P := P) ha false (len := n) (cap := n) (lo := lo) (hi := hi) (mx := none) (m := n) e2 e3 rfl (by simp) h0 h1 h2 (Int.le_refl _) w
   simp only [Option.map_none] at hb'
   obtain ⟨a, vs, hv, hvr, hR⟩ := hx.rptr_inv
   have e5 : hh'.toNat - l.toNat = (hh' - l).toNat := by omega
   have hfl : flat cs = cs := by
    clear hu' hvr hn hx e1
    induction cs with
    | nil => rfl
    | cons c cs ih =>
     have : flat (c :: cs) = c.cells ++ flat cs := rfl
     rw [this, ih (fun x hx => hpl x (by simp [hx])) (fun x hx => hone x (by simp [hx])), hpl c (by simp)]
     rfl
   refine ⟨.slice (some (if n = l.toNat then a else a.add (l.toNat * 1))) (hh' - l).toNat (n - l.toNat), ?_, ?_⟩
   ·simp [Instr.sliceAt, run_underlying hu, hv, Instr.sureAddr, hb', q2, e5]
   ·rw [hu', ← e5]
    refine lst_cut (ao := some a) (xs := cs) (vs := vs) (by decide) (fun c hc => by rw [hpl c hc]; rfl) (by rw [hfl]; exact hvr) (fun _ => ⟨a, rfl, hR⟩) (ones_rel hvr hone) (by omega) (by omega) (by omega) (fun hlt => ?_) (by simp [SMok]; omega)
    rw [if_neg (by omega)]
    rfl
  ·exact h.elim

theorem splice_length {cs new : List AV} {off : Nat} (h : off + new.length ≤ cs.length) : (splice cs off new).length = cs.length := by simp [splice]; omega
theorem fold_set (new : List Value) : ∀ (i off : Nat) (cs : List Value), off + i + new.length ≤ cs.length →
  ((new.zipIdx i).foldl (fun (acc : Array Value) x => acc.setIfInBounds (off + x.2) x.1) cs.toArray).toList = cs.take (off + i) ++ new ++ cs.drop (off + i + new.length) := by
 induction new with
 | nil => intro i off cs h; simp
 | cons v new ih =>
  intro i off cs h
  simp only [List.length_cons] at h
  simp only [List.zipIdx_cons, List.foldl_cons]
  have e : cs.toArray.setIfInBounds (off + i) v = (cs.set (off + i) v).toArray := by simp
  rw [e, ih (i + 1) off (cs.set (off + i) v) (by simp; omega)]
  have hlt : off + i < cs.length := by omega
  have e1 : (cs.set (off + i) v).take (off + (i + 1)) = cs.take (off + i) ++ [v] := by
   rw [show off + (i + 1) = off + i + 1 by omega, List.take_add_one, List.take_set_of_le (by omega)]
   simp [hlt]
  have e2 : (cs.set (off + i) v).drop (off + (i + 1) + new.length) = cs.drop (off + i + (new.length + 1)) := by
   rw [List.drop_set_of_lt (by omega)]
   congr 1
   omega
  rw [e1, e2]
  simp

theorem one_cells {v : Value} (h : v.oneCell' = true) : v.cells = #[v] := by cases v <;> first | rfl | cases h
theorem cells_rel {R : RO} {v : Value} {u : AV} (h : VR R v u) (hu : ∀ c ∈ u.cells, c.one = true) : VRs R v.cells.toList u.cells := by
 cases h with
 | agg hl hv => exact ⟨hl, hv⟩
 | undef => have := hu .undef (by simp [AV.cells]); cases this
 | tuple hl hv => have := hu _ (List.mem_singleton.2 rfl); cases this
 | val v =>
  have := hu (.val v) (by simp [AV.cells])
  rw [one_cells this]
  exact VRs.cons (.val _) (VRs.nil R)
 | own h =>
  have hone : v.oneCell' = true := by rcases h with ⟨rfl, _⟩ | ⟨g, cap, rfl, _⟩ <;> rfl
  rw [one_cells hone]
  exact VRs.cons (.own h) (VRs.nil R)
 | sub h =>
  have hone : v.oneCell' = true := by rcases h with ⟨_, _, _, rfl⟩ | ⟨g, n0, cap, p, _, _, _, rfl⟩ <;> rfl
  rw [one_cells hone]
  exact VRs.cons (.sub h) (VRs.nil R)
 | lst vs hn hz hsz hl hv hR hm hb hone => exact VRs.cons (.lst vs hn hz hsz hl hv hR hm hb hone) (VRs.nil R)
 | rptr vs hl hv hR => exact VRs.cons (.rptr vs hl hv hR) (VRs.nil R)
 | eptr => exact VRs.cons .eptr (VRs.nil R)
 | fn a b c d => exact VRs.cons (.fn a b c d) (VRs.nil R)
 | ifc a => exact VRs.cons (.ifc a) (VRs.nil R)

theorem fill_rel {R : RO} {place : Nat → Option (Nat × Nat)} : ∀ (ps : List (Nat × Value)) (qs : List (Nat × AV)) (vs : List Value) (us ws : List AV), VRs R vs us →
  ps.length = qs.length → (∀ (j : Nat) (p : Nat × Value) (q : Nat × AV), ps[j]? = some p → qs[j]? = some q → p.1 = q.1 ∧ VR R p.2 q.2 ∧ ∀ c ∈ q.2.cells, c.one = true) → fillA place us qs = some ws →
  ∃ xs, Instr.fill place vs.toArray ps = some (List.toArray xs) ∧ VRs R xs ws := by
 intro ps
 induction ps with
 | nil =>
  intro qs vs us ws hr hl hp hf
  cases qs with
  | cons q qs => simp at hl
  | nil => simp only [fillA, Option.some.injEq] at hf; subst hf; exact ⟨vs, rfl, hr⟩
 | cons p ps ih =>
  intro qs vs us ws hr hl hp hf
  cases qs with
  | nil => simp at hl
  | cons q qs =>
   obtain ⟨i, v⟩ := p
   obtain ⟨i', u⟩ := q
   obtain ⟨h1, h2, h3⟩ := hp 0 _ _ rfl rfl
   simp only at h1 h2 h3
   subst h1
   simp only [fillA] at hf
   simp only [Instr.fill]
   cases hpl : place i with
   | none => rw [hpl] at hf; cases hf
   | some os =>
    obtain ⟨off, s⟩ := os
    rw [hpl] at hf
    simp only at hf ⊢
    have hc := cells_rel h2 h3
    have hcl : v.cells.size = u.cells.length := by have := hc.1; simpa using this
    by_cases hif : u.cells.length = s ∧ off + s ≤ us.length
    ·rw [if_pos hif] at hf
     obtain ⟨e1, e2⟩ := hif
     have hvl : vs.length = us.length := hr.1
     rw [if_neg (by simp only [hcl, List.size_toArray, Bool.or_eq_true, decide_eq_true_eq, not_or]; constructor <;> omega)]
     have hz := fold_set v.cells.toList 0 off vs (by simp [hcl]; omega)
     have hfold : (v.cells.zipIdx.foldl (fun (cs : Array Value) (x : Value × Nat) => cs.setIfInBounds (off + x.2) x.1) vs.toArray) = (vs.take off ++ v.cells.toList ++ vs.drop (off + v.cells.toList.length)).toArray := by
      apply Array.ext'
      simp only [Nat.add_zero] at hz
      rw [← Array.foldl_toList, Array.toList_zipIdx, hz]
     have hrel : VRs R (vs.take off ++ v.cells.toList ++ vs.drop (off + v.cells.toList.length)) (splice us off u.cells) := by
      have hh := ((hr.take off).append hc).append (hr.drop (off + v.cells.toList.length))
      rw [hc.1] at hh ⊢
      exact hh
     obtain ⟨xs, hx, hxr⟩ := ih qs _ _ ws hrel (by simpa using hl) (fun j p q hj hj' => hp (j + 1) p q hj hj') hf
     refine ⟨xs, ?_, hxr⟩
     rw [← hx, ← hfold]
    ·rw [if_neg hif] at hf; cases hf

def layoutOf (P : Program) (t : TypeId) : Option (List Value × List (Nat × Nat)) :=
 match P.info? t, P.underlying t with
 | some it, some (.array n e) => match it.zero, P.info? e with
  | some z, some ie => some (z.cells.toList, (List.range n).map fun i => (i * ie.size, ie.size))
  | _, _ => none
 | some it, some (.struct fs) => match it.zero, fs.toList.mapM (fun f => (P.info? f.type).map fun i => (f.offset, i.size)) with
  | some z, some pl => some (z.cells.toList, pl)
  | _, _ => none
 | _, _ => none

theorem fillA_place {p q : Nat → Option (Nat × Nat)} : ∀ (parts : List (Nat × AV)) (cs : List AV) (ws : List AV), (∀ i s, p i = some s → q i = some s) → fillA p cs parts = some ws → fillA q cs parts = some ws := by
 intro parts
 induction parts with
 | nil => intro cs ws h hf; exact hf
 | cons x parts ih =>
  intro cs ws h hf
  obtain ⟨i, v⟩ := x
  simp only [fillA] at hf ⊢
  cases hp : p i with
  | none => rw [hp] at hf; cases hf
  | some os =>
   rw [hp] at hf
   rw [h i os hp]
   obtain ⟨off, s⟩ := os
   simp only at hf ⊢
   split at hf
   ·rename_i hif; rw [if_pos hif]; exact ih _ _ h hf
   ·cases hf

def partsOne (parts : List (Nat × AV)) : Prop := ∀ p ∈ parts, ∀ c ∈ p.2.cells, c.one = true

theorem parts_rel {R : RO} {ev : Operand → Value} {ρ : Operand → AV} (ha : ∀ x, VR R (ev x) (ρ x)) (parts : List (Nat × Operand)) (ho : partsOne (parts.map fun p => (p.1, ρ p.2))) :
  ∀ (j : Nat) (p : Nat × Value) (q : Nat × AV), (parts.map fun p => (p.1, ev p.2))[j]? = some p → (parts.map fun p => (p.1, ρ p.2))[j]? = some q → p.1 = q.1 ∧ VR R p.2 q.2 ∧ ∀ c ∈ q.2.cells, c.one = true := by
 intro j p q hp hq
 have hm := List.mem_of_getElem? hq
 simp only [List.getElem?_map, Option.map_eq_some_iff] at hp hq
 obtain ⟨x, hx, rfl⟩ := hp
 obtain ⟨y, hy, rfl⟩ := hq
 rw [hx] at hy
 cases hy
 exact ⟨rfl, ha _, ho _ hm⟩

theorem pr_build {ρ : Operand → AV} {t : TypeId} {parts : Array (Nat × Operand)} {zs : List Value} {pl : List (Nat × Nat)} (hl : layoutOf P t = some (zs, pl)) {u : AV}
  (ho : partsOne (parts.toList.map fun p => (p.1, ρ p.2))) (h : aBuild (zs.map .val) (pl[·]?) (parts.toList.map fun p => (p.1, ρ p.2)) u) :
  PRun P (fun ev => do pure (.value (← Instr.build t (parts.map fun (i, x) => (i, ev x))))) ρ u := by
 refine PRun.still fun R w ev ha _ => ?_
 obtain ⟨cs, hf, hu⟩ := h
 have main : ∀ place : Nat → Option (Nat × Nat), (∀ i s, pl[i]? = some s → place i = some s) → ∃ xs, Instr.fill place zs.toArray (parts.map fun (i, x) => (i, ev x)).toList = some (List.toArray xs) ∧ VRs R xs cs := by
  intro place hp
  have := fill_rel (place := place) (parts.toList.map fun p => (p.1, ev p.2)) (parts.toList.map fun p => (p.1, ρ p.2)) zs (zs.map .val) cs (VRs.ofVals R zs) (by simp) (parts_rel ha _ ho) (fillA_place _ _ _ hp hf)
  simpa using this
 unfold layoutOf at hl
 cases hit : P.info? t with
 | none => rw [hit] at hl; cases hl
 | some it =>
  rw [hit] at hl
  cases hun : P.underlying t with
  | none => rw [hun] at hl; cases hl
  | some d =>
   rw [hun] at hl
   cases d with
   | array n e =>
    simp only at hl
    cases hz : it.zero with
    | none => rw [hz] at hl; cases hl
    | some z =>
     rw [hz] at hl
     cases hie : P.info? e with
     | none => rw [hie] at hl; cases hl
     | some ie =>
      rw [hie] at hl
      simp only [Option.some.injEq, Prod.mk.injEq] at hl
      obtain ⟨rfl, rfl⟩ := hl
      obtain ⟨xs, hx, hr⟩ := main (fun i => some (i * ie.size, ie.size)) (fun i s hs => by
       simp only [List.getElem?_map, Option.map_eq_some_iff] at hs
       obtain ⟨k, hk, rfl⟩ := hs
       rw [List.getElem?_eq_some_iff] at hk
       obtain ⟨_, hk⟩ := hk
       simp at hk
       rw [hk])
      refine ⟨.agg (List.toArray xs), ?_, by rw [hu]; exact VR.agg' hr⟩
      have hb : P.built t (parts.map fun (i, x) => (i, ev x)).toList = some (List.toArray xs) := by
       unfold Program.built
       simp only [hit, hun, hz, hie]
       simpa using hx
      simp [run_build w t _ _ hb]
   | struct fs =>
    simp only at hl
    cases hz : it.zero with
    | none => rw [hz] at hl; cases hl
    | some z =>
     rw [hz] at hl
     cases hpl : fs.toList.mapM (fun f => (P.info? f.type).map fun i => (f.offset, i.size)) with
     | none => rw [hpl] at hl; cases hl
     | some pl' =>
      rw [hpl] at hl
      simp only [Option.some.injEq, Prod.mk.injEq] at hl
      obtain ⟨rfl, rfl⟩ := hl
      obtain ⟨xs, hx, hr⟩ := main (pl'.toArray[·]?) (fun i s hs => by simpa using hs)
      refine ⟨.agg (List.toArray xs), ?_, by rw [hu]; exact VR.agg' hr⟩
      have hb : P.built t (parts.map fun (i, x) => (i, ev x)).toList = some (List.toArray xs) := by
       unfold Program.built
       simp only [hit, hun, hz, hpl]
       simpa using hx
      simp [run_build w t _ _ hb]
   | _ => cases hl

def zeroOf (P : Program) (t : TypeId) : Option (TypeId × List Value × Nat) := match P.underlying t with
 | some (.slice e) => match P.info? e with
  | some i => match i.zero with
   | some z => if z.cells.size = i.size ∧ 0 < i.size then some (e, z.cells.toList, i.size) else none
   | none => none
  | none => none
 | _ => none
theorem zeroOf_run {t e : TypeId} {zs : List Value} {s : Nat} (h : zeroOf P t = some (e, zs, s)) : P.underlying t = some (.slice e) ∧ ∃ i z, P.info? e = some i ∧ i.zero = some z ∧ z.cells.toList = zs ∧ zs.length = s ∧ i.size = s ∧ 0 < s := by
 unfold zeroOf at h
 cases hu : P.underlying t with
 | none => rw [hu] at h; cases h
 | some d =>
  rw [hu] at h
  cases d with
  | slice e' =>
   simp only at h
   cases hi : P.info? e' with
   | none => rw [hi] at h; cases h
   | some i =>
    rw [hi] at h
    simp only at h
    cases hz : i.zero with
    | none => rw [hz] at h; cases h
    | some z =>
     rw [hz] at h
     simp only at h
     split at h
     ·rename_i hc
      simp only [Option.some.injEq, Prod.mk.injEq] at h
      obtain ⟨rfl, rfl, rfl⟩ := h
      exact ⟨rfl, i, z, hi, hz, rfl, by simpa using hc.1, rfl, hc.2⟩
     ·cases h
  | _ => cases h

theorem flatten_replicate_get (zs : List Value) : ∀ (n j : Nat), j < n * zs.length → (List.replicate n zs).flatten[j]? = zs[j % zs.length]? := by
 intro n
 induction n with
 | zero => intro j hj; simp at hj
 | succ n ih =>
  intro j hj
  rw [List.replicate_succ, List.flatten_cons]
  rcases Nat.lt_or_ge j zs.length with h | h
  ·rw [List.getElem?_append_left h, Nat.mod_eq_of_lt h]
  ·rw [List.getElem?_append_right h, ih _ (by rw [Nat.add_mul, Nat.one_mul] at hj; omega), Nat.mod_eq_sub_mod h]

theorem zero_cells (zs : List Value) (n : Nat) (hz : 0 < zs.length) : ((Array.range (n * zs.length)).map fun i => zs.toArray[i % zs.toArray.size]!) = ((List.replicate n zs).flatten).toArray := by
 apply Array.ext'
 apply List.ext_getElem?
 intro j
 rcases Nat.lt_or_ge j (n * zs.length) with h | h
 ·have hm : j % zs.length < zs.length := Nat.mod_lt _ hz
  rw [show ((List.replicate n zs).flatten.toArray).toList = (List.replicate n zs).flatten from rfl, flatten_replicate_get zs n j h]
  simp [h, hm]
 ·rw [List.getElem?_eq_none (by simp; omega), List.getElem?_eq_none (by simp; omega)]

theorem run_buildSlice {t e : TypeId} {zs : List Value} {s n : Nat} (hz : zeroOf P t = some (e, zs, s)) (hn : n * s ≤ 16777216) {R : RO} {ev : Operand → Value} {ρ : Operand → AV} (ha : ∀ x, VR R (ev x) (ρ x)) (parts : Array (Nat × Operand))
  (ho : partsOne (parts.toList.map fun p => (p.1, ρ p.2))) {us : List AV} (hf : fillA (fun i => some (i * s, s)) ((List.replicate n (zs.map AV.val)).flatten) (parts.toList.map fun p => (p.1, ρ p.2)) = some us) (w : World) :
  ∃ xs, VRs R xs us ∧ (Instr.buildSlice t n (parts.map fun x => (x.1, ev x.2))).run P w = .ok (.slice (some ⟨w.heap.size, 0, none⟩) n n) (w.alloc (.cells (List.toArray xs) e)) := by
 obtain ⟨hu, i, z, hi, hiz, hzs, hlen, hsz, hpos⟩ := zeroOf_run hz
 have e1 : (List.replicate n (zs.map AV.val)).flatten = ((List.replicate n zs).flatten).map .val := by
  simp [List.map_flatten]
 rw [e1] at hf
 obtain ⟨xs, hx, hr⟩ := fill_rel (place := fun i => some (i * s, s)) (parts.toList.map fun p => (p.1, ev p.2)) _ _ _ _ (VRs.ofVals R _) (by simp) (parts_rel ha _ ho) hf
 refine ⟨xs, hr, ?_⟩
 have hzt : z.cells = zs.toArray := by rw [← hzs]
 have hcell : ((Array.range (n * s)).map fun i => (if n * s = 0 then (#[] : Array Value) else z.cells)[i % (if n * s = 0 then (#[] : Array Value) else z.cells).size]!) = ((List.replicate n zs).flatten).toArray := by
  by_cases h0 : n * s = 0
  ·have hn0 : n = 0 := by
    rcases Nat.mul_eq_zero.1 h0 with h | h
    ·exact h
    ·omega
   subst hn0
   simp
  ·rw [if_neg h0, hzt, ← hlen]
   exact zero_cells zs n (by omega)
 have hparts : (parts.map fun x => (x.1, ev x.2)).toList = parts.toList.map fun p => (p.1, ev p.2) := by simp
 have hlim : ¬ (2 ^ 24 < n * s) := by omega
 have hfill : ∀ zero : Array Value, ((Array.range (n * s)).map fun i => zero[i % zero.size]!) = ((List.replicate n zs).flatten).toArray →
   Instr.fill (fun i => some (i * s, s)) ((Array.range (n * s)).map fun i => zero[i % zero.size]!) (parts.map fun x => (x.1, ev x.2)).toList = some (List.toArray xs) := by
  intro zero hzero
  rw [hzero, hparts, hx]
 by_cases h0 : n * s = 0
 ·rw [if_pos h0] at hcell
  have := hfill #[] hcell
  unfold Instr.buildSlice
  simp only [Sem.run_bind, run_underlying hu, Result.andThen_ok, run_sizeOf hi, hsz, hlim, if_false, h0, if_true, Sem.run_pure]
  rw [h0] at this
  rw [if_neg (by omega)]
  simp only [Sem.run_bind, Sem.run_pure, Result.andThen_ok, this]
  rfl
 ·rw [if_neg h0] at hcell
  have := hfill z.cells hcell
  unfold Instr.buildSlice
  simp only [Sem.run_bind, run_underlying hu, Result.andThen_ok, run_sizeOf hi, hsz, hlim, if_false, h0, Sem.run_pure]
  have hzv : (zeroValue e).run P w = .ok z w := by simp [zeroValue, typeInfo, hi, hiz]
  simp only [Sem.run_bind, Sem.run_pure, Result.andThen_ok, hzv, this]
  rfl

end Go.Ab

namespace Go.Ab
variable {P : Program}

def roNew (R : RO) (w w' : World) : RO := fun a => if a.block < w.heap.size then R a else w'.cell? a
theorem roNew_le {R : RO} {w w' : World} {σ : Store} (h : St R w σ) : RO.le R (roNew R w w') := by
 intro a v ha
 unfold roNew
 rw [if_pos (h.roLt ha)]
 exact ha
theorem st_roNew {R : RO} {w w' : World} {σ : Store} (h : St R w σ) (hg : w.grownBy w' none) : St (roNew R w w') w' σ ∧ Ext R w σ (roNew R w w') w' σ := by
 have hb : ∀ k, k < w.heap.size → w'.heap[k]? = w.heap[k]? := fun k hk => hg.block k hk (by simp)
 refine ⟨⟨?_, ?_, h.apart⟩, ⟨roNew_le h, hg.os, hg.tape, hg.output, hg.size, fun k hk _ => hb k hk, fun k hk => .inl hk, ?_⟩⟩
 ·intro a v ha
  unfold roNew at ha
  split at ha
  ·rename_i hlt
   rw [World.cell?_of_block (hb a.block hlt)]
   exact h.ro a v ha
  ·exact ha
 ·intro e he
  have hlt : ∀ b, e.blk = some b → b < w.heap.size := fun b hb => (h.ents e he).lt hb
  refine (h.ents e he).keep (roNew_le h) (fun b hb' => hb b (hlt b hb')) fun b hb' a x ha hab => ?_
  unfold roNew at ha
  rw [if_pos (by rw [hab]; exact hlt b hb')] at ha
  exact ha
 ·intro a v ha
  unfold roNew at ha
  split at ha
  ·exact .inl ha
  ·rename_i hlt; exact .inr (.inl (by omega))

theorem pr_buildSl {ρ : Operand → AV} {t e : TypeId} {n : Nat} {parts : Array (Nat × Operand)} {zs : List Value} {s : Nat} (hz : zeroOf P t = some (e, zs, s)) (hn : n * s ≤ 16777216) {u : AV} {z : AV} (hzc : z.cells = zs.map .val)
  (ho : partsOne (parts.toList.map fun p => (p.1, ρ p.2))) (h : aBuildSl z s n (parts.toList.map fun p => (p.1, ρ p.2)) u) (hzo : ∀ v ∈ zs, v.oneCell' = true) (hfo : ∀ l : List AV, u = .lst s l .full → ∀ c ∈ flat l, c.one = true) :
  PRun P (fun ev => do pure (.value (← Instr.buildSlice t n (parts.map fun x => (x.1, ev x.2))))) ρ u := by
 intro R w ev σ ha hs
 obtain ⟨l, hl, hsz, hf, hu⟩ := h
 rw [hzc] at hf
 obtain ⟨xs, hr, hrun⟩ := run_buildSlice hz hn ha parts ho hf w
 obtain ⟨g1, g2⟩ := st_roNew hs (World.grownBy_alloc w (.cells (List.toArray xs) e) none)
 refine ⟨.slice (some ⟨w.heap.size, 0, none⟩) n n, _, _, by simp only [Sem.run_bind, hrun, Result.andThen_ok, Sem.run_pure], ?_, g1, g2⟩
 rw [hu]
 obtain ⟨_, _, _, _, _, _, _, _, hpos⟩ := zeroOf_run hz
 have hr' := hr.mono g2.ro
 refine .lst xs hl hpos hsz hr'.1 hr'.2 (fun _ => ⟨_, rfl, fun j v hj => ?_⟩) (by simp [SMok]) ?_ (ones_rel hr (hfo l hu))
 ·rw [addr_lit_add, Nat.zero_add]
  unfold roNew
  rw [if_neg (by simp)]
  simp [hj]
 ·have : n ≤ n * s := Nat.le_mul_of_pos_right _ hpos
  simp only [maxLen]; omega

theorem allVals_map {l : List AV} {vs : List Value} (h : allVals l = some vs) : l = vs.map .val := by
 induction l generalizing vs with
 | nil => simp [allVals] at h; subst h; rfl
 | cons u l ih =>
  cases u with
  | val v =>
   simp only [allVals, Option.map_eq_some_iff] at h
   obtain ⟨vs', h', rfl⟩ := h
   rw [ih h']; rfl
  | _ => cases h

theorem plain_rel {R : RO} {v : Value} {x : AV} {a : Value} (h : VR R v x) (hp : plainV x = some a) : v = a := by
 cases x with
 | val b => simp only [plainV, Option.some.injEq] at hp; rw [← hp]; exact h.val_inv
 | agg cs =>
  simp only [plainV, Option.map_eq_some_iff] at hp
  obtain ⟨vs, hvs, rfl⟩ := hp
  obtain ⟨ws, rfl, hr⟩ := h.agg_inv
  rw [allVals_map hvs] at hr
  rw [hr.toVals]
 | _ => simp [plainV] at hp
theorem may_be {R : RO} {x : AV} {c : Value} (hx : VR R c x) : mayBe x c := by
 cases x with
 | lst sz l m =>
  obtain ⟨ao, cap, vs, hv, hz, hsz, hr, hR, hm, hb, hone⟩ := hx.lst_inv
  simp only [mayBe]
  split
  ·rename_i e; subst e
   obtain ⟨rfl, h0, rfl⟩ := hm
   rw [hv, h0]
  ·split
   ·trivial
   ·rename_i hne
    obtain ⟨a, rfl, _⟩ := hR hne
    exact ⟨a, _, _, hv⟩
 | own v n =>
  obtain ⟨hv, hrow⟩ := hx.own_inv
  simp only [mayBe]
  split
  ·trivial
  ·rename_i hn
   rcases hrow with ⟨_, h0⟩ | ⟨g, cap, hs, _⟩
   ·exact absurd h0 hn
   ·exact ⟨_, _, _, hv.trans hs⟩
 | ifc t u => cases hx with
  | ifc h => exact ⟨_, rfl⟩
 | sub v sz a n =>
  simp only [mayBe]
  rcases hx.sub_inv with ⟨h1, _, _, h2⟩ | ⟨g, n0, cap, p, h1, _, _, h2⟩
  ·exact .inl ⟨h1, h2⟩
  ·exact .inr ⟨(by rw [h1]; intro e; cases e), _, _, _, h2⟩
 | _ => trivial
theorem pr_bin {ρ : Operand → AV} {op : BinOp} {t ty : TypeId} {x y : Operand} {o : Oper} (ho : o.op = .binOp op t x y ty) {u : AV} (h : aBin P op t (ρ x) (ρ y) u) : PRun P (fun ev => execOp ev o) ρ u := by
 refine PRun.still fun R w ev ha _ => ?_
 have hx := ha x
 have hy := ha y
 unfold aBin at h
 split at h
 ·rename_i a b e1 e2
  obtain ⟨v, hu, hr⟩ := h
  refine ⟨v, ?_, by rw [hu]; exact .val v⟩
  have := hr x y w
  simp only [execOp, ho, plain_rel hx e1, plain_rel hy e2]
  simp only [Sem.run_bind] at this ⊢
  rw [this]
  rfl
 ·rename_i e2 _
  have hy' := plain_rel hy e2
  obtain ⟨v, hu, hr⟩ := h
  have hm := may_be hx
  refine ⟨v, ?_, by rw [hu]; exact .val v⟩
  have := hr _ hm x y w
  simp only [execOp, ho, hy']
  simp only [Sem.run_bind] at this ⊢
  rw [this]
  rfl
 ·rename_i e2 _
  have hy' := plain_rel hy e2
  obtain ⟨v, hu, hr⟩ := h
  have hm := may_be hx
  refine ⟨v, ?_, by rw [hu]; exact .val v⟩
  have := hr _ hm x y w
  simp only [execOp, ho, hy']
  simp only [Sem.run_bind] at this ⊢
  rw [this]
  rfl
 ·exact h.elim

theorem pr_un {ρ : Operand → AV} {op : UnOp} {t : TypeId} {x : Operand} {u : AV} (h : aUn P op (ρ x) u) : PRun P (fun ev => do pure (.value (← Op.unary op (ev x)))) ρ u := by
 refine PRun.still fun R w ev ha _ => ?_
 have hx := ha x
 unfold aUn at h
 split at h
 ·rename_i a e1
  rw [e1] at hx
  obtain ⟨v, hu, hr⟩ := h
  exact ⟨v, by simp [hx.val_inv, hr w], by rw [hu]; exact .val v⟩
 ·exact h.elim

theorem isBytes_run {t : TypeId} (h : isBytes P t = true) : ∃ e, P.underlying t = some (.slice e) ∧ P.underlying e = some (.int .u8) := by
 unfold isBytes at h
 split at h
 ·rename_i e hu
  split at h
  ·rename_i hue; exact ⟨e, hu, hue⟩
  ·cases h
 ·cases h
theorem isString_run {t : TypeId} (h : isString P t = true) : P.underlying t = some .string := by
 unfold isString at h
 split at h
 ·assumption
 ·cases h

theorem strOfNums_bytes (bs : List UInt8) : strOfNums (bs.map fun b => (b.toNat : Int)) = ⟨bs.toArray⟩ := by
 unfold strOfNums
 congr 2
 rw [List.map_map]
 have : ((fun n : Int => UInt8.ofNat n.toNat) ∘ fun b : UInt8 => (b.toNat : Int)) = id := by funext b; simp
 rw [this, List.map_id]
theorem flat_bytes (bs : List UInt8) : flat (bs.map byt) = (bs.map fun b => Value.int .u8 b.toNat).map .val := by
 induction bs with
 | nil => rfl
 | cons b bs ih => simp only [List.map_cons]; rw [← ih]; rfl
theorem pr_conv {ρ : Operand → AV} {s d : TypeId} {x : Operand} {u : AV} (h : aConv P s d (ρ x) u) : PRun P (fun ev => do pure (.value (← convert s d (ev x)))) ρ u := by
 intro R w ev σ ha hs
 have hx := ha x
 unfold aConv at h
 split at h
 ·rename_i hc
  simp only [Bool.and_eq_true] at hc
  have h1 := isString_run hc.1
  obtain ⟨e, h2, h3⟩ := isBytes_run hc.2
  split at h
  ·rename_i str e1
   rw [e1] at hx
   have hrun := Lib.run_convert_string_bytes w s d e str h1 h2 h3
   have hg : w.grownBy (Lib.bytesWorld w e str) none := ⟨rfl, rfl, rfl, by rw [Lib.bytesWorld_size]; omega, fun k hk _ => Lib.bytesWorld_at_old w e str k hk⟩
   obtain ⟨g1, g2⟩ := st_roNew hs hg
   refine ⟨.slice (some ⟨w.heap.size, 0, none⟩) str.size (grownCap w str.size 0 e), _, _, by simp only [hx.val_inv, Sem.run_bind, hrun, Result.andThen_ok, Sem.run_pure], ?_, g1, g2⟩
   rw [h.2]
   have hfl := flat_bytes str.data.toList
   have hv := VRs.ofVals (roNew R w (Lib.bytesWorld w e str)) (str.data.toList.map fun b => Value.int .u8 b.toNat)
   rw [← hfl] at hv
   refine .lst _ (by simp) (by omega) (fun e he => ?_) hv.1 hv.2 (fun _ => ⟨_, rfl, fun j v hj => ?_⟩) ?_ h.1 ?_
   ·simp only [List.mem_map] at he
    obtain ⟨b, _, rfl⟩ := he
    rfl
   ·rw [addr_lit_add, Nat.zero_add]
    unfold roNew
    rw [if_neg (by simp)]
    simp only [List.getElem?_map, Option.map_eq_some_iff] at hj
    obtain ⟨b, hb, rfl⟩ := hj
    have hlt : j < str.size := by have := (List.getElem?_eq_some_iff.1 hb).1; simpa using this
    rw [Lib.bytesWorld_cell w e str j hlt]
    simp [List.getD_eq_getElem?_getD, hb]
   ·simp only [SMok]; exact grownCap_ge _ _ _ _
   ·intro v hv
    simp only [List.mem_map] at hv
    obtain ⟨b, _, rfl⟩ := hv
    rfl
  ·exact h.elim
 ·split at h
  ·rename_i hc
   simp only [Bool.and_eq_true] at hc
   obtain ⟨e, h1, h3⟩ := isBytes_run hc.1
   have h2 := isString_run hc.2
   split at h
   ·rename_i sz l m e1
    rw [e1] at hx
    obtain ⟨bs, hl, hu⟩ := h
    obtain ⟨ao, cap, vs, hv, hz, hsz, hr, hR, hm, hb, hone⟩ := hx.lst_inv
    subst hl
    have hfl := flat_bytes bs
    rw [hfl] at hr
    have hvs := hr.toVals
    refine ⟨.string ⟨bs.toArray⟩, w, R, ?_, by rw [hu]; exact .val _, hs, Ext.refl _ _ _⟩
    cases bs with
    | nil =>
     cases ao with
     | none => simp only [hv, Sem.run_bind, run_convert_bytes_nil w s e h1 h3 _ _ d h2, Result.andThen_ok, Sem.run_pure]; rfl
     | some a =>
      obtain ⟨b, o, sp⟩ := a
      have := run_convert_bytes_string w s d e (some ⟨b, o, sp⟩) 0 cap h1 h3 h2
      simp only [hv, Sem.run_bind, List.map_nil, List.length_nil, this]
      simp [Conv.bytesToString, loadCells, loadCellsFrom]
      rfl
    | cons b0 bs =>
     obtain ⟨a, rfl, hR'⟩ := hR (by simp)
     have hcell : ∀ j v, vs[j]? = some v → w.cell? (a.add j) = some v := fun j v hj => hs.ro _ _ (hR' j v hj)
     obtain ⟨b, o, sp⟩ := a
     have hsp : sp = none := by
      have := hcell 0 (.int .u8 b0.toNat) (by rw [hvs]; rfl)
      simp only [Addr.add, if_true, World.cell?] at this
      cases sp with
      | none => rfl
      | some q => split at this <;> simp at this
     subst hsp
     have hrun := run_convert_bytes_arg w s e h1 h3 b o (b0 :: bs).length cap ((b0 :: bs).map fun b => (b.toNat : Int)) (by simp) (fun i hi => by
      have := hcell i (.int .u8 ((b0 :: bs)[i].toNat)) (by rw [hvs, List.getElem?_map, List.getElem?_eq_getElem hi]; rfl)
      rw [addr_lit_add] at this
      rw [this]
      rw [List.getD_eq_getElem?_getD, List.getElem?_map, List.getElem?_eq_getElem hi]; rfl) d h2
     simp only [List.length_map] at hv
     simp only [hv, Sem.run_bind, hrun, Result.andThen_ok, Sem.run_pure]
     rw [strOfNums_bytes]
   ·exact h.elim
  ·split at h
   ·rename_i a e1
    rw [e1] at hx
    obtain ⟨v, hu, hr⟩ := h
    exact ⟨v, w, R, by simp [hx.val_inv, hr w], by rw [hu]; exact .val v, hs, Ext.refl _ _ _⟩
   ·exact h.elim

theorem pr_iface {ρ : Operand → AV} {t : TypeId} {x : Operand} (h : P.concrete t = true) : PRun P (fun ev => do pure (.value (← Instr.makeInterface t (ev x)))) ρ (.ifc t (ρ x)) :=
 PRun.still fun R w ev ha _ => ⟨.iface t (ev x), by simp [run_makeInterface w t (ev x) h], .ifc (ha x)⟩

theorem map_rel {R : RO} {ev : Operand → Value} {ρ : Operand → AV} (ha : ∀ x, VR R (ev x) (ρ x)) (l : List Operand) : VRs R (l.map ev) (l.map ρ) := by
 refine ⟨by simp, fun j u v hu hv => ?_⟩
 simp only [List.getElem?_map, Option.map_eq_some_iff] at hu hv
 obtain ⟨x, hx, rfl⟩ := hu
 obtain ⟨y, hy, rfl⟩ := hv
 rw [hx] at hy
 cases hy
 exact ha x

theorem pr_func {ρ : Operand → AV} {f : Fn} {a b : Array Operand} : PRun P (fun ev => do pure (.value (← Instr.makeFunc f (a.map ev) (b.map ev)))) ρ (.fn f (a.toList.map ρ) (b.toList.map ρ)) :=
 PRun.still fun R w ev ha _ => ⟨.func f (a.map ev) (b.map ev), by simp [Instr.makeFunc], by
  have h1 := map_rel ha a.toList
  have h2 := map_rel ha b.toList
  exact .fn (by simp) (fun j u v hu hv => h1.2 j u v hu (by simpa using hv)) (by simp) (fun j u v hu hv => h2.2 j u v hu (by simpa using hv))⟩

theorem pr_builtin {ρ : Operand → AV} {o : Oper} {b : Builtin} {args : Array Operand} {ts : Array TypeId} (ho : o.op = .call { callee := .builtin b, args, argTypes := ts }) {u : AV} (h : aBuiltin P b ts (args.toList.map ρ) u) :
  PRun P (fun ev => execOp ev o) ρ u := by
 refine PRun.still fun R w ev ha _ => ?_
 have hm := map_rel ha args.toList
 obtain ⟨cs, hex⟩ : ∃ cs, (execOp ev o).run P w = (builtin b ts o.type cs (args.map ev)).run P w := by
  unfold execOp
  rw [ho]
  exact ⟨_, rfl⟩
 rw [hex]
 unfold aBuiltin at h
 split at h
 ·rename_i sz l m e1
  obtain ⟨⟨t, ht, d, hd⟩, hu⟩ := h
  rw [e1] at hm
  have hl := hm.1
  have hvs : ∃ v, args.toList.map ev = [v] := by
   cases hargs : args.toList.map ev with
   | nil => rw [hargs] at hl; simp at hl
   | cons v vs => cases vs with
    | nil => exact ⟨v, rfl⟩
    | cons _ _ => rw [hargs] at hl; simp at hl
  obtain ⟨v, hv⟩ := hvs
  rw [hv] at hm
  have hr := hm.2 0 _ _ rfl rfl
  obtain ⟨ao, cap, vs, hve, _⟩ := hr.lst_inv
  have hav : args.map ev = #[v] := by apply Array.ext'; simp [hv]
  refine ⟨.int .i64 l.length, ?_, by rw [hu]; exact .val _⟩
  simp [builtin, Builtin.len_, hav, ht, run_underlying hd, hve, goInt]
 ·rename_i v0 n0 e1
  obtain ⟨⟨t, ht, d, hd⟩, hu⟩ := h
  rw [e1] at hm
  have hl := hm.1
  have hvs : ∃ v, args.toList.map ev = [v] := by
   cases hargs : args.toList.map ev with
   | nil => rw [hargs] at hl; simp at hl
   | cons v vs => cases vs with
    | nil => exact ⟨v, rfl⟩
    | cons _ _ => rw [hargs] at hl; simp at hl
  obtain ⟨v, hv⟩ := hvs
  rw [hv] at hm
  obtain ⟨hr, hrow⟩ := (hm.2 0 _ _ rfl rfl).own_inv
  have hav : args.map ev = #[v] := by apply Array.ext'; simp [hv]
  subst hr
  refine ⟨.int .i64 n0, ?_, by rw [hu]; exact .val _⟩
  rcases hrow with ⟨rfl, rfl⟩ | ⟨g, cap, rfl, _⟩ <;> simp [builtin, Builtin.len_, hav, ht, run_underlying hd, goInt]
 ·rename_i v0 z0 a0 n0 e1
  obtain ⟨⟨t, ht, d, hd⟩, hu⟩ := h
  rw [e1] at hm
  have hl := hm.1
  have hvs : ∃ v, args.toList.map ev = [v] := by
   cases hargs : args.toList.map ev with
   | nil => rw [hargs] at hl; simp at hl
   | cons v vs => cases vs with
    | nil => exact ⟨v, rfl⟩
    | cons _ _ => rw [hargs] at hl; simp at hl
  obtain ⟨v, hv⟩ := hvs
  rw [hv] at hm
  have hr := (hm.2 0 _ _ rfl rfl).sub_inv
  have hav : args.map ev = #[v] := by apply Array.ext'; simp [hv]
  refine ⟨.int .i64 n0, ?_, by rw [hu]; exact .val _⟩
  rcases hr with ⟨_, _, rfl, rfl⟩ | ⟨g, n1, cap, p, _, _, _, rfl⟩ <;> simp [builtin, Builtin.len_, hav, ht, run_underlying hd, goInt]
 ·rename_i v0 n0 e1
  obtain ⟨⟨t, ht, d, hd⟩, hu⟩ := h
  rw [e1] at hm
  have hl := hm.1
  have hvs : ∃ v, args.toList.map ev = [v] := by
   cases hargs : args.toList.map ev with
   | nil => rw [hargs] at hl; simp at hl
   | cons v vs => cases vs with
    | nil => exact ⟨v, rfl⟩
    | cons _ _ => rw [hargs] at hl; simp at hl
  obtain ⟨v, hv⟩ := hvs
  rw [hv] at hm
  obtain ⟨hr, hrow⟩ := (hm.2 0 _ _ rfl rfl).own_inv
  have hav : args.map ev = #[v] := by apply Array.ext'; simp [hv]
  subst hr
  refine ⟨.int .i64 (capV v), ?_, by rw [hu]; exact .val _⟩
  rcases hrow with ⟨rfl, rfl⟩ | ⟨g, cap, rfl, _⟩ <;> simp [builtin, Builtin.cap_, capV, hav, ht, run_underlying hd, goInt]
 ·rename_i v0 z0 a0 n0 e1
  obtain ⟨⟨t, ht, d, hd⟩, hu⟩ := h
  rw [e1] at hm
  have hl := hm.1
  have hvs : ∃ v, args.toList.map ev = [v] := by
   cases hargs : args.toList.map ev with
   | nil => rw [hargs] at hl; simp at hl
   | cons v vs => cases vs with
    | nil => exact ⟨v, rfl⟩
    | cons _ _ => rw [hargs] at hl; simp at hl
  obtain ⟨v, hv⟩ := hvs
  rw [hv] at hm
  have hr := (hm.2 0 _ _ rfl rfl).sub_inv
  have hav : args.map ev = #[v] := by apply Array.ext'; simp [hv]
  refine ⟨.int .i64 ((capV v0 - a0 : Nat) : Int), ?_, by rw [hu]; exact .val _⟩
  rcases hr with ⟨rfl, rfl, rfl, rfl⟩ | ⟨g, n1, cap, p, rfl, _, _, rfl⟩ <;> simp [builtin, Builtin.cap_, capV, hav, ht, run_underlying hd, goInt]
 ·obtain ⟨_, vs, v, hvs, hu, hr⟩ := h
  rw [allVals_map hvs] at hm
  have hv := hm.toVals
  have hav : args.map ev = vs.toArray := by apply Array.ext'; simp [hv]
  exact ⟨v, by rw [hav]; exact hr _ _ w, by rw [hu]; exact .val v⟩

end Go.Ab

namespace Go.Ab
variable {P : Program}

def loadA (ag : Bool) (s : Nat) (p : AV) (σ : Store) (u : AV) : Prop := 0 < s ∧ (ag = false → s = 1) ∧ match p with
 | .rptr cs => s ≤ cs.length ∧ u = mkV ag (cs.take s)
 | .val (.pointer (some a)) => a.spot = none ∧ ∃ t cs, Ent.var a.block t cs ∈ σ ∧ a.off + s ≤ cs.length ∧ u = mkV ag ((cs.drop a.off).take s)
 | .eptr v sz i j => ∃ E l fl, Ent.row v E sz l fl ∈ σ ∧ i < l.length ∧ j + s ≤ sz ∧ u = mkV ag (((l.getD i .undef).cells.drop j).take s)
 | _ => False

theorem load_run {t : TypeId} {ag : Bool} {s : Nat} (hsh : shapeOf P t = some (ag, s)) {w : World} {a : Addr} {vs : List Value} (hc : ∀ (j : Nat) (v : Value), vs[j]? = some v → w.cell? (a.add j) = some v) (hl : vs.length = s) (h1 : ag = false → s = 1) :
  (loadVar t a).run P w = .ok (mkC ag vs) w := by
 obtain ⟨q1, q2⟩ := shapeOf_run hsh w
 unfold loadVar
 cases ag with
 | true =>
  have := run_loadCells_list (P := P) w a vs hc
  rw [hl] at this
  simp [q1, q2, this, mkC]
 | false =>
  have h1 := h1 rfl
  subst h1
  cases vs with
  | nil => simp at hl
  | cons v vs =>
   have := hc 0 v rfl
   rw [addr_add_zero] at this
   simp [q1, this, mkC]

theorem cells_at {w : World} {a : Addr} {vs : List Value} (hc : ∀ (j : Nat) (v : Value), vs[j]? = some v → w.cell? (a.add j) = some v) (off s : Nat) : ∀ (j : Nat) (v : Value), ((vs.drop off).take s)[j]? = some v → w.cell? ((a.add off).add j) = some v := by
 intro j v hj
 rw [addr_add_add]
 rw [List.getElem?_take] at hj
 split at hj
 ·exact hc _ _ (by simpa using hj)
 ·cases hj

theorem var_cells {R : RO} {w : World} {σ : Store} (hs : St R w σ) {b : Nat} {t : TypeId} {cs : List AV} (hm : Ent.var b t cs ∈ σ) : ∃ vs, VRs R vs cs ∧ (∀ v ∈ vs, v.oneCell' = true) ∧ w.heap[b]? = some (.cells (List.toArray vs) t (0, 0)) ∧
  ∀ (j : Nat) (v : Value), vs[j]? = some v → w.cell? ((⟨b, 0, none⟩ : Addr).add j) = some v := by
 obtain ⟨⟨vs, h1, h2, h3⟩, _⟩ := hs.ents _ hm
 refine ⟨vs, h2, h3, h1, fun j v hj => ?_⟩
 rw [addr_lit_add, Nat.zero_add]
 simp [World.cell?, h1, hj]
theorem row_cells {R : RO} {w : World} {σ : Store} (hs : St R w σ) {v : Value} {E : TypeId} {sz : Nat} {l : List AV} {fl : Nat} (hm : Ent.row v E sz l fl ∈ σ) : ∃ vs, VRs R vs (flat l) ∧ (∀ v ∈ vs, v.oneCell' = true) ∧ rowM w 0 E sz v l.length vs ∧ 0 < sz ∧ (∀ e ∈ l, e.cells.length = sz) ∧
  ∀ g n cap, v = .slice (some ⟨g, 0, none⟩) n cap → ∀ (j : Nat) (x : Value), vs[j]? = some x → w.cell? ((⟨g, 0, none⟩ : Addr).add j) = some x := by
 obtain ⟨h1, h2, ⟨vs, h3, h4, h5⟩, h6, h7⟩ := hs.ents _ hm
 exact ⟨vs, h4, h5, h3, h1, h2, fun g n cap hv j x hj => h3.cells (g := g) (by rw [hv]; rfl) j x hj⟩

theorem rd_load {ρ : Operand → AV} {σ : Store} {t : TypeId} {x : Operand} {ag : Bool} {s : Nat} (hsh : shapeOf P t = some (ag, s)) {u : AV} (h : loadA ag s (ρ x) σ u) {o : Oper} (ho : o.op = .load t x) {k kp : AV → Store → Prop} (hk : k u σ) : AOp P o ρ σ k kp := by
 refine AOp.ofRun fun R w ev ha hs => ?_
 have hx := ha x
 obtain ⟨hs0, hag, h⟩ := h
 have fin : ∀ (a : Addr) (vs : List Value) (cs : List AV), ev x = .pointer (some a) → VRs R vs cs → cs.length = s → u = mkV ag cs → (∀ (j : Nat) (v : Value), vs[j]? = some v → w.cell? (a.add j) = some v) →
   ∃ v w' u' R' σ', (execOp ev o).run P w = .ok (.value v) w' ∧ k u' σ' ∧ VR R' v u' ∧ St R' w' σ' ∧ Ext R w σ R' w' σ' := by
  intro a vs cs hv hr hl hu hc
  refine ⟨mkC ag vs, w, u, R, σ, ?_, hk, by rw [hu]; exact mkV_rel hr ag, hs, Ext.refl _ _ _⟩
  simp [execOp, ho, Instr.loadAt, Instr.sureAddr, hv, load_run hsh hc (hr.1.trans hl) hag]
 split at h
 ·rename_i cs e
  rw [e] at hx
  obtain ⟨a, vs, hv, hr, hR⟩ := hx.rptr_inv
  have hh := cells_at (w := w) (a := a) (vs := vs) (fun j v hj => hs.ro _ _ (hR j v hj)) 0 s
  rw [addr_add_zero, List.drop_zero] at hh
  exact fin a _ _ hv (hr.take s) (by rw [List.length_take]; omega) h.2 hh
 ·rename_i a e
  rw [e] at hx
  obtain ⟨hsp, t', cs, hm, hl, hu⟩ := h
  obtain ⟨vs, hr, _, _, hc⟩ := var_cells hs hm
  obtain ⟨b, off, sp⟩ := a
  simp only at hsp hl hu hm hc
  subst hsp
  have hh := cells_at hc off s
  rw [addr_lit_add, Nat.zero_add] at hh
  exact fin _ _ _ hx.val_inv ((hr.drop off).take s) (by rw [List.length_take, List.length_drop]; omega) hu hh
 ·rename_i v sz i j e
  rw [e] at hx
  obtain ⟨E, l, fl, hm, hi, hj, hu⟩ := h
  obtain ⟨g, n, cap, hv, he⟩ := VR.eptr_inv hx
  obtain ⟨vs, hr, _, _, hsz0, hsz, hc⟩ := row_cells hs hm
  have hh := cells_at (hc g n cap hv) (i * sz) sz
  have hr' := (hr.drop (i * sz)).take sz
  rw [flat_get hsz i hi] at hr'
  have hh2 := cells_at hh j s
  rw [addr_lit_add, addr_lit_add, Nat.zero_add] at hh2
  have hlen : (l.getD i .undef).cells.length = sz := by
   have hmem : l.getD i .undef ∈ l := by rw [List.getD_eq_getElem?_getD, List.getElem?_eq_getElem hi]; exact List.getElem_mem _
   exact hsz _ hmem
  exact fin _ _ _ he ((hr'.drop j).take s) (by rw [List.length_take, List.length_drop, hlen]; omega) hu hh2
 ·exact h.elim

theorem st_newVar {R : RO} {w : World} {σ : Store} (hs : St R w σ) {vs : List Value} {cs : List AV} (hr : VRs R vs cs) (ho : ∀ v ∈ vs, v.oneCell' = true) (t : TypeId) :
  St R (w.alloc (.cells (List.toArray vs) t)) (.var w.heap.size t cs :: σ) ∧ Ext R w σ R (w.alloc (.cells (List.toArray vs) t)) (.var w.heap.size t cs :: σ) ∧ w.heap.size ∉ blks σ := by
 have hnew : w.heap.size ∉ blks σ := fun h => Nat.lt_irrefl _ (hs.lt h)
 have hold : ∀ k, k < w.heap.size → (w.alloc (.cells (List.toArray vs) t)).heap[k]? = w.heap[k]? := fun k hk => heap_alloc_old w _ k hk
 refine ⟨⟨fun a v ha => ?_, ?_, ?_⟩, ⟨fun _ _ h => h, rfl, rfl, rfl, by simp, fun k hk _ => hold k hk, ?_, fun _ _ h => .inl h⟩, hnew⟩
 ·rw [World.cell?_of_block (hold _ (hs.roLt ha))]; exact hs.ro a v ha
 ·intro e he
  rcases List.mem_cons.1 he with rfl | he
  ·refine ⟨⟨vs, by rw [heap_alloc_new], hr, ho⟩, fun a x ha hab => ?_⟩
   have := hs.roLt ha; omega
  ·exact (hs.ents e he).keep (fun _ _ h => h) (fun b hb => hold b ((hs.ents e he).lt hb)) fun b hb a x ha hab => ha
 ·refine List.pairwise_cons.2 ⟨fun e he b hb hb' => ?_, hs.apart⟩
  simp only [Ent.blk, Option.some.injEq] at hb
  subst hb
  exact hnew (mem_blks.2 ⟨e, he, hb'⟩)
 ·intro k hk
  obtain ⟨e, he, hb⟩ := mem_blks.1 hk
  rcases List.mem_cons.1 he with rfl | he
  ·simp only [Ent.blk, Option.some.injEq] at hb; subst hb; exact .inr (Nat.le_refl _)
  ·exact .inl (mem_blks.2 ⟨e, he, hb⟩)

def ptrTo (b : Nat) : AV := .val (.pointer (some ⟨b, 0, none⟩))
def aNewVar (t : TypeId) (cs : List AV) (σ : Store) (k : AV → Store → Prop) : Prop := (∀ c ∈ cs, c.one = true) ∧ ∀ b, b ∉ blks σ → k (ptrTo b) (.var b t cs :: σ)

def zeroCells (P : Program) (t : TypeId) : Option (List Value) := match P.info? t with
 | some i => match i.zero with
  | some z => some z.cells.toList
  | none => none
 | none => none
theorem ef_alloc {ρ : Operand → AV} {σ : Store} {t : TypeId} {zs : List Value} (hz : zeroCells P t = some zs) {o : Oper} (ho : o.op = .alloc t) {k kp : AV → Store → Prop} (h : aNewVar t (zs.map .val) σ k) : AOp P o ρ σ k kp := by
 refine AOp.ofRun fun R w ev ha hs => ?_
 obtain ⟨h1, h2⟩ := h
 unfold zeroCells at hz
 cases hi : P.info? t with
 | none => rw [hi] at hz; cases hz
 | some i =>
  rw [hi] at hz
  cases hiz : i.zero with
  | none => simp only [hiz] at hz; cases hz
  | some z =>
   simp only [hiz, Option.some.injEq] at hz
   have hone : ∀ v ∈ zs, v.oneCell' = true := ones_rel (VRs.ofVals R zs) h1
   obtain ⟨g1, g2, g3⟩ := st_newVar hs (VRs.ofVals R zs) hone t
   refine ⟨.pointer (some ⟨w.heap.size, 0, none⟩), _, _, R, _, ?_, h2 _ g3, .val _, g1, g2⟩
   have hzc : z.cells = zs.toArray := by rw [← hz]
   simp [execOp, ho, Instr.alloc, zeroValue, typeInfo, hi, hiz, newVar, newRow, hzc]
theorem ef_box {ρ : Operand → AV} {σ : Store} {t : TypeId} {x : Operand} {o : Oper} (ho : o.op = .box t x) {k kp : AV → Store → Prop} (h : aNewVar t (ρ x).cells σ k) : AOp P o ρ σ k kp := by
 refine AOp.ofRun fun R w ev ha hs => ?_
 obtain ⟨h1, h2⟩ := h
 have hr := cells_rel (ha x) h1
 obtain ⟨g1, g2, g3⟩ := st_newVar hs hr (ones_rel hr h1) t
 refine ⟨.pointer (some ⟨w.heap.size, 0, none⟩), _, _, R, _, ?_, h2 _ g3, .val _, g1, g2⟩
 simp [execOp, ho, Instr.box, newVar, newRow]

theorem st_change {R : RO} {w : World} {σ1 σ2 : Store} {e e' : Ent} (hs : St R w (σ1 ++ e :: σ2)) {b : Nat} (hb : e.blk = some b) (hb' : e'.blk = some b) {w' : World} (hos : w'.os = w.os) (htape : w'.tape = w.tape) (hout : w'.output = w.output) (hsz : w'.heap.size = w.heap.size)
  (hold : ∀ k, k ≠ b → w'.heap[k]? = w.heap[k]?) (hro : ∀ a v, R a = some v → a.block = b → w'.cell? a = some v) (he : EntOk R w' e') : St R w' (σ1 ++ e' :: σ2) ∧ Ext R w (σ1 ++ e :: σ2) R w' (σ1 ++ e' :: σ2) := by
 have hp := List.pairwise_append.1 hs.apart
 have hp2 := List.pairwise_cons.1 hp.2.1
 refine ⟨⟨fun a v ha => ?_, fun x hx => ?_, ?_⟩, ⟨fun _ _ h => h, hos, htape, hout, by omega, fun k hk hn => hold k fun h => hn ?_, fun k hk => .inl ?_, fun _ _ h => .inl h⟩⟩
 ·by_cases hab : a.block = b
  ·exact hro a v ha hab
  ·rw [World.cell?_of_block (hold _ hab)]; exact hs.ro a v ha
 ·have keep : x ∈ σ1 ++ e :: σ2 → x.blk ≠ some b → EntOk R w' x := fun hm hne => (hs.ents x hm).keep (fun _ _ h => h) (fun c hc => hold c (fun h => hne (by rw [hc, h]))) fun _ _ _ _ h _ => h
  rcases List.mem_append.1 hx with hx | hx
  ·exact keep (List.mem_append.2 (.inl hx)) fun h => hp.2.2 x hx e (List.mem_cons_self ..) b h hb
  ·rcases List.mem_cons.1 hx with rfl | hx
   ·exact he
   ·exact keep (List.mem_append.2 (.inr (List.mem_cons_of_mem _ hx))) fun h => hp2.1 x hx b hb h
 ·refine List.pairwise_append.2 ⟨hp.1, List.pairwise_cons.2 ⟨fun x hx c hc => ?_, hp2.2⟩, fun x hx y hy c hc => ?_⟩
  ·rw [hb'] at hc; cases hc; exact hp2.1 x hx b hb
  ·rcases List.mem_cons.1 hy with rfl | hy
   ·intro h
    rw [hb'] at h; cases h
    exact hp.2.2 x hx e (List.mem_cons_self ..) b hc hb
   ·exact hp.2.2 x hx y (List.mem_cons_of_mem _ hy) c hc
 ·subst h
  exact mem_blks.2 ⟨e, by simp, hb⟩
 ·obtain ⟨x, hx, hxb⟩ := mem_blks.1 hk
  rcases List.mem_append.1 hx with hx | hx
  ·exact mem_blks.2 ⟨x, List.mem_append.2 (.inl hx), hxb⟩
  ·rcases List.mem_cons.1 hx with rfl | hx
   ·rw [hb'] at hxb; cases hxb; exact mem_blks.2 ⟨e, by simp, hb⟩
   ·exact mem_blks.2 ⟨x, List.mem_append.2 (.inr (List.mem_cons_of_mem _ hx)), hxb⟩

def mkE (cs : List AV) : AV := match cs with
 | [c] => c
 | cs => .agg cs
theorem mkE_cells {cs : List AV} (h : ∀ c ∈ cs, c.one = true) : (mkE cs).cells = cs := by
 unfold mkE
 split
 ·rename_i c
  have := h c (by simp)
  cases c <;> first | rfl | cases this
 ·rfl

theorem list_window {α : Type} (F new : List α) (p sz j : Nat) (hp : p + sz ≤ F.length) (hj : j + new.length ≤ sz) :
  F.take p ++ (((F.drop p).take sz).take j ++ new ++ ((F.drop p).take sz).drop (j + new.length)) ++ F.drop (p + sz) = F.take (p + j) ++ new ++ F.drop (p + j + new.length) := by
 have e1 : F.take (p + j) = F.take p ++ (F.drop p).take j := List.take_add
 have e2 : F.drop (p + j + new.length) = ((F.drop p).take sz).drop (j + new.length) ++ F.drop (p + sz) := by
  have : F.drop p = (F.drop p).take sz ++ F.drop (p + sz) := by rw [← List.drop_drop, List.take_append_drop]
  have h2 : F.drop (p + j + new.length) = (F.drop p).drop (j + new.length) := by rw [List.drop_drop]; congr 1; omega
  rw [h2]
  conv => lhs; rw [this]
  rw [List.drop_append_of_le_length (by rw [List.length_take, List.length_drop]; omega)]
 have e3 : ((F.drop p).take sz).take j = (F.drop p).take j := by rw [List.take_take]; congr 1; omega
 rw [e1, e2, e3]
 simp only [List.append_assoc]
theorem flat_set {l : List AV} {sz i j : Nat} (hsz : ∀ e ∈ l, e.cells.length = sz) (hi : i < l.length) {new : List AV} (hj : j + new.length ≤ sz) (hone : ∀ c ∈ splice (l.getD i .undef).cells j new, c.one = true) :
  flat (l.set i (mkE (splice (l.getD i .undef).cells j new))) = splice (flat l) (i * sz + j) new := by
 have e1 : l.set i (mkE (splice (l.getD i .undef).cells j new)) = l.take i ++ [mkE (splice (l.getD i .undef).cells j new)] ++ l.drop (i + 1) := by
  rw [List.set_eq_take_append_cons_drop, if_pos hi]; simp
 have e2 : flat [mkE (splice (l.getD i .undef).cells j new)] = splice (l.getD i .undef).cells j new := by
  show (mkE _).cells ++ [] = _
  rw [mkE_cells hone, List.append_nil]
 have hb : (i + 1) * sz ≤ l.length * sz := Nat.mul_le_mul_right _ hi
 rw [Nat.add_mul, Nat.one_mul] at hb
 rw [e1, flat_append, flat_append, flat_take hsz, flat_drop hsz, e2, ← flat_get hsz i hi, Nat.add_mul, Nat.one_mul]
 exact list_window (flat l) new (i * sz) sz j (by rw [flat_length hsz]; omega) hj

def storeA (s : Nat) (p x : AV) (σ : Store) (k : AV → Store → Prop) : Prop := x.cells.length = s ∧ (∀ c ∈ x.cells, c.one = true) ∧ match p with
 | .val (.pointer (some a)) => a.spot = none ∧ ∃ σ1 σ2 t cs, σ = σ1 ++ .var a.block t cs :: σ2 ∧ a.off + s ≤ cs.length ∧ k .undef (σ1 ++ .var a.block t (splice cs a.off x.cells) :: σ2)
 | .eptr v sz i j => ∃ σ1 σ2 E l fl, σ = σ1 ++ .row v E sz l fl :: σ2 ∧ fl ≤ i ∧ i < l.length ∧ j + s ≤ sz ∧ (∀ c ∈ (l.getD i .undef).cells, c.one = true) ∧ k .undef (σ1 ++ .row v E sz (l.set i (mkE (splice (l.getD i .undef).cells j x.cells))) fl :: σ2)
 | _ => False

theorem run_storeCellsM (P : Program) (g o : Nat) (t : TypeId) (fz : Nat × Nat) : ∀ (vs : List Value) (i : Nat) (cur : Array Value) (w : World), w.heap[g]? = some (.cells cur t fz) → (fz = (0, 0) ∨ cur.size ≤ fz.1) → o + i + vs.length ≤ cur.size → (∀ v ∈ vs, v.oneCell' = true) →
  (storeCells ⟨g, o, none⟩ vs i).run P w = .ok () (w.setRow g (cur.toList.take (o + i) ++ vs ++ cur.toList.drop (o + i + vs.length)).toArray)
 | [], i, cur, w, hg, _, _, _ => by
  simp only [storeCells, List.append_nil, List.length_nil, Nat.add_zero, List.take_append_drop, Array.toArray_toList]
  rw [setRow_self w g cur t fz hg]
  rfl
 | v :: rest, i, cur, w, hg, hz, hl, h1 => by
  have hi : o + i < cur.size := by simp at hl; omega
  have hadd : (⟨g, o, none⟩ : Addr).add i = ⟨g, o + i, none⟩ := by unfold Addr.add; split <;> simp_all
  have hcell : w.cell? ⟨g, o + i, none⟩ = some cur[o + i] := by simp [World.cell?, hg, hi]
  have hfro : w.frozen? ⟨g, o + i, none⟩ = false := by
   rcases hz with rfl | hz
   ·simp [World.frozen?, hg]
   ·simp [World.frozen?, hg]
    omega
  have hst : (store ((⟨g, o, none⟩ : Addr).add i) v).run P w = .ok () (w.setRow g (cur.setIfInBounds (o + i) v)) := by
   rw [hadd, run_store P w _ v _ (h1 v (by simp)), hcell]
   simp [hfro, setCell_eq_setRow w g (o + i) cur t fz v hg]
  have ih := run_storeCellsM P g o t fz rest (i + 1) (cur.setIfInBounds (o + i) v) (w.setRow g (cur.setIfInBounds (o + i) v)) (setRow_heap w g cur _ t _ hg) (by simpa using hz) (by simp at hl ⊢; omega) (fun x hx => h1 x (by simp [hx]))
  simp only [storeCells, Sem.run_bind, hst, Result.andThen_ok, ih, setRow_setRow]
  congr 3
  have e := list_seg_step cur.toList (o + i) v rest (by simp at hl ⊢; omega)
  simpa [Array.toList_setIfInBounds, Nat.add_assoc] using e
theorem storeVar_run {t : TypeId} {ag : Bool} {s : Nat} (hsh : shapeOf P t = some (ag, s)) {w : World} {g o : Nat} {tt : TypeId} {fz : Nat × Nat} {cur : Array Value} (hg : w.heap[g]? = some (.cells cur tt fz)) (hz : fz = (0, 0) ∨ cur.size ≤ fz.1) {v : Value} (hl : v.cells.size = s) (hfit : o + s ≤ cur.size) (ho : ∀ x ∈ v.cells.toList, x.oneCell' = true) :
  (storeVar t ⟨g, o, none⟩ v).run P w = .ok () (w.setRow g (cur.toList.take o ++ v.cells.toList ++ cur.toList.drop (o + s)).toArray) := by
 obtain ⟨q1, q2⟩ := shapeOf_run hsh w
 have := run_storeCellsM P g o tt fz v.cells.toList 0 cur w hg hz (by simp [hl]; omega) ho
 simp only [Nat.add_zero, Array.length_toList, hl] at this
 simp [storeVar, q2, hl, this]

theorem ef_store {ρ : Operand → AV} {σ : Store} {t : TypeId} {x y : Operand} {ag : Bool} {s : Nat} (hsh : shapeOf P t = some (ag, s)) {o : Oper} (ho : o.op = .store t x y) {k kp : AV → Store → Prop} (h : storeA s (ρ x) (ρ y) σ k) : AOp P o ρ σ k kp := by
 refine AOp.ofSkip fun R w ev ha hs => ?_
 have hx := ha x
 obtain ⟨hl, hone, h⟩ := h
 have hy := cells_rel (ha y) hone
 have hyl : (ev y).cells.size = s := by have := hy.1; simp at this; omega
 have hyo := ones_rel hy hone
 split at h
 ·rename_i a e
  rw [e] at hx
  obtain ⟨hsp, σ1, σ2, t', cs, rfl, hfit, hk⟩ := h
  obtain ⟨b, off, sp⟩ := a
  simp only at hsp hfit hk
  subst hsp
  obtain ⟨vs, hr, hvo, hb, hc⟩ := var_cells hs (b := b) (t := t') (cs := cs) (by simp)
  have hvl := hr.1
  have hrun := storeVar_run (P := P) hsh hb (.inl rfl) hyl (o := off) (by simp; omega) hyo
  simp only at hrun
  have hnew : VRs R (vs.take off ++ (ev y).cells.toList ++ vs.drop (off + s)) (splice cs off (ρ y).cells) := by
   have := ((hr.take off).append hy).append (hr.drop (off + s))
   unfold splice
   rw [hl]
   exact this
  have hsz := (w.setRow b (vs.take off ++ (ev y).cells.toList ++ vs.drop (off + s)).toArray)
  have hent : EntOk R (w.setRow b (vs.take off ++ (ev y).cells.toList ++ vs.drop (off + s)).toArray) (.var b t' (splice cs off (ρ y).cells)) := by
   refine ⟨⟨_, setRow_heap w b _ _ _ _ hb, hnew, ?_⟩, (hs.ents (.var b t' cs) (by simp)).2⟩
   intro v hv
   simp only [List.mem_append] at hv
   rcases hv with (hv | hv) | hv
   ·exact hvo v (List.mem_of_mem_take hv)
   ·exact hyo v hv
   ·exact hvo v (List.mem_of_mem_drop hv)
  obtain ⟨g1, g2⟩ := st_change hs (e := .var b t' cs) (e' := .var b t' (splice cs off (ρ y).cells)) (b := b) rfl rfl (w' := w.setRow b (vs.take off ++ (ev y).cells.toList ++ vs.drop (off + s)).toArray) (by simp) (by simp) (by simp) (by simp)
   (fun k hk => setRow_other w b k _ hk) (fun a v ha hab => absurd hab ((hs.ents (.var b t' cs) (by simp)).2 a v ha)) hent
  refine ⟨_, R, _, ?_, hk, g1, g2⟩
  simp [execOp, ho, Instr.storeAt, Instr.sureAddr, hx.val_inv, hrun]
 ·rename_i v sz i j e
  rw [e] at hx
  obtain ⟨σ1, σ2, E, l, fl, rfl, hfl, hi, hj, hco, hk⟩ := h
  obtain ⟨g, n, cap, hv, he⟩ := VR.eptr_inv hx
  obtain ⟨vs, hr, hvo, hown, hsz0, hsz, hc⟩ := row_cells hs (v := v) (E := E) (sz := sz) (l := l) (fl := fl) (by simp)
  have hent0 := hs.ents (.row v E sz l fl) (by simp)
  obtain ⟨_, _, _, hmax, hflo⟩ := hent0
  subst hv
  have hlt : i < l.length := hi
  rcases hown.2 with ⟨h0, _⟩ | ⟨g', cap', cur, hvv, _, ⟨fz, hfz, hh⟩, hnc, hcm, hcs, htake⟩
  ·cases h0
  ·simp only [Value.slice.injEq, Option.some.injEq, Addr.mk.injEq, and_true, true_and] at hvv
   obtain ⟨rfl, hn, rfl⟩ := hvv
   have hbnd : (i + 1) * sz ≤ l.length * sz := Nat.mul_le_mul_right _ hlt
   rw [Nat.add_mul, Nat.one_mul] at hbnd
   have hcap : l.length * sz ≤ cap * sz := Nat.mul_le_mul_right _ hnc
   have hrun := storeVar_run (P := P) hsh hh (hfz.imp id (·.2)) hyl (o := i * sz + j) (by omega) hyo
   have helen : (l.getD i .undef).cells.length = sz := by
    have hmem : l.getD i .undef ∈ l := by rw [List.getD_eq_getElem?_getD, List.getElem?_eq_getElem hi]; exact List.getElem_mem _
    exact hsz _ hmem
   have hspl : ∀ c ∈ splice (l.getD i .undef).cells j (ρ y).cells, c.one = true := by
    intro c hcm
    unfold splice at hcm
    simp only [List.mem_append] at hcm
    rcases hcm with (hcm | hcm) | hcm
    ·exact hco c (List.mem_of_mem_take hcm)
    ·exact hone c hcm
    ·exact hco c (List.mem_of_mem_drop hcm)
   have hsplen : (splice (l.getD i .undef).cells j (ρ y).cells).length = sz := by rw [splice_length (by rw [hl, helen]; omega), helen]
   have hflat := flat_set hsz hi (j := j) (new := (ρ y).cells) (by rw [hl]; exact hj) hspl
   have hvl : vs.length = l.length * sz := by rw [hr.1, flat_length hsz]
   have hcs' : cur.size = cap * sz := hcs
   have hnew : VRs R (vs.take (i * sz + j) ++ (ev y).cells.toList ++ vs.drop (i * sz + j + s)) (splice (flat l) (i * sz + j) (ρ y).cells) := by
    have := ((hr.take (i * sz + j)).append hy).append (hr.drop (i * sz + j + s))
    unfold splice
    rw [hl]
    exact this
   have hylen : (ev y).cells.toList.length = s := by simp [hyl]
   have hwin : (cur.toList.take (i * sz + j) ++ (ev y).cells.toList ++ cur.toList.drop (i * sz + j + s)).take (l.length * sz) = vs.take (i * sz + j) ++ (ev y).cells.toList ++ vs.drop (i * sz + j + s) := by
    rw [← htake, List.take_take, List.drop_take, List.take_append, List.take_append, List.take_take]
    simp only [List.length_append, List.length_take, Array.length_toList, hylen]
    rw [List.take_of_length_le (l := (ev y).cells.toList) (by rw [hylen]; omega)]
    congr 1
    ·congr 2; omega
    ·congr 1; omega
   refine ⟨w.setRow g (cur.toList.take (i * sz + j) ++ (ev y).cells.toList ++ cur.toList.drop (i * sz + j + s)).toArray, R, _, ?_, hk, ?_⟩
   ·simp [execOp, ho, Instr.storeAt, Instr.sureAddr, he, hrun]
   ·refine st_change hs (e := .row (.slice (some ⟨g, 0, none⟩) n cap) E sz l fl) (e' := .row (.slice (some ⟨g, 0, none⟩) n cap) E sz (l.set i (mkE (splice (l.getD i .undef).cells j (ρ y).cells))) fl) (b := g) rfl rfl (by simp) (by simp) (by simp) (by simp) (fun k hk => setRow_other w g k _ hk) ?_ ?_
    ·intro a v ha hab
     have hold := hs.ro a v ha
     have hoff := (hflo a v ha (by simp [Value.ownBlock, hab])).1
     have hsp : a.spot = none := by
      unfold World.cell? at hold
      split at hold
      ·cases hsp : a.spot with
       | none => rfl
       | some q => rw [hsp] at hold; simp at hold
      ·cases hold
     obtain ⟨ab, ao, asp⟩ := a
     simp only at hab hoff hsp
     subst hab; subst hsp
     have hcell := cell_setRow_same w ab ao cur (cur.toList.take (i * sz + j) ++ (ev y).cells.toList ++ cur.toList.drop (i * sz + j + s)).toArray E fz hh
     rw [hcell]
     have hflsz : fl * sz ≤ i * sz := Nat.mul_le_mul_right _ hfl
     have hlt' : ao < i * sz + j := by omega
     rw [List.getElem?_toArray, List.append_assoc, List.getElem?_append_left (by rw [List.length_take, Array.length_toList]; omega), List.getElem?_take, if_pos hlt']
     have := cell_of_row w ab ao cur E fz hh
     rw [this] at hold
     simpa using hold
    ·refine ⟨hsz0, ?_, ⟨vs.take (i * sz + j) ++ (ev y).cells.toList ++ vs.drop (i * sz + j + s), ⟨?_, .inr ⟨g, cap, _, by rw [List.length_set, hn], Nat.zero_le _, ⟨fz, hfz.imp id (fun h => ⟨h.1, by have h2 := h.2; simp only [List.size_toArray, List.length_append, List.length_take, List.length_drop, Array.length_toList, hylen]; omega⟩), setRow_heap w g cur _ E _ hh⟩, ?_, hcm, ?_, by rw [List.length_set]; exact hwin⟩⟩, by rw [hflat]; exact hnew, ?_⟩, by rw [List.length_set]; exact hmax, by rw [List.length_set]; exact hflo⟩
     ·intro e he
      rcases List.mem_or_eq_of_mem_set he with he | he
      ·exact hsz e he
      ·rw [he, mkE_cells hspl]; exact hsplen
     ·rw [List.length_set, hnew.1, splice_length (by rw [hl, flat_length hsz]; omega), flat_length hsz]
     ·rw [List.length_set]; exact hnc
     ·simp only [List.size_toArray, List.length_append, List.length_take, Array.length_toList, List.length_drop, hylen, hcs']; omega
     ·intro v hv
      simp only [List.mem_append] at hv
      rcases hv with (hv | hv) | hv
      ·exact hvo v (List.mem_of_mem_take hv)
      ·exact hyo v hv
      ·exact hvo v (List.mem_of_mem_drop hv)
 ·exact h.elim

end Go.Ab

namespace Go.Ab
variable {P : Program}

theorem ownsRow_RowV {w : World} {base : Nat} {E : TypeId} {sz : Nat} {v : Value} {n : Nat} {xs : List Value} (h : rowM w base E sz v n xs) : RowV v n := by
 rcases h.2 with h | ⟨g, cap, cur, rfl, _, _, h2, _⟩
 ·exact .inl h
 ·exact .inr ⟨g, cap, rfl, h2⟩
theorem St.rowV {R : RO} {w : World} {σ : Store} (hs : St R w σ) {v : Value} {E : TypeId} {sz : Nat} {l : List AV} {fl : Nat} (hm : Ent.row v E sz l fl ∈ σ) : RowV v l.length := by
 obtain ⟨_, _, ⟨vs, h, _⟩, _⟩ := hs.ents _ hm
 exact ownsRow_RowV h
theorem st_newRow {R : RO} {w w' : World} {σ : Store} (hs : St R w σ) (hg : w.grownBy w' none) {v : Value} {E : TypeId} {sz : Nat} {l : List AV} {vs : List Value} (hown : rowM w' 0 E sz v l.length vs) (hr : VRs R vs (flat l)) (ho : ∀ v ∈ vs, v.oneCell' = true)
  (hz : 0 < sz) (hsz : ∀ e ∈ l, e.cells.length = sz) (hl : l.length ≤ maxLen) (hb : ∀ b, v.ownBlock = some b → w.heap.size ≤ b) :
  St R w' (.row v E sz l 0 :: σ) ∧ Ext R w σ R w' (.row v E sz l 0 :: σ) := by
 have hold : ∀ k, k < w.heap.size → w'.heap[k]? = w.heap[k]? := fun k hk => hg.block k hk (by simp)
 refine ⟨⟨fun a v ha => ?_, ?_, ?_⟩, ⟨fun _ _ h => h, hg.os, hg.tape, hg.output, hg.size, fun k hk _ => hold k hk, ?_, fun _ _ h => .inl h⟩⟩
 ·rw [World.cell?_of_block (hold _ (hs.roLt ha))]; exact hs.ro a v ha
 ·intro e he
  rcases List.mem_cons.1 he with rfl | he
  ·refine ⟨hz, hsz, ⟨vs, hown, hr, ho⟩, hl, fun a x ha hab => ?_⟩
   have h1 := hs.roLt ha
   have h2 := hb _ hab
   omega
  ·exact (hs.ents e he).keep (fun _ _ h => h) (fun b hb => hold b ((hs.ents e he).lt hb)) fun b hb a x ha hab => ha
 ·refine List.pairwise_cons.2 ⟨fun e he b hb1 hb2 => ?_, hs.apart⟩
  have h1 := hb b hb1
  have h2 := (hs.ents e he).lt hb2
  omega
 ·intro k hk
  obtain ⟨e, he, hbk⟩ := mem_blks.1 hk
  rcases List.mem_cons.1 he with rfl | he
  ·exact .inr (hb k hbk)
  ·exact .inl (mem_blks.2 ⟨e, he, hbk⟩)

def rowOf (P : Program) (t : TypeId) : Option (TypeId × List Value × Nat × Nat) := match P.underlying t with
 | some (.slice e) => match P.info? e with
  | some i => match i.zero with
   | some z => if z.cells.size = i.size ∧ 0 < i.size then some (e, z.cells.toList, i.size, i.bytes) else none
   | none => none
  | none => none
 | _ => none
theorem rowOf_run {t e : TypeId} {zs : List Value} {s b : Nat} (h : rowOf P t = some (e, zs, s, b)) : P.underlying t = some (.slice e) ∧ ∃ i z, P.info? e = some i ∧ i.zero = some z ∧ z.cells.toList = zs ∧ zs.length = s ∧ i.size = s ∧ i.bytes = b ∧ 0 < s := by
 unfold rowOf at h
 cases hu : P.underlying t with
 | none => rw [hu] at h; cases h
 | some d =>
  rw [hu] at h
  cases d with
  | slice e' =>
   simp only at h
   cases hi : P.info? e' with
   | none => rw [hi] at h; cases h
   | some i =>
    rw [hi] at h
    simp only at h
    cases hz : i.zero with
    | none => rw [hz] at h; cases h
    | some z =>
     rw [hz] at h
     simp only at h
     split at h
     ·rename_i hc
      simp only [Option.some.injEq, Prod.mk.injEq] at h
      obtain ⟨rfl, rfl, rfl, rfl⟩ := h
      exact ⟨rfl, i, z, hi, hz, rfl, by simpa using hc.1, rfl, rfl, hc.2⟩
     ·cases h
  | _ => cases h

def aMake (E : TypeId) (zs : List Value) (s by_ : Nat) (n c : AV) (σ : Store) (k : AV → Store → Prop) : Prop := match ixOf n, ixOf c with
 | some n, some c => 0 ≤ n ∧ n ≤ c ∧ by_ * c ≤ 281474976710656 ∧ c ≤ 9223372036854775807 ∧ (∀ v ∈ zs, v.oneCell' = true) ∧ ∀ v, k (.own v n.toNat) (.row v E s (List.replicate n.toNat (mkE (zs.map .val))) 0 :: σ)
 | _, _ => False

theorem flat_replicate (u : AV) (n : Nat) : flat (List.replicate n u) = (List.replicate n u.cells).flatten := by
 induction n with
 | zero => rfl
 | succ n ih => rw [List.replicate_succ, List.replicate_succ, List.flatten_cons, ← ih]; rfl

theorem ef_make {ρ : Operand → AV} {σ : Store} {t e : TypeId} {n c : Operand} {zs : List Value} {s b : Nat} (hz : rowOf P t = some (e, zs, s, b)) {o : Oper} (ho : o.op = .makeSlice t n c) {k kp : AV → Store → Prop} (h : aMake e zs s b (ρ n) (ρ c) σ k) : AOp P o ρ σ k kp := by
 refine AOp.ofRun fun R w ev ha hs => ?_
 unfold aMake at h
 cases hn : ixOf (ρ n) with
 | none => rw [hn] at h; exact h.elim
 | some n' =>
  cases hc : ixOf (ρ c) with
  | none => rw [hn, hc] at h; exact h.elim
  | some c' =>
   rw [hn, hc] at h
   obtain ⟨h0, h1, h2, h3, h4, hk⟩ := h
   obtain ⟨kn, hn⟩ := ixOf_inv hn
   obtain ⟨kc, hc⟩ := ixOf_inv hc
   have hvn := ha n; rw [hn] at hvn; have hvn := hvn.val_inv
   have hvc := ha c; rw [hc] at hvc; have hvc := hvc.val_inv
   obtain ⟨hu, i, z, hi, hiz, hzs, hlen, hsz, hby, hpos⟩ := rowOf_run hz
   have hrun := run_make (P := P) w t e i z hu hi hiz kn kc n' c' h0 h1 (by rw [hby]; exact h2) h3
   have hone : ∀ c ∈ zs.map AV.val, AV.one c = true := by
    intro c hc
    simp only [List.mem_map] at hc
    obtain ⟨v, hv, rfl⟩ := hc
    exact h4 v hv
   have hmk := mkE_cells hone
   have hfl : flat (List.replicate n'.toNat (mkE (zs.map .val))) = ((List.replicate n'.toNat zs).flatten).map .val := by
    rw [flat_replicate, hmk]; simp [List.map_flatten]
   have hzt : z.cells = zs.toArray := by rw [← hzs]
   have hcn : n'.toNat ≤ c'.toNat := by omega
   have hcur : (madeCells z.cells (c'.toNat * s)).toList.take (n'.toNat * s) = (List.replicate n'.toNat zs).flatten := by
    apply List.ext_getElem?
    intro j
    rw [List.getElem?_take]
    by_cases hj : j < n'.toNat * s
    ·rw [if_pos hj, flatten_replicate_get zs _ j (by rw [hlen]; exact hj)]
     have hj2 : j < c'.toNat * s := Nat.lt_of_lt_of_le hj (Nat.mul_le_mul_right _ hcn)
     have hm : j % zs.length < zs.length := Nat.mod_lt _ (by omega)
     simp [madeCells, hzt, hj2, hm]
    ·rw [if_neg hj, List.getElem?_eq_none (by simp; rw [hlen]; omega)]
   have hlen2 : ((List.replicate n'.toNat zs).flatten).length = n'.toNat * s := by simp [hlen]
   obtain ⟨g1, g2⟩ := st_newRow (R := R) hs (World.grownBy_alloc w (.cells (madeCells z.cells (c'.toNat * i.size)) e) none) (v := .slice (some ⟨w.heap.size, 0, none⟩) n'.toNat c'.toNat) (E := e) (sz := s) (l := List.replicate n'.toNat (mkE (zs.map .val)))
    (vs := (List.replicate n'.toNat zs).flatten) ⟨by rw [List.length_replicate]; exact hlen2, .inr ⟨w.heap.size, c'.toNat, _, by rw [List.length_replicate], Nat.zero_le _, ⟨(0, 0), .inl rfl, heap_alloc_new w _⟩, by rw [List.length_replicate]; exact hcn, by simp only [maxLen]; omega, by rw [size_madeCells, hsz], by rw [hsz, List.length_replicate]; exact hcur⟩⟩
    (by rw [hfl]; exact VRs.ofVals R _) (by intro v hv; simp only [List.mem_flatten, List.mem_replicate] at hv; obtain ⟨l, ⟨_, rfl⟩, hv⟩ := hv; exact h4 v hv) hpos (by intro x hx; rw [(List.mem_replicate.1 hx).2, hmk]; simp [hlen]) (by rw [List.length_replicate]; simp only [maxLen]; omega)
    (by intro b hb; simp only [Value.ownBlock, Option.some.injEq] at hb; omega)
   refine ⟨_, _, _, R, _, ?_, hk _, .own (by simpa using g1.rowV List.mem_cons_self), g1, g2⟩
   simp [execOp, ho, hvn, hvc, hrun]

structure SrcOk (P : Program) (w : World) (x : Value) (xt : TypeId) (size m : Nat) (news : List Value) : Prop where
 len : ∀ w' : World, (Builtin.lenOf x).run P w' = .ok m w'
 ty : (∃ e, P.underlying xt = some (.slice e)) ∨ P.underlying xt = some .string
 cells : ∀ w' : World, w'.heap = w.heap → (Builtin.firstCells size m x).run P w' = .ok (List.toArray news) w'
 length : news.length = m * size

theorem append_grow {w : World} {t xt ty e : TypeId} {i : TypeInfo} {z : Value} (ht : P.underlying t = some (.slice e)) (hi : P.info? e = some i) (hz : i.zero = some z) {ao : Option Addr} {sLen sCap : Nat} {olds : List Value}
  (hd : SrcOk P w (.slice ao sLen sCap) t i.size sLen olds) {x : Value} {m : Nat} {news : List Value} (hx : SrcOk P w x xt i.size m news) (hg : sCap < sLen + m) (h63 : sLen + m ≤ 9223372036854775807) (hb : (sLen + m) * i.bytes ≤ 140737488355328) (ho : sCap = sLen ∨ sLen ≤ sCap) :
  (Builtin.append_ #[t, xt] ty #[.slice ao sLen sCap, x]).run P w = .ok (.slice (some ⟨w.heap.size, 0, none⟩) (sLen + m) (grownCap w (sLen + m) sCap e))
   (w.drew.alloc (.cells (olds.toArray ++ news.toArray ++ Builtin.zeroCells z.cells (grownCap w (sLen + m) sCap e - (sLen + m))) e)) := by
 have hn : ¬ (sLen + m ≤ sCap) := by omega
 have h63' : ¬ (9223372036854775807 < ((sLen : Int) + (m : Int))) := by omega
 have hfit := growslice_fits (bytes := i.bytes) hg hb
 have h48' : ¬ (281474976710656 < Builtin.nextslicecap (sLen + m) sCap * i.bytes) := by omega
 have hfo := hd.cells w.drew rfl
 have hfn := hx.cells w.drew rfl
 have hlx := hx.len w
 rcases hx.ty with ⟨e', hxd⟩ | hxd
 ·simp [Builtin.append_, run_underlying ht, run_underlying hxd, sizeOf, typeInfo, zeroValue, hi, hz, hn, h63', h48', Question.forced, hfo, hfn, hlx, newRow, grownCap]
  congr 2
  apply Array.ext'
  simp [List.append_assoc]
 ·simp [Builtin.append_, run_underlying ht, run_underlying hxd, sizeOf, typeInfo, zeroValue, hi, hz, hn, h63', h48', Question.forced, hfo, hfn, hlx, newRow, grownCap]
  congr 2
  apply Array.ext'
  simp [List.append_assoc]

theorem append_room {fz : Nat × Nat} {w : World} {t xt ty e : TypeId} {i : TypeInfo} (ht : P.underlying t = some (.slice e)) (hi : P.info? e = some i) {g sLen sCap : Nat} {cur : Array Value} (hgc : w.heap[g]? = some (.cells cur e fz)) (hz : fz = (0, 0) ∨ cur.size ≤ fz.1)
  {x : Value} {m : Nat} {news : List Value} (hx : SrcOk P w x xt i.size m news) (hone : ∀ v ∈ news, v.oneCell' = true) (hroom : sLen + m ≤ sCap) (hfit : (sLen + m) * i.size ≤ cur.size) :
  (Builtin.append_ #[t, xt] ty #[.slice (some ⟨g, 0, none⟩) sLen sCap, x]).run P w = .ok (.slice (some ⟨g, 0, none⟩) (sLen + m) sCap)
   (w.setRow g (cur.toList.take (sLen * i.size) ++ news ++ cur.toList.drop (sLen * i.size + news.length)).toArray) := by
 have hfn := hx.cells w rfl
 have hlx := hx.len w
 have hst := run_storeCellsM P g (sLen * i.size) e fz news 0 cur w hgc hz (by rw [hx.length]; rw [Nat.add_mul] at hfit; simpa using hfit) hone
 simp only [Nat.add_zero] at hst
 have hadd : (⟨g, 0, none⟩ : Addr).add (sLen * i.size) = ⟨g, sLen * i.size, none⟩ := by rw [addr_lit_add, Nat.zero_add]
 rcases hx.ty with ⟨e', hxd⟩ | hxd
 ·simp [Builtin.append_, run_underlying ht, run_underlying hxd, sizeOf, typeInfo, hi, hlx, hroom, hfn, hadd, hst]
 ·simp [Builtin.append_, run_underlying ht, run_underlying hxd, sizeOf, typeInfo, hi, hlx, hroom, hfn, hadd, hst]

theorem append_own {R : RO} {w : World} {σ1 σ2 : Store} {v : Value} {E : TypeId} {sz : Nat} {l : List AV} {fl : Nat} (hs : St R w (σ1 ++ .row v E sz l fl :: σ2)) {t xt ty : TypeId} {i : TypeInfo} {z : Value} (ht : P.underlying t = some (.slice E)) (hi : P.info? E = some i) (hz : i.zero = some z)
  (hzs : z.cells.size = i.size) (hsi : i.size = sz) {x : Value} {news : List Value} {ys : List AV} (hx : SrcOk P w x xt i.size ys.length news) (hr : VRs R news (flat ys)) (hone : ∀ v ∈ news, v.oneCell' = true) (hys : ∀ y ∈ ys, y.cells.length = sz)
  (hb : (l.length + ys.length) * i.bytes ≤ 140737488355328) (hm : l.length + ys.length ≤ maxLen) :
  ∃ v' w', (Builtin.append_ #[t, xt] ty #[v, x]).run P w = .ok v' w' ∧ RowV v' (l.length + ys.length) ∧ St R w' (σ1 ++ .row v' E sz (l ++ ys) fl :: σ2) ∧ Ext R w (σ1 ++ .row v E sz l fl :: σ2) R w' (σ1 ++ .row v' E sz (l ++ ys) fl :: σ2) := by
 subst hsi
 obtain ⟨vs, hrv, hvo, hown, hsz0, hsz, hc⟩ := row_cells hs (v := v) (E := E) (sz := i.size) (l := l) (fl := fl) (by simp)
 obtain ⟨_, _, _, hmax, hflo⟩ := hs.ents (.row v E i.size l fl) (by simp)
 have hfl : flat (l ++ ys) = flat l ++ flat ys := flat_append _ _
 have hnewr : VRs R (vs ++ news) (flat (l ++ ys)) := by rw [hfl]; exact hrv.append hr
 have hsz' : ∀ e ∈ l ++ ys, e.cells.length = i.size := by
  intro e he
  rcases List.mem_append.1 he with he | he
  ·exact hsz e he
  ·exact hys e he
 have hone' : ∀ v ∈ vs ++ news, v.oneCell' = true := by
  intro v hv
  rcases List.mem_append.1 hv with hv | hv
  ·exact hvo v hv
  ·exact hone v hv
 have hlen : (vs ++ news).length = (l ++ ys).length * i.size := by rw [List.length_append, hown.1, hx.length, List.length_append, Nat.add_mul]
 have hp := List.pairwise_append.1 hs.apart
 have hp2 := List.pairwise_cons.1 hp.2.1
 -- a new block holds the row
 have grown : ∀ (old : Nat), old < l.length + ys.length → ∀ (w0 : World), w0 = w.drew.alloc (.cells (vs.toArray ++ news.toArray ++ Builtin.zeroCells z.cells (grownCap w (l.length + ys.length) old E - (l.length + ys.length))) E) →
   St R w0 (σ1 ++ .row (.slice (some ⟨w.heap.size, 0, none⟩) (l.length + ys.length) (grownCap w (l.length + ys.length) old E)) E i.size (l ++ ys) fl :: σ2) ∧
   Ext R w (σ1 ++ .row v E i.size l fl :: σ2) R w0 (σ1 ++ .row (.slice (some ⟨w.heap.size, 0, none⟩) (l.length + ys.length) (grownCap w (l.length + ys.length) old E)) E i.size (l ++ ys) fl :: σ2) := by
  intro old ho w0 hw0
  have hge := grownCap_ge w (l.length + ys.length) old E
  have hcm : grownCap w (l.length + ys.length) old E ≤ maxLen := grownCap_le_maxLen w _ old E hm
  have hold : ∀ k, k < w.heap.size → w0.heap[k]? = w.heap[k]? := fun k hk => by rw [hw0]; exact heap_alloc_old w.drew _ k hk
  have hnewb : w0.heap[w.heap.size]? = some (.cells (vs.toArray ++ news.toArray ++ Builtin.zeroCells z.cells (grownCap w (l.length + ys.length) old E - (l.length + ys.length))) E (0, 0)) := by rw [hw0]; exact heap_alloc_new w.drew _
  have hown' : rowM w0 0 E i.size (.slice (some ⟨w.heap.size, 0, none⟩) (l.length + ys.length) (grownCap w (l.length + ys.length) old E)) (l ++ ys).length (vs ++ news) := by
   refine ⟨hlen, .inr ⟨w.heap.size, _, _, by rw [List.length_append], Nat.zero_le _, ⟨(0, 0), .inl rfl, hnewb⟩, by rw [List.length_append]; exact hge, hcm, ?_, ?_⟩⟩
   ·simp only [Array.size_append, List.size_toArray, size_zeroCells, hzs, hown.1, hx.length, ← Nat.add_mul]
    congr 1
    omega
   ·simp only [Array.toList_append, List.append_assoc]
    rw [← List.append_assoc, ← hlen]
    exact List.take_left
  have hent : EntOk R w0 (.row (.slice (some ⟨w.heap.size, 0, none⟩) (l.length + ys.length) (grownCap w (l.length + ys.length) old E)) E i.size (l ++ ys) fl) :=
   ⟨hsz0, hsz', ⟨_, hown', hnewr, hone'⟩, by rw [List.length_append]; exact hm, fun a x ha hab => by
    have := hs.roLt ha
    simp only [Value.ownBlock, Option.some.injEq] at hab
    omega⟩
  have keep : ∀ x ∈ σ1 ++ σ2, EntOk R w0 x := fun x hx => by
   have hm : x ∈ σ1 ++ .row v E i.size l fl :: σ2 := by
    rcases List.mem_append.1 hx with h | h
    ·exact List.mem_append.2 (.inl h)
    ·exact List.mem_append.2 (.inr (List.mem_cons_of_mem _ h))
   exact (hs.ents x hm).keep (fun _ _ h => h) (fun b hb => hold b ((hs.ents x hm).lt hb)) fun _ _ _ _ h _ => h
  refine ⟨⟨fun a v ha => by rw [World.cell?_of_block (hold _ (hs.roLt ha))]; exact hs.ro a v ha, fun x hx => ?_, ?_⟩, ⟨fun _ _ h => h, by rw [hw0]; rfl, by rw [hw0]; rfl, by rw [hw0]; rfl, by rw [hw0]; simp, fun k hk _ => hold k hk, fun k hk => ?_, fun _ _ h => .inl h⟩⟩
  ·rcases List.mem_append.1 hx with hx | hx
   ·exact keep x (List.mem_append.2 (.inl hx))
   ·rcases List.mem_cons.1 hx with rfl | hx
    ·exact hent
    ·exact keep x (List.mem_append.2 (.inr hx))
  ·have hlt : ∀ x ∈ σ1 ++ σ2, ∀ b, x.blk = some b → b < w.heap.size := fun x hx b hb => by
    have hm : x ∈ σ1 ++ .row v E i.size l fl :: σ2 := by
     rcases List.mem_append.1 hx with h | h
     ·exact List.mem_append.2 (.inl h)
     ·exact List.mem_append.2 (.inr (List.mem_cons_of_mem _ h))
    exact (hs.ents x hm).lt hb
   refine List.pairwise_append.2 ⟨hp.1, List.pairwise_cons.2 ⟨fun x hx b hb1 hb2 => ?_, hp2.2⟩, fun x hx y hy b hb1 => ?_⟩
   ·simp only [Ent.blk, Value.ownBlock, Option.some.injEq] at hb1
    have := hlt x (List.mem_append.2 (.inr hx)) b hb2
    omega
   ·rcases List.mem_cons.1 hy with rfl | hy
    ·intro hb2
     simp only [Ent.blk, Value.ownBlock, Option.some.injEq] at hb2
     have := hlt x (List.mem_append.2 (.inl hx)) b hb1
     omega
    ·exact hp.2.2 x hx y (List.mem_cons_of_mem _ hy) b hb1
  ·obtain ⟨x, hx, hxb⟩ := mem_blks.1 hk
   rcases List.mem_append.1 hx with hx | hx
   ·exact .inl (mem_blks.2 ⟨x, List.mem_append.2 (.inl hx), hxb⟩)
   ·rcases List.mem_cons.1 hx with rfl | hx
    ·simp only [Ent.blk, Value.ownBlock, Option.some.injEq] at hxb
     exact .inr (by omega)
    ·exact .inl (mem_blks.2 ⟨x, List.mem_append.2 (.inr (List.mem_cons_of_mem _ hx)), hxb⟩)
 have hty : (∃ e, P.underlying t = some (.slice e)) ∨ P.underlying t = some .string := .inl ⟨_, ht⟩
 rcases hown.2 with ⟨rfl, hl0⟩ | ⟨g, cap, cur, rfl, _, ⟨fz, hfz, hgc⟩, hnc, hcm, hcs, htake⟩
 ·have hl : l = [] := List.eq_nil_of_length_eq_zero hl0
  subst hl
  have hvs : vs = [] := List.eq_nil_of_length_eq_zero (by simpa using hown.1)
  subst hvs
  by_cases hy : ys = []
  ·subst hy
   have hnw : news = [] := List.eq_nil_of_length_eq_zero (by simpa using hx.length)
   subst hnw
   refine ⟨.slice none 0 0, w, ?_, .inl ⟨rfl, rfl⟩, hs, Ext.refl _ _ _⟩
   have hlx := hx.len w
   have hfn := hx.cells w rfl
   simp at hlx hfn
   rcases hx.ty with ⟨e', hxd⟩ | hxd
   ·simp [Builtin.append_, run_underlying ht, run_underlying hxd, sizeOf, typeInfo, hi, hlx, hfn]
   ·simp [Builtin.append_, run_underlying ht, run_underlying hxd, sizeOf, typeInfo, hi, hlx, hfn]
  ·have hpos : 0 < ys.length := List.length_pos_iff.2 hy
   have hd : SrcOk P w (.slice none 0 0) t i.size 0 [] := ⟨fun w' => rfl, hty, fun w' _ => by simp [Builtin.firstCells], by simp⟩
   have hrun := append_grow (P := P) (ty := ty) ht hi hz hd hx (by omega) (by simp only [maxLen] at hm; simp at hm; omega) (by simpa using hb) (.inl rfl)
   obtain ⟨g1, g2⟩ := grown 0 (by simpa using hpos) _ rfl
   simp only [List.length_nil, Nat.zero_add] at hrun g1 g2 ⊢
   exact ⟨_, _, hrun, by simpa using g1.rowV (List.mem_append_right _ List.mem_cons_self), g1, g2⟩
 ·by_cases hroom : l.length + ys.length ≤ cap
  ·have hfit : (l.length + ys.length) * i.size ≤ cur.size := by rw [hcs]; exact Nat.mul_le_mul_right _ hroom
   have hrun := append_room (P := P) (ty := ty) ht hi hgc (hfz.imp id (·.2)) hx hone hroom hfit
   refine ⟨_, _, hrun, .inr ⟨_, _, rfl, hroom⟩, ?_⟩
   have hx1 := hx.length
   rw [Nat.add_mul] at hfit
   refine st_change hs (e := .row (.slice (some ⟨g, 0, none⟩) l.length cap) E i.size l fl) (e' := .row (.slice (some ⟨g, 0, none⟩) (l.length + ys.length) cap) E i.size (l ++ ys) fl) (b := g) rfl rfl (by simp) (by simp) (by simp) (by simp) (fun k hk => setRow_other w g k _ hk) ?_ ?_
   ·intro a v ha hab
    have hold := hs.ro a v ha
    obtain ⟨hoff, hfll⟩ := hflo a v ha (by simp [Value.ownBlock, hab])
    have hsp : a.spot = none := by
     unfold World.cell? at hold
     split at hold
     ·cases hsp : a.spot with
      | none => rfl
      | some q => rw [hsp] at hold; simp at hold
     ·cases hold
    obtain ⟨ab, ao, asp⟩ := a
    simp only at hab hoff hsp
    subst hab; subst hsp
    rw [cell_setRow_same w ab ao cur _ E fz hgc]
    have hle : fl * i.size ≤ l.length * i.size := Nat.mul_le_mul_right _ hfll
    have hlt' : ao < l.length * i.size := by omega
    have hcl : cur.toList.length = cap * i.size := by simpa using hcs
    rw [List.getElem?_toArray, List.append_assoc, List.getElem?_append_left (by rw [List.length_take, hcl]; omega), List.getElem?_take, if_pos hlt']
    rw [cell_of_row w ab ao cur E fz hgc] at hold
    simpa using hold
   ·refine ⟨hsz0, hsz', ⟨_, ⟨hlen, .inr ⟨g, cap, _, by rw [List.length_append], Nat.zero_le _, ⟨fz, hfz.imp id (fun h => ⟨h.1, by have h2 := h.2; simp only [List.size_toArray, List.length_append, List.length_take, List.length_drop, Array.length_toList]; omega⟩), setRow_heap w g cur _ E _ hgc⟩, by rw [List.length_append]; exact hroom, hcm, ?_, ?_⟩⟩, hnewr, hone'⟩, by rw [List.length_append]; exact hm, fun a x ha hab => ⟨(hflo a x ha hab).1, by have := (hflo a x ha hab).2; rw [List.length_append]; omega⟩⟩
    ·simp only [List.size_toArray, List.length_append, List.length_take, List.length_drop, Array.length_toList]
     omega
    ·rw [htake, ← hlen]
     exact List.take_left
  ·have hd : SrcOk P w (.slice (some ⟨g, 0, none⟩) l.length cap) t i.size l.length vs :=
    ⟨fun w' => rfl, hty, fun w' hw' => run_firstCells_some w' i.size l.length ⟨g, 0, none⟩ l.length cap vs hown.1 (fun j v hj => by
     rw [World.cell?_of_block (w := w) (by rw [hw'])]
     exact hc g _ _ rfl j v hj), hown.1⟩
   have hrun := append_grow (P := P) (ty := ty) ht hi hz hd hx (by omega) (by simp only [maxLen] at hm; omega) hb (.inr hnc)
   obtain ⟨g1, g2⟩ := grown cap (by omega) _ rfl
   exact ⟨_, _, hrun, by simpa using g1.rowV (List.mem_append_right _ List.mem_cons_self), g1, g2⟩

end Go.Ab

namespace Go.Ab
variable {P : Program}

def srcA (sz : Nat) (σ : Store) (x : AV) (ys : List AV) : Prop := match x with
 | .lst z l _ => z = sz ∧ ys = l
 | .own v n => ∃ E l fl, Ent.row v E sz l fl ∈ σ ∧ ys = l
 | .sub v z a n => z = sz ∧ ∃ E l fl, Ent.row v E sz l fl ∈ σ ∧ a + n ≤ l.length ∧ ys = (l.drop a).take n
 | .val (.slice none 0 0) => ys = []
 | .val (.slice (some a) n cap) => (n = 0 ∧ ys = []) ∨ (sz = 1 ∧ a.spot = none ∧ ∃ t cs, Ent.var a.block t cs ∈ σ ∧ a.off + n ≤ cs.length ∧ (∀ c ∈ cs, c.cells.length = 1) ∧ ys = (cs.drop a.off).take n)
 | .val (.string s) => sz = 1 ∧ ys = s.data.toList.map byt
 | _ => False

def isStringOrSlice (P : Program) (t : TypeId) : Bool := match P.underlying t with
 | some (.slice _) => true
 | some .string => true
 | _ => false
theorem isSoS_run {t : TypeId} (h : isStringOrSlice P t = true) : (∃ e, P.underlying t = some (.slice e)) ∨ P.underlying t = some .string := by
 unfold isStringOrSlice at h
 split at h
 ·rename_i e hu; exact .inl ⟨e, hu⟩
 ·rename_i hu; exact .inr hu
 ·cases h

def plainCell (c : AV) : Prop := c.cells = [c]
theorem flat_plain {cs : List AV} (h : ∀ c ∈ cs, plainCell c) : flat cs = cs := by
 induction cs with
 | nil => rfl
 | cons c cs ih =>
  have : flat (c :: cs) = c.cells ++ flat cs := rfl
  rw [this, ih (fun x hx => h x (by simp [hx])), h c (by simp)]
  rfl

theorem src_ok {R : RO} {w : World} {σ : Store} (hs : St R w σ) {xt : TypeId} (hxt : isStringOrSlice P xt = true) {sz : Nat} (hz : 0 < sz) {v : Value} {x : AV} (hv : VR R v x) {ys : List AV} (h : srcA sz σ x ys) (hp : sz = 1 → ∀ c ∈ ys, c.cells.length = 1) :
  ∃ news, SrcOk P w v xt sz ys.length news ∧ VRs R news (flat ys) ∧ (∀ u ∈ news, u.oneCell' = true) ∧ ∀ y ∈ ys, y.cells.length = sz := by
 have hty := isSoS_run hxt
 unfold srcA at h
 split at h
 ·rename_i z l m
  obtain ⟨rfl, rfl⟩ := h
  obtain ⟨ao, cap, vs, hv, hz0, hsz, hr, hR, hm, hb, hone⟩ := hv.lst_inv
  subst hv
  have hl : vs.length = ys.length * z := by rw [hr.1, flat_length hsz]
  refine ⟨vs, ⟨fun w' => rfl, hty, fun w' hw' => ?_, hl⟩, hr, hone, hsz⟩
  cases ao with
  | none =>
   have : ys = [] := by
    cases ys with
    | nil => rfl
    | cons y ys => obtain ⟨a, ha, _⟩ := hR (by simp); cases ha
   subst this
   have : vs = [] := List.eq_nil_of_length_eq_zero (by simpa using hl)
   subst this
   simp [Builtin.firstCells]
  | some a =>
   refine run_firstCells_some w' z ys.length a ys.length cap vs hl fun j u hj => ?_
   by_cases hne : ys = []
   ·subst hne
    have : vs = [] := List.eq_nil_of_length_eq_zero (by simpa using hl)
    subst this; simp at hj
   ·obtain ⟨a', ha, hc⟩ := hR hne
    cases ha
    rw [World.cell?_of_block (w := w) (by rw [hw'])]
    exact hs.ro _ _ (hc j u hj)
 ·rename_i v0 n
  obtain ⟨E, l, fl, hm, rfl⟩ := h
  obtain ⟨rfl, hrow⟩ := hv.own_inv
  obtain ⟨vs, hr, hvo, hown, _, hsz, hc⟩ := row_cells hs hm
  refine ⟨vs, ?_, hr, hvo, hsz⟩
  rcases hown.2 with ⟨rfl, hl0⟩ | ⟨g, cap, cur, rfl, _⟩
  ·have hl : ys = [] := List.eq_nil_of_length_eq_zero hl0
   subst hl
   have : vs = [] := List.eq_nil_of_length_eq_zero (by simpa using hown.1)
   subst this
   exact ⟨fun w' => rfl, hty, fun w' _ => by simp [Builtin.firstCells], by simp⟩
  ·exact ⟨fun w' => rfl, hty, fun w' hw' => run_firstCells_some w' sz ys.length ⟨g, 0, none⟩ ys.length cap vs hown.1 (fun j u hj => by
    rw [World.cell?_of_block (w := w) (by rw [hw'])]; exact hc g _ _ rfl j u hj), hown.1⟩
 ·rename_i v0 z a n
  obtain ⟨rfl, E, l, fl, hm, hle, rfl⟩ := h
  obtain ⟨vs, hr, hvo, hown, _, hsz, hc⟩ := row_cells hs hm
  have hlen : ((l.drop a).take n).length = n := by simp; omega
  have hsz' : ∀ y ∈ (l.drop a).take n, y.cells.length = z := fun y hy => hsz y (List.mem_of_mem_drop (List.mem_of_mem_take hy))
  have hflat : flat ((l.drop a).take n) = ((flat l).drop (a * z)).take (n * z) := by
   rw [flat_take (fun e he => hsz e (List.mem_of_mem_drop he)), flat_drop hsz]
  have hr' : VRs R ((vs.drop (a * z)).take (n * z)) (flat ((l.drop a).take n)) := by rw [hflat]; exact (hr.drop _).take _
  have hvl : ((vs.drop (a * z)).take (n * z)).length = ((l.drop a).take n).length * z := by rw [hr'.1, flat_length hsz']
  refine ⟨(vs.drop (a * z)).take (n * z), ?_, hr', fun u hu => hvo u (List.mem_of_mem_drop (List.mem_of_mem_take hu)), hsz'⟩
  rcases hv.sub_inv with ⟨_, _, rfl, rfl⟩ | ⟨g, n0, cap, p, rfl, hcap, hp, rfl⟩
  ·refine ⟨fun w' => by rw [hlen]; rfl, hty, fun w' _ => ?_, hvl⟩
   simp [Builtin.firstCells]
  ·refine ⟨fun w' => by rw [hlen]; rfl, hty, fun w' hw' => ?_, hvl⟩
   rw [hlen] at hvl ⊢
   refine run_firstCells_some w' z n p n (cap - a) _ hvl fun j u hj => ?_
   rw [World.cell?_of_block (w := w) (by rw [hw'])]
   have hjn : j < n * z := by
    have := (List.getElem?_eq_some_iff.1 hj).1
    rw [hvl] at this
    exact this
   have hn0 : 0 < n := by
    rcases Nat.eq_zero_or_pos n with e | e
    ·subst e; simp at hjn
    ·exact e
   rw [hp (by omega), addr_lit_add]
   rw [List.getElem?_take, if_pos hjn, List.getElem?_drop] at hj
   have := hc g n0 cap rfl (a * z + j) u hj
   rw [addr_lit_add, Nat.zero_add] at this
   exact this
 ·subst h
  rw [hv.val_inv]
  exact ⟨[], ⟨fun w' => rfl, hty, fun w' _ => by simp [Builtin.firstCells], by simp⟩, VRs.nil R, by simp, by simp⟩
 ·rename_i a n cap
  rcases h with ⟨rfl, rfl⟩ | h
  ·rw [hv.val_inv]
   exact ⟨[], ⟨fun w' => rfl, hty, fun w' _ => run_firstCells_some w' sz 0 a 0 cap [] (by simp) (fun j u hj => by simp at hj), by simp⟩, VRs.nil R, by simp, by simp⟩
  obtain ⟨rfl, hsp, t, cs, hm, hl, hone, rfl⟩ := h
  rw [hv.val_inv]
  obtain ⟨vs, hr, hvo, _, hc⟩ := var_cells hs hm
  obtain ⟨b, off, sp⟩ := a
  simp only at hsp hl hc
  subst hsp
  have hh := cells_at hc off n
  rw [addr_lit_add, Nat.zero_add] at hh
  have hr' := (hr.drop off).take n
  have hlen : ((vs.drop off).take n).length = ((cs.drop off).take n).length * 1 := by rw [hr'.1, Nat.mul_one]
  have hlen2 : ((cs.drop off).take n).length = n := by rw [List.length_take, List.length_drop]; omega
  -- a cell's own cells: the cell itself, for a value of one cell
  have hflat : VRs R ((vs.drop off).take n) (flat ((cs.drop off).take n)) := by
   refine ⟨by rw [hr'.1, flat_length (sz := 1) (fun e he => hone e (List.mem_of_mem_drop (List.mem_of_mem_take he))), Nat.mul_one], ?_⟩
   intro j u v hu hv
   have hj : j < ((vs.drop off).take n).length := (List.getElem?_eq_some_iff.1 hv).1
   rw [hr'.1] at hj
   have hg := flat_get (l := (cs.drop off).take n) (sz := 1) (fun e he => hone e (List.mem_of_mem_drop (List.mem_of_mem_take he))) j hj
   have hvr := hr'.2 j _ v (List.getElem?_eq_getElem hj) hv
   have hvone : v.oneCell' = true := hvo v (List.mem_of_mem_drop (List.mem_of_mem_take (List.mem_of_getElem? hv)))
   rw [List.getD_eq_getElem?_getD, List.getElem?_eq_getElem hj, Option.getD_some, Nat.mul_one] at hg
   have hu' : u ∈ ((cs.drop off).take n)[j].cells := by
    rw [← hg]
    apply List.mem_of_getElem? (i := 0)
    rw [List.getElem?_take, if_pos (by omega), List.getElem?_drop, Nat.add_zero]
    exact hu
   have hcl := hone _ (List.mem_of_mem_drop (List.mem_of_mem_take (List.getElem_mem hj)))
   generalize ((cs.drop off).take n)[j] = c at hvr hu' hcl
   cases hvr with
   | agg hl' hv' => cases hvone
   | tuple hl' hv' => cases hvone
   | undef => simp [AV.cells] at hu'; subst hu'; exact .undef _
   | val v => simp [AV.cells] at hu'; subst hu'; exact .val _
   | own h => simp [AV.cells] at hu'; subst hu'; exact .own h
   | sub h => simp [AV.cells] at hu'; subst hu'; exact .sub h
   | lst vs' hn hz hsz hl' hv' hR hm hb ho => simp [AV.cells] at hu'; subst hu'; exact .lst vs' hn hz hsz hl' hv' hR hm hb ho
   | rptr vs' hl' hv' hR => simp [AV.cells] at hu'; subst hu'; exact .rptr vs' hl' hv' hR
   | eptr => simp [AV.cells] at hu'; subst hu'; exact .eptr
   | fn a b c d => simp [AV.cells] at hu'; subst hu'; exact .fn a b c d
   | ifc a => simp [AV.cells] at hu'; subst hu'; exact .ifc a
  refine ⟨_, ⟨fun w' => by rw [hlen2]; rfl, hty, fun w' hw' => ?_, hlen⟩, hflat, fun u hu => hvo u (List.mem_of_mem_drop (List.mem_of_mem_take hu)), fun y hy => hone y (List.mem_of_mem_drop (List.mem_of_mem_take hy))⟩
  refine run_firstCells_some w' 1 _ ⟨b, off, none⟩ n cap _ hlen fun j u hj => ?_
  rw [World.cell?_of_block (w := w) (by rw [hw'])]
  exact hh j u hj
 ·rename_i s
  obtain ⟨rfl, rfl⟩ := h
  rw [hv.val_inv]
  have hfl := flat_bytes s.data.toList
  refine ⟨Lib.strCells s, ⟨fun w' => ?_, hty, fun w' _ => ?_, ?_⟩, ?_, Lib.strCells_oneCell s, fun y hy => by simp only [List.mem_map] at hy; obtain ⟨b, _, rfl⟩ := hy; rfl⟩
  ·simp [Builtin.lenOf]
  ·have := Lib.run_firstCells_string (P := P) w' 1 s
   simpa using this
  ·rw [Lib.strCells_length]; simp
  ·rw [hfl]; exact VRs.ofVals R _
 ·exact h.elim

def aAppend (E : TypeId) (sz by_ : Nat) (d x : AV) (σ : Store) (k : AV → Store → Prop) : Prop := ∃ ys, srcA sz σ x ys ∧ (sz = 1 → ∀ c ∈ ys, c.cells.length = 1) ∧ ((∃ z l m, d = .lst z l m ∧ ys = [] ∧ k d σ) ∨ match d with
 | .own v n => ∃ σ1 σ2 l fl, σ = σ1 ++ .row v E sz l fl :: σ2 ∧ (l.length + ys.length) * by_ ≤ 140737488355328 ∧ l.length + ys.length ≤ maxLen ∧ ∀ v', k (.own v' (l.length + ys.length)) (σ1 ++ .row v' E sz (l ++ ys) fl :: σ2)
 | .val (.slice none 0 0) => ys.length * by_ ≤ 140737488355328 ∧ ys.length ≤ maxLen ∧ ∀ v', k (.own v' ys.length) (.row v' E sz ys 0 :: σ)
 | .lst z l .nil => ys.length * by_ ≤ 140737488355328 ∧ ys.length ≤ maxLen ∧ ∀ v', k (.own v' ys.length) (.row v' E sz ys 0 :: σ)
 | .lst z l .full => z = sz ∧ ys ≠ [] ∧ (l.length + ys.length) * by_ ≤ 140737488355328 ∧ l.length + ys.length ≤ maxLen ∧ ∀ v', k (.own v' (l.length + ys.length)) (.row v' E sz (l ++ ys) 0 :: σ)
 | _ => False)

theorem st_nilRow {R : RO} {w : World} {σ : Store} (hs : St R w σ) (E : TypeId) {sz : Nat} (hz : 0 < sz) : St R w (.row (.slice none 0 0) E sz [] 0 :: σ) ∧ Ext R w σ R w (.row (.slice none 0 0) E sz [] 0 :: σ) :=
 st_newRow hs ⟨rfl, rfl, rfl, Nat.le_refl _, fun _ _ _ => rfl⟩ (rowM.of (World.ownsRow_nil w 0 E sz)) (VRs.nil R) (by simp) hz (by simp) (Nat.zero_le _) (by simp [Value.ownBlock])

theorem append_none {w : World} {t xt ty e : TypeId} {i : TypeInfo} (ht : P.underlying t = some (.slice e)) (hi : P.info? e = some i) {ao : Option Addr} {sLen sCap : Nat} {x : Value} (hx : SrcOk P w x xt i.size 0 []) (hle : sLen ≤ sCap) :
  (Builtin.append_ #[t, xt] ty #[.slice ao sLen sCap, x]).run P w = .ok (.slice ao sLen sCap) w := by
 have hfn := hx.cells w rfl
 have hlx := hx.len w
 cases ao with
 | none =>
  rcases hx.ty with ⟨e', hxd⟩ | hxd
  ·simp [Builtin.append_, run_underlying ht, run_underlying hxd, sizeOf, typeInfo, hi, hlx, hle, hfn]
  ·simp [Builtin.append_, run_underlying ht, run_underlying hxd, sizeOf, typeInfo, hi, hlx, hle, hfn]
 | some a =>
  rcases hx.ty with ⟨e', hxd⟩ | hxd
  ·simp [Builtin.append_, run_underlying ht, run_underlying hxd, sizeOf, typeInfo, hi, hlx, hle, hfn, storeCells]
  ·simp [Builtin.append_, run_underlying ht, run_underlying hxd, sizeOf, typeInfo, hi, hlx, hle, hfn, storeCells]
theorem ef_append {ρ : Operand → AV} {σ : Store} {t xt e : TypeId} {d x : Operand} {zs : List Value} {s b : Nat} (hz : rowOf P t = some (e, zs, s, b)) (hxt : isStringOrSlice P xt = true) {o : Oper} (ho : o.op = .call { callee := .builtin .append, args := #[d, x], argTypes := #[t, xt] })
  {k kp : AV → Store → Prop} (h : aAppend e s b (ρ d) (ρ x) σ k) : AOp P o ρ σ k kp := by
 refine AOp.ofRun fun R w ev ha hs => ?_
 obtain ⟨ys, hsrc, hp1, h⟩ := h
 obtain ⟨hu, i, z, hi, hiz, hzs, hlen, hsi, hby, hpos⟩ := rowOf_run hz
 obtain ⟨news, hok, hr, hone, hys⟩ := src_ok (P := P) hs hxt hpos (ha x) hsrc hp1
 have hzc : z.cells.size = i.size := by rw [hsi, ← hlen, ← hzs]; simp
 have hex : ∀ v' w', (Builtin.append_ #[t, xt] o.type #[ev d, ev x]).run P w = .ok v' w' → (execOp ev o).run P w = .ok (.value v') w' := by
  intro v' w' hrun
  unfold execOp
  rw [ho]
  simp [resolve, invoke, builtin, hrun]
 have onto : ∀ (σ1 σ2 : Store) (l : List AV) (fl : Nat), St R w (σ1 ++ .row (ev d) e s l fl :: σ2) → (l.length + ys.length) * b ≤ 140737488355328 → l.length + ys.length ≤ maxLen → (∀ v', k (.own v' (l.length + ys.length)) (σ1 ++ .row v' e s (l ++ ys) fl :: σ2)) →
   Ext R w σ R w (σ1 ++ .row (ev d) e s l fl :: σ2) → ∃ v w' u R' σ', (execOp ev o).run P w = .ok (.value v) w' ∧ k u σ' ∧ VR R' v u ∧ St R' w' σ' ∧ Ext R w σ R' w' σ' := by
  intro σ1 σ2 l fl hst hb1 hb2 hk hx
  subst hby
  rw [← hsi] at hok
  obtain ⟨v', w', hrun, hrow, g1, g2⟩ := append_own (P := P) (ty := o.type) hst hu hi hiz hzc hsi hok hr hone hys hb1 hb2
  exact ⟨v', w', _, R, _, hex _ _ hrun, hk v', .own hrow, g1, hx.trans g2⟩
 have hd := ha d
 rcases h with ⟨z', l, m, e1, rfl, hk⟩ | h
 ·have hd' := hd
  rw [e1] at hd
  obtain ⟨ao, cap, vs, hv, _, _, _, _, hm, _⟩ := hd.lst_inv
  have hle : l.length ≤ cap := by cases m <;> simp only [SMok] at hm <;> omega
  have hn : news = [] := List.eq_nil_of_length_eq_zero (by simpa using hok.length)
  subst hn
  have hrun := append_none (P := P) (w := w) (ty := o.type) (sLen := l.length) (ao := ao) hu hi (by rw [hsi]; simpa using hok) hle
  rw [← hv] at hrun
  exact ⟨_, _, _, R, σ, hex _ _ hrun, hk, hd', hs, Ext.refl _ _ _⟩
 split at h
 ·rename_i v n e1
  rw [e1] at hd
  obtain ⟨hv, _⟩ := hd.own_inv
  obtain ⟨σ1, σ2, l, fl, rfl, hb1, hb2, hk⟩ := h
  subst hv
  exact onto σ1 σ2 l fl hs hb1 hb2 hk (Ext.refl _ _ _)
 ·rename_i e1
  rw [e1] at hd
  have hv := hd.val_inv
  obtain ⟨hb1, hb2, hk⟩ := h
  obtain ⟨g1, g2⟩ := st_nilRow hs e hpos
  rw [← hv] at g1 g2
  exact onto [] σ [] 0 g1 (by simpa using hb1) (by simpa using hb2) (by simpa using hk) g2
 ·rename_i z' l e1
  rw [e1] at hd
  obtain ⟨ao, cap, vs, hv, _, _, _, _, hm, _⟩ := hd.lst_inv
  obtain ⟨rfl, h0, rfl⟩ := hm
  rw [h0] at hv
  obtain ⟨hb1, hb2, hk⟩ := h
  obtain ⟨g1, g2⟩ := st_nilRow hs e hpos
  rw [← hv] at g1 g2
  exact onto [] σ [] 0 g1 (by simpa using hb1) (by simpa using hb2) (by simpa using hk) g2
 ·rename_i z' l e1
  rw [e1] at hd
  obtain ⟨rfl, hne, hb1, hb2, hk⟩ := h
  obtain ⟨ao, cap, vs, hv, _, hsz, hrl, hR, hm, hbl, hol⟩ := hd.lst_inv
  simp only [SMok] at hm
  subst hm
  subst hby
  have hvl : vs.length = l.length * i.size := by rw [hrl.1, flat_length hsz, hsi]
  have hok' : SrcOk P w (ev x) xt i.size ys.length news := by rw [hsi]; exact hok
  have hdst : SrcOk P w (.slice ao l.length l.length) t i.size l.length vs := by
   refine ⟨fun w' => rfl, .inl ⟨_, hu⟩, fun w' hw' => ?_, hvl⟩
   cases ao with
   | none =>
    have : l = [] := by
     cases l with
     | nil => rfl
     | cons y ys => obtain ⟨a, ha, _⟩ := hR (by simp); cases ha
    subst this
    have : vs = [] := List.eq_nil_of_length_eq_zero (by simpa using hvl)
    subst this
    simp [Builtin.firstCells]
   | some a =>
    refine run_firstCells_some w' i.size l.length a l.length l.length vs hvl fun j u hj => ?_
    by_cases hne : l = []
    ·subst hne
     have : vs = [] := List.eq_nil_of_length_eq_zero (by simpa using hvl)
     subst this; simp at hj
    ·obtain ⟨a', ha, hc⟩ := hR hne
     cases ha
     rw [World.cell?_of_block (w := w) (by rw [hw'])]
     exact hs.ro _ _ (hc j u hj)
  have hyp : 0 < ys.length := List.length_pos_iff.2 hne
  have hrun := append_grow (P := P) (ty := o.type) hu hi hiz hdst hok' (by omega) (by simp only [maxLen] at hb2; omega) hb1 (.inl rfl)
  have hlen2 : (vs ++ news).length = (l ++ ys).length * z' := by rw [List.length_append, hvl, hok'.length, List.length_append, hsi, Nat.add_mul]
  have hge := grownCap_ge w (l.length + ys.length) l.length e
  have hcm : grownCap w (l.length + ys.length) l.length e ≤ maxLen := grownCap_le_maxLen w _ l.length e hb2
  have hfl : flat (l ++ ys) = flat l ++ flat ys := flat_append _ _
  obtain ⟨g1, g2⟩ := st_newRow (R := R) (w' := w.drew.alloc (.cells (vs.toArray ++ news.toArray ++ Builtin.zeroCells z.cells (grownCap w (l.length + ys.length) l.length e - (l.length + ys.length))) e)) hs
   ⟨rfl, rfl, rfl, by simp, fun k hk _ => heap_alloc_old w.drew _ k hk⟩ (v := .slice (some ⟨w.heap.size, 0, none⟩) (l.length + ys.length) (grownCap w (l.length + ys.length) l.length e)) (E := e) (sz := z') (l := l ++ ys) (vs := vs ++ news)
   ⟨hlen2, .inr ⟨w.heap.size, _, _, by rw [List.length_append], Nat.zero_le _, ⟨(0, 0), .inl rfl, heap_alloc_new w.drew _⟩, by rw [List.length_append]; exact hge, hcm, by
    simp only [Array.size_append, List.size_toArray, size_zeroCells, hzc, hvl, hok'.length, ← Nat.add_mul, hsi]
    congr 1
    omega, by
    simp only [Array.toList_append, List.append_assoc]
    rw [← List.append_assoc, ← hlen2]
    exact List.take_left⟩⟩ (by rw [hfl]; exact hrl.append hr) (by
    intro v hv
    rcases List.mem_append.1 hv with hv | hv
    ·exact hol v hv
    ·exact hone v hv) hpos (by
    intro y hy
    rcases List.mem_append.1 hy with hy | hy
    ·exact hsz y hy
    ·exact hys y hy) (by rw [List.length_append]; exact hb2) (by intro b hb; simp only [Value.ownBlock, Option.some.injEq] at hb; omega)
  rw [← hv] at hrun
  exact ⟨_, _, _, R, _, hex _ _ hrun, hk _, .own (by simpa using g1.rowV List.mem_cons_self), g1, g2⟩
 ·exact h.elim

end Go.Ab
