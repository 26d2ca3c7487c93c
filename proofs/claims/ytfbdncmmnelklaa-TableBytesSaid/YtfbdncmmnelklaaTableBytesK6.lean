/- The texts that this claim needs, part 6: a logic over abstract values, its steps, what the functions do. No condition of its own. -/
import Derived.RangeFuncNested
import Derived.RangeFuncBox
import Derived.RangeFuncLeaves
import Derived.RangeFuncCalls
import Derived.Shelf.Abstract
import Derived.Shelf.RegionOpen
import Derived.WalkKit
import Derived.OwnWalkIn
import Derived.TacticsInMore
import Derived.LoopNIn
import Derived.LoopIn
import Derived.BigRegionIn
import Derived.Test.YtfbdncmmnelklaaProg
import Derived.Test.YtfbdncmmnelklaaTableBytesK5
/- slices.Chunk's iterator. -/
set_option linter.unusedVariables false
set_option linter.unusedSimpArgs false
namespace Go.Proofs
open Go.RowKit Go.Shelf
attribute [local go_sem] Oper.semAt_some
/-- What has come behind so many rounds. -/
def chunkPre {α : Type} (part : Nat → α) (q : Nat) : List α := (List.range q).map fun j => part (16 * j)
theorem chunkPre_succ {α : Type} (part : Nat → α) (q : Nat) : chunkPre part (q + 1) = chunkPre part q ++ [part (16 * q)] := by simp [chunkPre, List.range_succ]
theorem chunkPre_length {α : Type} (part : Nat → α) (q : Nat) : (chunkPre part q).length = q := by simp [chunkPre]
set_option maxRecDepth 100000 in
set_option maxHeartbeats 4000000 in
theorem chunk1_in {α : Type} (F : Fence) (n : Nat) (h7 : F.fn 66) (hro : F.round = none) (hn : 1 ≤ n) (l Bs os Bn on_ b off len cap : Nat) (hlc : len ≤ cap) (hl : len ≤ 100000000000000) (J Jx : List α → World → Prop) (part : Nat → α) (enc : α → Value) (Kp : World → World → Prop)
    (henc : ∀ k, k < len → enc (part k) = .slice (some ⟨b, off + k * 4, none⟩) (min (len - k) 16) (min (len - k) 16))
    (hK1 : ∀ W W', Kp W W' → W.cell? ⟨Bs, os, none⟩ = some (.slice (some ⟨b, off, none⟩) len cap) → W'.cell? ⟨Bs, os, none⟩ = some (.slice (some ⟨b, off, none⟩) len cap)) (hK2 : ∀ W W', Kp W W' → W.cell? ⟨Bn, on_, none⟩ = some (.int .i64 16) → W'.cell? ⟨Bn, on_, none⟩ = some (.int .i64 16))
    (hJd : ∀ pre W, J pre W → J pre W.drew)
    (hY : ∀ pre x W, J pre W → pre.length < len → YieldAt F (n - 1) Go.Proofs.Try.prog l #[enc x] W fun e W' =>
      (e = .returned (.bool true) ∧ J (pre ++ [x]) W' ∧ Kp W W') ∨ (e = .returned (.bool false) ∧ Jx (pre ++ [x]) W'))
    (W : World) (hBs : W.cell? ⟨Bs, os, none⟩ = some (.slice (some ⟨b, off, none⟩) len cap)) (hBn : W.cell? ⟨Bn, on_, none⟩ = some (.int .i64 16)) (h0 : J [] W) :
    CallsIn F n Go.Proofs.Try.prog 66 #[.func (.yield l) #[] #[], .pointer (some ⟨Bs, os, none⟩), .pointer (some ⟨Bn, on_, none⟩)] W fun e W' => (∃ v, e = .returned v) ∧
      ((∃ q, len ≤ 16 * q ∧ 16 * q < len + 16 ∧ J (chunkPre part q) W') ∨ (∃ pre, Jx pre W')) := by
  refine callsIn_of_wp Try.func66 rfl h7 ?_ hro
  simp only [Try.ntmps66, List.size_toArray, List.length_cons, List.length_nil, Nat.reduceAdd, Nat.reduceSub, Array.replicate_succ, Array.replicate_zero, List.push_toArray, List.append_toArray, List.nil_append, List.cons_append]
  gi_wp2
  gi_loopw [4] (fun i wr => ∃ q k : Nat, (k ≤ 16 * q ∧ 16 * q ≤ k) ∧ k < len + 16 ∧ i = .int .i64 k ∧ J (chunkPre part q) wr ∧ wr.cell? ⟨Bs, os, none⟩ = some (.slice (some ⟨b, off, none⟩) len cap) ∧ wr.cell? ⟨Bn, on_, none⟩ = some (.int .i64 16))
    (fun i _ => len - (intOf i).toNat)
  case atStart => exact ⟨0, 0, by omega, by omega, rfl, h0, hBs, hBn⟩
  case round =>
    obtain ⟨q, k, hkq, hk, rfl, hJs, h1, h2⟩ := hrel
    by_cases hlt : k < len
    · have hck : ¬ cap = k := by omega
      have hmin : (if ((len - k : Nat) : Int) < 16 then ((len - k : Nat) : Int) else 16) = ((min (len - k) 16 : Nat) : Int) := by split <;> omega
      have hm1 : min (len - k) 16 ≤ len - k := Nat.min_le_left _ _
      have hm2 : 0 < min (len - k) 16 := by omega
      obtain ⟨fn, tmps, assign, body, hy, hR⟩ := hY _ (part k) wr.drew (hJd _ _ hJs) (by rw [chunkPre_length]; omega)
      rw [henc k hlt] at hy
      have h1d : wr.drew.cell? ⟨Bs, os, none⟩ = some (.slice (some ⟨b, off, none⟩) len cap) := h1
      have h2d : wr.drew.cell? ⟨Bn, on_, none⟩ = some (.int .i64 16) := h2
      gi_wp2
      gi_region
      all_goals
        generalize min (len - k) 16 = e at *
        gi_wp2
        refine hR.mono ?_
        rintro e W3 (⟨rfl, hJ3, hk3⟩ | ⟨rfl, hJx3⟩)
        · have h1e := hK1 _ _ hk3 h1d
          have h2e := hK2 _ _ hk3 h2d
          gi_wp2
          go_roundw
          case rel => exact ⟨q + 1, k + 16, by omega, by omega, by simp, by rw [chunkPre_succ, show 16 * q = k by omega]; exact hJ3, h1e, h2e⟩
          case measure => simp [intOf]; omega
        · gi_wp2
          refine bodyPost_ret (results_none rfl _ _ _) rfl ?_
          exact ⟨⟨_, rfl⟩, .inr ⟨_, hJx3⟩⟩
    · gi_wp2
      go_end0
      exact ⟨⟨_, rfl⟩, .inl ⟨q, by omega, by omega, hJs⟩⟩
set_option maxRecDepth 100000 in
set_option maxHeartbeats 4000000 in
theorem chunk0_in (F : Fence) (n : Nat) (h7 : F.fn 66) (hro : F.round = none) (l Bs os Bn on_ cap : Nat) (ao : Option Addr) (W : World) (hBs : W.cell? ⟨Bs, os, none⟩ = some (.slice ao 0 cap)) :
    CallsIn F n Go.Proofs.Try.prog 66 #[.func (.yield l) #[] #[], .pointer (some ⟨Bs, os, none⟩), .pointer (some ⟨Bn, on_, none⟩)] W fun e W' => (∃ v, e = .returned v) ∧ W' = W := by
  refine callsIn_of_wp Try.func66 rfl h7 ?_ hro
  simp only [Try.ntmps66, List.size_toArray, List.length_cons, List.length_nil, Nat.reduceAdd, Nat.reduceSub, Array.replicate_succ, Array.replicate_zero, List.push_toArray, List.append_toArray, List.nil_append, List.cons_append]
  gi_wp2
  gi_loopw [4] (fun i wr => i = .int .i64 0 ∧ wr = W) (fun _ _ => 0)
  case atStart => exact ⟨rfl, rfl⟩
  case round =>
    obtain ⟨rfl, rfl⟩ := hrel
    gi_wp2
    go_end0
    exact ⟨⟨_, rfl⟩, rfl⟩
end Go.Proofs

/- What the functions of layers 3 and 4 compute, more. No program in sight. -/
set_option linter.unusedVariables false
set_option linter.unusedSimpArgs false
namespace Go.Ab
/-- An entry's bytes, if it is right. -/
def enR (e : En) : List UInt8 := [if e.del = true then 1 else 0] ++ put e.seq.toNat ++ (put e.key.length ++ e.key) ++ (if e.del = true then [] else put e.val.length ++ e.val)
def enB (e : En) : List UInt8 := if right e = true then enR e else []
/-- An entry of at most so many bytes. -/
def cutE (a b : Nat) (e : En) : En := ⟨e.key.take a, e.val.take b, e.del, e.seq⟩
theorem take_minN {α : Type} (l : List α) (k : Nat) : l.take (min l.length k) = l.take k := by
  rcases Nat.le_total l.length k with h | h
  · rw [Nat.min_eq_left h, List.take_of_length_le (Nat.le_refl _), List.take_of_length_le h]
  · rw [Nat.min_eq_right h]
end Go.Ab

/- The order of keys; what a fold is. No program in sight. -/
set_option linter.unusedVariables false
set_option linter.unusedSimpArgs false
namespace Go.Ab
theorem lt_asymm : ∀ {a b : List UInt8}, lt a b = true → lt b a = false
  | [], [], h => by simp [lt, Op.bytesLess] at h
  | [], b :: bs, h => by simp [lt, Op.bytesLess]
  | a :: aa, [], h => by simp [lt, Op.bytesLess] at h
  | a :: aa, b :: bs, h => by
    simp only [lt, Op.bytesLess, Bool.or_eq_true, decide_eq_true_eq, Bool.and_eq_true, beq_iff_eq] at h
    simp only [lt, Op.bytesLess, Bool.or_eq_false_iff, decide_eq_false_iff_not, Bool.and_eq_false_iff]
    rcases h with h | ⟨rfl, h⟩
    · refine ⟨by simp only [UInt8.lt_iff_toNat_lt] at h ⊢; omega, .inl ?_⟩
      have : ¬ b = a := fun e => by subst e; simp only [UInt8.lt_iff_toNat_lt] at h; omega
      simpa using this
    · exact ⟨by simp only [UInt8.lt_iff_toNat_lt]; omega, .inr (lt_asymm h)⟩
theorem lt_trans' : ∀ {a b c : List UInt8}, lt a b = true → lt b c = true → lt a c = true
  | _, [], [], h, k => by simp [lt, Op.bytesLess] at k
  | _, b :: bs, [], h, k => by simp [lt, Op.bytesLess] at k
  | [], _, c :: cs, h, k => by simp [lt, Op.bytesLess]
  | a :: aa, [], c :: cs, h, k => by simp [lt, Op.bytesLess] at h
  | a :: aa, b :: bs, c :: cs, h, k => by
    simp only [lt, Op.bytesLess, Bool.or_eq_true, decide_eq_true_eq, Bool.and_eq_true, beq_iff_eq, UInt8.lt_iff_toNat_lt] at h k ⊢
    rcases h with h | ⟨rfl, h⟩ <;> rcases k with k | ⟨rfl, k⟩
    · exact .inl (by omega)
    · exact .inl h
    · exact .inl k
    · exact .inr ⟨rfl, lt_trans' h k⟩
theorem lt_tri : ∀ {a b : List UInt8}, lt a b = false → lt b a = false → a = b
  | [], [], h, k => rfl
  | [], b :: bs, h, k => by simp [lt, Op.bytesLess] at h
  | a :: aa, [], h, k => by simp [lt, Op.bytesLess] at k
  | a :: aa, b :: bs, h, k => by
    simp only [lt, Op.bytesLess, Bool.or_eq_false_iff, decide_eq_false_iff_not, Bool.and_eq_false_iff, UInt8.lt_iff_toNat_lt] at h k
    have e : a = b := UInt8.toNat_inj.1 (by omega)
    subst e
    have h2 : lt aa bs = false := by rcases h.2 with h | h; simp at h; exact h
    have k2 : lt bs aa = false := by rcases k.2 with h | h; simp at h; exact h
    rw [lt_tri h2 k2]
theorem lt_ne {a b : List UInt8} (h : lt a b = true) : a ≠ b := fun e => by subst e; rw [lt_irrefl] at h; cases h
abbrev Rises (l : List En) : Prop := l.Pairwise fun a b => lt a.key b.key = true
theorem sorted_iff : ∀ l : List En, sorted l = true ↔ Rises l
  | [] => by simp [sorted]
  | [a] => by simp [sorted]
  | a :: b :: l => by
    have ih := sorted_iff (b :: l)
    simp only [sorted, Bool.and_eq_true, ih, Rises]
    constructor
    · rintro ⟨h1, h2⟩
      refine List.pairwise_cons.2 ⟨fun c hc => ?_, h2⟩
      rcases List.mem_cons.1 hc with rfl | hc
      · exact h1
      · exact lt_trans' h1 ((List.pairwise_cons.1 h2).1 c hc)
    · intro h
      exact ⟨(List.pairwise_cons.1 h).1 b List.mem_cons_self, (List.pairwise_cons.1 h).2⟩

/-- An entry put into a rising list. -/
def putE (e : En) : List En → List En
  | [] => [e]
  | x :: l => if lt x.key e.key = true then x :: putE e l else if x.key = e.key then (if x.seq ≤ e.seq then e :: l else x :: l) else e :: x :: l
/-- What a list has of a key. -/
def getE (k : List UInt8) (F : List En) : Option En := F.find? fun x => decide (x.key = k)
theorem putE_key {e : En} : ∀ {F : List En} {x : En}, x ∈ putE e F → x = e ∨ x ∈ F
  | [], x, h => by simp [putE] at h; exact .inl h
  | y :: l, x, h => by
    unfold putE at h
    split at h
    · rcases List.mem_cons.1 h with rfl | h
      · exact .inr List.mem_cons_self
      · rcases putE_key h with h | h
        · exact .inl h
        · exact .inr (List.mem_cons_of_mem _ h)
    · split at h
      · split at h
        · rcases List.mem_cons.1 h with h | h
          · exact .inl h
          · exact .inr (List.mem_cons_of_mem _ h)
        · exact .inr h
      · rcases List.mem_cons.1 h with h | h
        · exact .inl h
        · exact .inr h
theorem putE_rises {e : En} : ∀ {F : List En}, Rises F → Rises (putE e F)
  | [], _ => by simp [putE]
  | y :: l, h => by
    obtain ⟨h1, h2⟩ := List.pairwise_cons.1 h
    unfold putE
    split
    · rename_i hlt
      refine List.pairwise_cons.2 ⟨fun x hx => ?_, putE_rises h2⟩
      rcases putE_key hx with rfl | hx
      · exact hlt
      · exact h1 x hx
    · rename_i hlt
      split
      · rename_i he
        split
        · exact List.pairwise_cons.2 ⟨fun x hx => by rw [← he]; exact h1 x hx, h2⟩
        · exact h
      · rename_i hne
        have hle : lt e.key y.key = true := by
          cases hc : lt e.key y.key with
          | true => rfl
          | false => exact absurd (lt_tri (by simpa using hlt) hc) hne
        refine List.pairwise_cons.2 ⟨fun x hx => ?_, h⟩
        rcases List.mem_cons.1 hx with rfl | hx
        · exact hle
        · exact lt_trans' hle (h1 x hx)
/-- The later one of two, by their numbers. -/
def newer (o : Option En) (e : En) : En := match o with
  | none => e
  | some x => if x.seq ≤ e.seq then e else x
theorem getE_lt {k : List UInt8} : ∀ {F : List En}, (∀ x ∈ F, lt k x.key = true) → getE k F = none
  | [], _ => rfl
  | y :: l, h => by
    have : ¬ y.key = k := fun e => lt_ne (h y List.mem_cons_self) e.symm
    unfold getE
    rw [List.find?_cons_of_neg (by simpa using this)]
    exact getE_lt fun x hx => h x (List.mem_cons_of_mem _ hx)
theorem getE_put {e : En} {k : List UInt8} : ∀ {F : List En}, Rises F → getE k (putE e F) = if e.key = k then some (newer (getE k F) e) else getE k F
  | [], _ => by
    unfold putE getE
    by_cases h : e.key = k <;> simp [h, newer]
  | y :: l, h => by
    obtain ⟨h1, h2⟩ := List.pairwise_cons.1 h
    have ih := getE_put (e := e) (k := k) h2
    unfold putE
    split
    · rename_i hlt
      by_cases hy : y.key = k
      · have hek : ¬ e.key = k := fun he => lt_ne hlt (by rw [hy, he])
        simp [getE, hy, hek]
      · have e1 : ∀ L, getE k (y :: L) = getE k L := fun L => by simp [getE, hy]
        rw [e1, e1, ih]
    · rename_i hlt
      split
      · rename_i he
        split
        · rename_i hs
          by_cases hk : e.key = k
          · have hy : y.key = k := by rw [he, hk]
            simp [getE, hk, hy, newer, hs]
          · have hy : ¬ y.key = k := by rw [he]; exact hk
            simp [getE, hk, hy]
        · rename_i hs
          by_cases hk : e.key = k
          · have hy : y.key = k := by rw [he, hk]
            simp [getE, hk, hy, newer, hs]
          · simp [hk]
      · rename_i hne
        have hle : lt e.key y.key = true := by
          cases hc : lt e.key y.key with
          | true => rfl
          | false => exact absurd (lt_tri (by simpa using hlt) hc) hne
        by_cases hk : e.key = k
        · have hn : getE k (y :: l) = none := getE_lt fun x hx => by
            rw [← hk]
            rcases List.mem_cons.1 hx with rfl | hx
            · exact hle
            · exact lt_trans' hle (h1 x hx)
          rw [hn]
          simp [getE, hk, newer]
        · simp [getE, hk]
theorem getE_mem {k : List UInt8} {F : List En} {x : En} (h : getE k F = some x) : x ∈ F ∧ x.key = k := ⟨List.mem_of_find?_eq_some h, by simpa using List.find?_some h⟩
theorem getE_of_mem : ∀ {F : List En} {x : En}, Rises F → x ∈ F → getE x.key F = some x
  | [], x, _, h => by cases h
  | y :: l, x, hr, h => by
    obtain ⟨h1, h2⟩ := List.pairwise_cons.1 hr
    rcases List.mem_cons.1 h with rfl | h
    · simp [getE]
    · have : ¬ y.key = x.key := lt_ne (h1 x h)
      have ih := getE_of_mem h2 h
      simp only [getE] at ih ⊢
      rw [List.find?_cons_of_neg (by simpa using this)]
      exact ih
/-- Two rising lists that have the same of each key are one. -/
theorem rises_ext : ∀ {F G : List En}, Rises F → Rises G → (∀ x, x ∈ F ↔ x ∈ G) → F = G
  | [], [], _, _, _ => rfl
  | [], g :: G, _, _, h => by have := (h g).2 List.mem_cons_self; cases this
  | f :: F, [], _, _, h => by have := (h f).1 List.mem_cons_self; cases this
  | f :: F, g :: G, hF, hG, h => by
    obtain ⟨f1, f2⟩ := List.pairwise_cons.1 hF
    obtain ⟨g1, g2⟩ := List.pairwise_cons.1 hG
    have e : f = g := by
      rcases List.mem_cons.1 ((h f).1 List.mem_cons_self) with e | hf
      · exact e
      · rcases List.mem_cons.1 ((h g).2 List.mem_cons_self) with e | hg
        · exact e.symm
        · have := lt_asymm (g1 f hf)
          rw [f1 g hg] at this
          cases this
    subst e
    rw [rises_ext f2 g2 fun x => ?_]
    have := h x
    simp only [List.mem_cons] at this
    constructor
    · intro hx
      rcases this.1 (.inr hx) with rfl | hx'
      · have := f1 x hx; rw [lt_irrefl] at this; cases this
      · exact hx'
    · intro hx
      rcases this.2 (.inr hx) with rfl | hx'
      · have := g1 x hx; rw [lt_irrefl] at this; cases this
      · exact hx'
end Go.Ab

/- Tables of entries by their keys, and what a walk over one gathers. No program in sight. -/
set_option linter.unusedVariables false
set_option linter.unusedSimpArgs false
namespace Go.Ab
section tables
variable {κ α : Type} [DecidableEq κ]
theorem findT_set (k k' : κ) (v : α) (c : Nat) : ∀ L : List (Nat × κ × α), findT k' (setT k v c L) = if k' = k then some v else findT k' L
  | [] => by
    by_cases h : k' = k <;> simp [setT, findT, h]
  | x :: L => by
    have ih := findT_set k k' v c L
    unfold findT at ih
    by_cases hx : k = x.2.1
    · subst hx
      by_cases h : k' = x.2.1 <;> simp [setT, findT, h]
    · simp only [setT, decide_eq_false hx, cond_false]
      by_cases h : k' = x.2.1
      · have : ¬ k' = k := fun e => hx (e.symm.trans h)
        simp [findT, h, Ne.symm hx]
      · simp only [findT, List.find?_cons, decide_eq_false h]
        exact ih
theorem births_set (k : κ) (v : α) (c : Nat) : ∀ L : List (Nat × κ × α), (setT k v c L).map (·.1) = if hasT k L = true then L.map (·.1) else L.map (·.1) ++ [c]
  | [] => by simp [setT, hasT]
  | x :: L => by
    have ih := births_set k v c L
    by_cases hx : k = x.2.1
    · simp [setT, hasT, hx]
    · simp only [setT, decide_eq_false hx, cond_false, List.map_cons, ih, hasT, List.any_cons, Bool.false_or]
      by_cases h : (L.any fun x => decide (k = x.2.1)) = true <;> simp [h]
theorem keys_set (k : κ) (v : α) (c : Nat) : ∀ L : List (Nat × κ × α), (setT k v c L).map (·.2.1) = if hasT k L = true then L.map (·.2.1) else L.map (·.2.1) ++ [k]
  | [] => by simp [setT, hasT]
  | x :: L => by
    have ih := keys_set k v c L
    by_cases hx : k = x.2.1
    · simp [setT, hasT, hx]
    · simp only [setT, decide_eq_false hx, cond_false, List.map_cons, ih, hasT, List.any_cons, Bool.false_or]
      by_cases h : (L.any fun x => decide (k = x.2.1)) = true <;> simp [h]
theorem mem_set {k : κ} {v : α} {c : Nat} : ∀ {L : List (Nat × κ × α)} {x : Nat × κ × α}, x ∈ setT k v c L → x ∈ L ∨ (x.2.1 = k ∧ x.2.2 = v)
  | [], x, h => by simp [setT] at h; subst h; exact .inr ⟨rfl, rfl⟩
  | y :: L, x, h => by
    unfold setT at h
    cases hd : decide (k = y.2.1) with
    | true =>
      rw [hd, cond_true] at h
      rcases List.mem_cons.1 h with rfl | h
      · exact .inr ⟨(of_decide_eq_true hd).symm, rfl⟩
      · exact .inl (List.mem_cons_of_mem _ h)
    | false =>
      rw [hd, cond_false] at h
      rcases List.mem_cons.1 h with rfl | h
      · exact .inl List.mem_cons_self
      · rcases mem_set h with h | h
        · exact .inl (List.mem_cons_of_mem _ h)
        · exact .inr h
theorem hasT_iff (k : κ) (L : List (Nat × κ × α)) : hasT k L = true ↔ k ∈ L.map (·.2.1) := by
  unfold hasT
  rw [List.any_eq_true]
  constructor
  · rintro ⟨x, hx, h⟩
    exact List.mem_map.2 ⟨x, hx, (of_decide_eq_true h).symm⟩
  · intro h
    obtain ⟨x, hx, e⟩ := List.mem_map.1 h
    exact ⟨x, hx, decide_eq_true e.symm⟩
theorem findT_mem {L : List (Nat × κ × α)} {k : κ} {v : α} (h : findT k L = some v) : ∃ x ∈ L, x.2.1 = k ∧ x.2.2 = v := by
  unfold findT at h
  obtain ⟨x, h1, h2⟩ := Option.map_eq_some_iff.1 h
  have h3 := List.find?_some h1
  exact ⟨x, List.mem_of_find?_eq_some h1, (of_decide_eq_true h3).symm, h2⟩
theorem findT_of_mem : ∀ {L : List (Nat × κ × α)} {x : Nat × κ × α}, (L.map (·.2.1)).Nodup → x ∈ L → findT x.2.1 L = some x.2.2
  | [], x, _, h => by cases h
  | y :: L, x, hn, h => by
    obtain ⟨h1, h2⟩ := List.nodup_cons.1 hn
    rcases List.mem_cons.1 h with rfl | h
    · simp [findT]
    · have hne : ¬ x.2.1 = y.2.1 := fun e => h1 (List.mem_map.2 ⟨x, h, e⟩)
      have ih := findT_of_mem h2 h
      simp only [findT, List.find?_cons, decide_eq_false hne] at ih ⊢
      exact ih
end tables
/-- A table that holds a rising list. -/
structure Tbl (L : List (Nat × List UInt8 × En)) (c : Nat) (F : List En) : Prop where
  nb : (L.map (·.1)).Nodup
  lt : ∀ x ∈ L, x.1 < c
  nk : (L.map (·.2.1)).Nodup
  key : ∀ x ∈ L, x.2.2.key = x.2.1
  find : ∀ k, findT k L = getE k F
theorem Tbl.nil : Tbl [] 0 [] := ⟨List.nodup_nil, by simp, List.nodup_nil, by simp, fun _ => rfl⟩
theorem Tbl.keep {L : List (Nat × List UInt8 × En)} {c : Nat} {F : List En} (h : Tbl L c F) (hF : Rises F) {e x : En} (hx : findT e.key L = some x) (hs : ¬ x.seq ≤ e.seq) : Tbl L c (putE e F) := by
  refine ⟨h.nb, h.lt, h.nk, h.key, fun k => ?_⟩
  rw [getE_put hF, h.find]
  split
  · rename_i hk
    subst hk
    rw [← h.find, hx]
    simp [newer, hs]
  · rfl
theorem Tbl.set {L : List (Nat × List UInt8 × En)} {c : Nat} {F : List En} (h : Tbl L c F) (hF : Rises F) {e : En} (hs : ∀ x, findT e.key L = some x → x.seq ≤ e.seq) : Tbl (setT e.key e c L) (bif hasT e.key L then c else c + 1) (putE e F) := by
  have hb := births_set e.key e c L
  have hk := keys_set e.key e c L
  refine ⟨?_, fun x hx => ?_, ?_, fun x hx => ?_, fun k => ?_⟩
  · rw [hb]
    split
    · exact h.nb
    · rw [List.nodup_append]
      refine ⟨h.nb, by simp, fun a ha b hb2 e => ?_⟩
      rw [List.mem_singleton] at hb2
      obtain ⟨x, hx, rfl⟩ := List.mem_map.1 ha
      have := h.lt x hx
      omega
  · have hm : x.1 ∈ (setT e.key e c L).map (·.1) := List.mem_map.2 ⟨x, hx, rfl⟩
    rw [hb] at hm
    cases hh : hasT e.key L with
    | true =>
      rw [if_pos hh] at hm
      obtain ⟨y, hy, e1⟩ := List.mem_map.1 hm
      rw [← e1]
      exact h.lt y hy
    | false =>
      rw [if_neg (by rw [hh]; decide)] at hm
      rcases List.mem_append.1 hm with hm | hm
      · obtain ⟨y, hy, e1⟩ := List.mem_map.1 hm
        have := h.lt y hy
        show x.1 < c + 1
        omega
      · rw [List.mem_singleton] at hm
        show x.1 < c + 1
        omega
  · rw [hk]
    split
    · exact h.nk
    · rename_i hh
      rw [List.nodup_append]
      refine ⟨h.nk, by simp, fun a ha b hb2 e1 => ?_⟩
      rw [List.mem_singleton] at hb2
      subst hb2; subst e1
      exact hh ((hasT_iff _ _).2 ha)
  · rcases mem_set hx with hx | ⟨h1, h2⟩
    · exact h.key x hx
    · rw [h1, h2]
  · rw [findT_set, getE_put hF]
    by_cases hke : k = e.key
    · subst hke
      rw [if_pos rfl, if_pos rfl, ← h.find]
      cases hf : findT e.key L with
      | none => rfl
      | some x => simp [newer, hs x hf]
    · rw [if_neg hke, if_neg (fun h => hke h.symm), h.find]
/-- What was gathered off the table, sorted, is the list. -/
theorem Tbl.sorted {L : List (Nat × List UInt8 × En)} {c : Nat} {F o : List En} (h : Tbl L c F) (hF : Rises F) (hp : o.Perm (L.map (·.2.2))) (hs : o.Pairwise fun a b => Ab.lt b.key a.key = false) : o = F := by
  have hk : (o.map (·.key)).Nodup := by
    refine ((hp.map (·.key)).nodup_iff).2 ?_
    rw [List.map_map]
    have : L.map ((·.key) ∘ (·.2.2)) = L.map (·.2.1) := List.map_congr_left fun x hx => h.key x hx
    rw [this]
    exact h.nk
  have hr : Rises o := by
    clear hp
    induction o with
    | nil => exact List.Pairwise.nil
    | cons a o ih =>
      obtain ⟨s1, s2⟩ := List.pairwise_cons.1 hs
      obtain ⟨k1, k2⟩ := List.nodup_cons.1 hk
      refine List.pairwise_cons.2 ⟨fun b hb => ?_, ih s2 k2⟩
      cases hab : Ab.lt a.key b.key with
      | true => rfl
      | false =>
        have e := lt_tri hab (s1 b hb)
        exact absurd (List.mem_map.2 ⟨b, hb, e.symm⟩) k1
  refine rises_ext hr hF fun x => ?_
  rw [hp.mem_iff]
  constructor
  · intro hx
    obtain ⟨y, hy, rfl⟩ := List.mem_map.1 hx
    have := findT_of_mem h.nk hy
    rw [h.find] at this
    exact (getE_mem this).1
  · intro hx
    have := getE_of_mem hF hx
    rw [← h.find] at this
    obtain ⟨y, hy, _, rfl⟩ := findT_mem this
    exact List.mem_map.2 ⟨y, hy, rfl⟩
end Go.Ab

/- Numbers and texts read from bytes. No program in sight. -/
set_option linter.unusedVariables false
set_option linter.unusedSimpArgs false
namespace Go.Ab
instance (priority := 1100) (b : UInt8) : Cells (byt b) [W8 b] := ⟨rfl⟩
/-- A number of bytes, from the i-th one on; what was read so far. -/
def getA : List UInt8 → Nat → Nat → Option (Nat × Nat)
  | [], _, _ => none
  | c :: s, i, v => if 10 ≤ i ∨ (i = 9 ∧ 1 < c.toNat) ∨ (0 < i ∧ c.toNat = 0) then none
    else if c.toNat < 128 then some (v + c.toNat % 128 * 128 ^ i, i + 1) else getA s (i + 1) (v + c.toNat % 128 * 128 ^ i)
def getG (s : List UInt8) : Option (Nat × Nat) := getA s 0 0
def getN (s : List UInt8) : Nat := ((getG s).map (·.2)).getD 0
def getO (s : List UInt8) : Bool := (getG s).isSome
theorem drop_cons_d {α : Type} [Inhabited α] {l : List α} {i : Nat} (h : i < l.length) : l.drop i = l.getD i default :: l.drop (i + 1) := by
  rw [List.drop_eq_getElem_cons h, List.getD_eq_getElem?_getD, List.getElem?_eq_getElem h]
  rfl
/-- A text: its length, its bytes. -/
def textG (s : List UInt8) : Option (List UInt8 × Nat) := match getG s with
  | none => none
  | some (v, n) => if s.length - n < v then none else some ((s.drop n).take v, n + v)
def textV (s : List UInt8) : List UInt8 := ((textG s).map (·.1)).getD []
def textN (s : List UInt8) : Nat := ((textG s).map (·.2)).getD 0
def textO (s : List UInt8) : Bool := (textG s).isSome
end Go.Ab

/- An entry read is the entry written. No program in sight. -/
set_option linter.unusedVariables false
set_option linter.unusedSimpArgs false
namespace Go.Ab
theorem right_b {e : En} (h : right e = true) : 1 ≤ e.key.length ∧ e.key.length ≤ 128 ∧ e.val.length ≤ 1024 ∧ (e.del = true → e.val = []) ∧ 1 ≤ e.seq ∧ e.seq ≤ 1099511627776 := by
  simp [right] at h
  obtain ⟨⟨⟨⟨⟨h1, h2⟩, h3⟩, h4⟩, h5⟩, h6⟩ := h
  have : 1 ≤ e.key.length := List.length_pos_iff.2 h1
  exact ⟨this, by omega, by omega, fun hd => h4.resolve_left (by simp [hd]), h5, h6⟩
theorem enB_nil {e : En} (h : ¬ right e = true) : enB e = [] := by unfold enB; rw [if_neg h]
theorem enB_right {e : En} (h : right e = true) : enB e = enR e := by unfold enB; rw [if_pos h]
theorem put_pos (v : Nat) : 0 < (put v).length := by
  rcases Nat.lt_or_ge v 128 with h | h
  · rw [put_small h]; simp
  · rw [put_more (v := v) (by omega)]; simp
theorem enR_length {e : En} (he : right e = true) : 1 ≤ (enR e).length ∧ (enR e).length ≤ 1200 := by
  obtain ⟨k1, k2, k3, k4, k5, k6⟩ := right_b he
  have p1 := put_len64 (v := e.seq.toNat) (by omega)
  have p2 := put_len64 (v := e.key.length) (by omega)
  have p3 := put_len64 (v := e.val.length) (by omega)
  unfold enR
  split <;> simp only [List.length_append, List.length_cons, List.length_nil] <;> omega
theorem enB_length (e : En) : (enB e).length ≤ 1200 := by
  by_cases h : right e = true
  · rw [enB_right h]; exact (enR_length h).2
  · rw [enB_nil h]; simp
end Go.Ab

/- slices.Chunk: the parts that it hands over. -/
set_option linter.unusedVariables false
set_option linter.unusedSimpArgs false
namespace Go.Ab
open Go.Proofs (chunk1_in chunk0_in chunkPre chunkPre_length)
/-- A list in parts of sixteen. -/
def chunksE (l : List En) : List (List En) := (List.range ((l.length + 15) / 16)).map fun q => (l.drop (16 * q)).take 16
/-- A part of at most sixteen. -/
def PartOf (l p : List En) : Prop := ∃ k, k < l.length ∧ p = (l.drop k).take 16
theorem addr_of_cell {w : World} {a : Addr} {v : Value} (h : w.cell? a = some v) : a = ⟨a.block, a.off, none⟩ := by
  obtain ⟨b, o, s⟩ := a
  unfold World.cell? at h
  split at h
  · cases s with
    | none => rfl
    | some x => simp at h
  · cases h
theorem addr_add_lit (b o k : Nat) : (⟨b, o, none⟩ : Addr).add k = ⟨b, o + k, none⟩ := by
  unfold Addr.add
  split
  · rename_i h; rw [h]; rfl
  · rfl
theorem chunk_seq (l : List En) (m : SM) (hl : l.length ≤ 100000000000000) : SeqA Go.Proofs.Try.prog 66 [.rptr [.lst 4 (l.map En.av) m], .rptr [I .i64 16]] (fun p : List En => .lst 4 (p.map En.av) .ro) (PartOf l) l.length (chunksE l) := by
  refine ⟨⟨_, _, Go.Proofs.Try.func66, rfl, Go.Proofs.enters_of Go.Proofs.Try.func66 (by kernel_rfl) rfl⟩, ?_⟩
  intro R w lb hlb hro n hn l' J Jx W hW hJ hJx hY h0
  obtain ⟨hll, hlr⟩ := hlb
  match lb, hll with
  | [p1, p2], _ =>
    have r1 := hlr 0 _ p1 rfl rfl
    have r2 := hlr 1 _ p2 rfl rfl
    obtain ⟨a1, v1, rfl, hv1, hR1⟩ := r1.rptr_inv
    obtain ⟨a2, v2, rfl, hv2, hR2⟩ := r2.rptr_inv
    obtain ⟨h1l, h1r⟩ := hv1
    obtain ⟨h2l, h2r⟩ := hv2
    match v1, h1l, v2, h2l with
    | [sv], _, [nv], _ =>
      have rs := h1r 0 _ sv rfl rfl
      have rn := (h2r 0 _ nv rfl rfl).val_inv
      subst rn
      have c1 : R a1 = some sv := by have := hR1 0 sv rfl; rwa [addr_add_zero] at this
      have c2 : R a2 = some (.int .i64 16) := by have := hR2 0 _ rfl; rwa [addr_add_zero] at this
      have keep : ∀ a v, R a = some v → W.cell? a = some v := fun a v h => (hW.cell (p := a) (World.block_lt_of_cell? w a (hro a v h))).trans (hro a v h)
      have e1 := addr_of_cell (keep _ _ c1)
      have e2 := addr_of_cell (keep _ _ c2)
      obtain ⟨ao, cap, vs, rfl, hz, hsz, hr, hRs, hm, hb, hone⟩ := rs.lst_inv
      rw [List.length_map] at *
      rw [e1, e2]
      by_cases hl0 : l.length = 0
      · have hl' : l = [] := List.eq_nil_of_length_eq_zero hl0
        subst hl'
        refine (chunk0_in (wideR none) n trivial rfl l' a1.block a1.off a2.block a2.off cap ao W (by rw [← e1]; exact keep _ _ c1)).mono ?_
        rintro e W' ⟨he, rfl⟩
        exact ⟨he, .inl ⟨[], rfl, h0⟩⟩
      · obtain ⟨a, rfl, hRa⟩ := hRs (by intro h; have := congrArg List.length h; simp at this; exact hl0 (by simpa using this))
        have hne : ∃ v0, vs[0]? = some v0 := by
          have h1 : vs.length = (flat (l.map En.av)).length := hr.1
          have h2 : 0 < (flat (l.map En.av)).length := by
            cases l with
            | nil => exact absurd rfl hl0
            | cons e l => simp [flat, En.av, AV.cells, En.cs]
          exact ⟨_, List.getElem?_eq_getElem (by omega)⟩
        obtain ⟨v0, hv0⟩ := hne
        have ca : R a = some v0 := by have := hRa 0 v0 hv0; rwa [addr_add_zero] at this
        have ea := addr_of_cell (keep _ _ ca)
        generalize a.block = b at ea
        generalize a.off = off at ea
        subst ea
        have hlc : l.length ≤ cap := by
          cases m <;> simp only [SMok] at hm <;> omega
        have hcut : ∀ k, k < l.length → VR R (.slice (some ⟨b, off + k * 4, none⟩) (min (l.length - k) 16) (min (l.length - k) 16)) (.lst 4 (((l.drop k).take 16).map En.av) .ro) ∧ PartOf l ((l.drop k).take 16) := by
          intro k hk
          have hc := lst_cut (R := R) (ao := some ⟨b, off, none⟩) (xs := l.map En.av) (vs := vs) (sz := 4) hz hsz hr hRs hone (by simpa using hb) (l := k) (h := k + min (l.length - k) 16) (cp := min (l.length - k) 16) (Nat.le_add_right _ _) (by simp; omega) (m := .ro) (ao' := some ⟨b, off + k * 4, none⟩) (fun _ => by rw [Option.map_some, addr_add_lit]) (by simp only [SMok]; omega)
          rw [Nat.add_sub_cancel_left, List.drop_take, Nat.add_sub_cancel_left, ← List.map_drop, ← List.map_take] at hc
          have e3 : (l.drop k).take (min (l.length - k) 16) = (l.drop k).take 16 := by
            have := take_minN (l.drop k) 16
            rwa [List.length_drop] at this
          rw [e3] at hc
          exact ⟨hc, k, hk, rfl⟩
        let mk : ∀ k, k < l.length → {p : Value × List En // VR R p.1 (.lst 4 (p.2.map En.av) .ro) ∧ PartOf l p.2} := fun k hk => ⟨(_, _), hcut k hk⟩
        let part : Nat → {p : Value × List En // VR R p.1 (.lst 4 (p.2.map En.av) .ro) ∧ PartOf l p.2} := fun k => if h : k < l.length then mk k h else mk 0 (by omega)
        have hp : ∀ k (h : k < l.length), part k = mk k h := fun k h => dif_pos h
        refine (chunk1_in (wideR none) n trivial rfl hn l' a1.block a1.off a2.block a2.off b off l.length cap hlc hl J Jx part (fun p => p.1.1) (KpR R) (fun k hk => by rw [hp k hk]) (fun A B hk h => by
            rw [← e1] at h ⊢; exact hk _ _ c1 h) (fun A B hk h => by
            rw [← e2] at h ⊢; exact hk _ _ c2 h) (fun pre A h => hJ _ _ _ none h ⟨rfl, rfl, rfl, Nat.le_refl _, fun _ _ _ => rfl⟩ (fun r e => by cases e)) hY W (by rw [← e1]; exact keep _ _ c1) (by rw [← e2]; exact keep _ _ c2) h0).mono ?_
        rintro e W' ⟨he, ⟨q, hq1, hq2, hj⟩ | ⟨pre, hj⟩⟩
        · refine ⟨he, .inl ⟨_, ?_, hj⟩⟩
          have hq : q = (l.length + 15) / 16 := by omega
          unfold chunksE chunkPre
          rw [← hq]
          show List.map _ (List.map _ _) = _
          rw [List.map_map]
          apply List.map_congr_left
          intro j hj
          have hjq := List.mem_range.1 hj
          show (part (16 * j)).1.2 = _
          rw [hp (16 * j) (by omega)]
        · exact ⟨he, .inr ⟨pre, trivial, hj⟩⟩
end Go.Ab

/- Functions of layers 1, 3 and 4: what they do. -/
set_option linter.unusedVariables false
set_option linter.unusedSimpArgs false
namespace Go.Ab
instance : KindIs Go.Proofs.Try.prog 3 .i64 := ⟨by kernel_rfl⟩
instance : BoolT Go.Proofs.Try.prog 4 := ⟨by kernel_rfl⟩
instance : KindIs Go.Proofs.Try.prog 5 .u8 := ⟨by kernel_rfl⟩
instance : StrT Go.Proofs.Try.prog 9 := ⟨by kernel_rfl⟩
instance : SlT Go.Proofs.Try.prog 22 := ⟨by kernel_rfl⟩
instance : SlT Go.Proofs.Try.prog 25 := ⟨by kernel_rfl⟩
instance : SlT Go.Proofs.Try.prog 40 := ⟨by kernel_rfl⟩
instance : SlT Go.Proofs.Try.prog 42 := ⟨by kernel_rfl⟩
instance : EnT Go.Proofs.Try.prog 52 := ⟨by kernel_rfl⟩
instance : KindIs Go.Proofs.Try.prog 71 .u64 := ⟨by kernel_rfl⟩
instance : KindIs Go.Proofs.Try.prog 73 .u32 := ⟨by kernel_rfl⟩
instance : KindIs Go.Proofs.Try.prog 103 .u64 := ⟨by kernel_rfl⟩
def entry_Right.mark : Mark := ⟨fun t => false, fun t => false, fun t => Nat.beq t 1, fun t => Nat.beq t 4 || Nat.beq t 8 || Nat.beq t 14 || Nat.beq t 20 || Nat.beq t 23 || Nat.beq t 30 || Nat.beq t 35, fun t => false⟩
def entry_Right.ann : Ann := ⟨fun n => [], fun n => none, fun n => none⟩
/-- 'marlstone/entry.Right' -/
def entry_Right.sh (a0 : AV) (σ : Store) (Q : AEnd → Store → Prop) : Prop :=
  Do (aFreeze ((a0 : AV)).cells) fun t1 =>
  Do (aFieldAddr 0 1 t1) fun t3 =>
  Do (loadF false 1 t3) fun t4 =>
  Do (aBin Go.Proofs.Try.prog .neq 9 t4 (.val (.string ⟨#[]⟩))) fun t5 =>
  Do (aGuard t5 true (aFieldAddr 0 1 t1)) fun t7 =>
  Do (aGuard t5 true (loadF false 1 t7)) fun t8 =>
  Do (aGuard t5 true (aBuiltin Go.Proofs.Try.prog .len #[9] [t8])) fun t9 =>
  Do (aGuard t5 true (aBin Go.Proofs.Try.prog .leq 3 t9 (.val (.int .i64 128)))) fun t10 =>
  Do (aPick t5 t10 (.val (.bool false))) fun t11 =>
  Do (aGuard t11 true (aFieldAddr 1 1 t1)) fun t13 =>
  Do (aGuard t11 true (loadF false 1 t13)) fun t14 =>
  Do (aGuard t11 true (aBuiltin Go.Proofs.Try.prog .len #[9] [t14])) fun t15 =>
  Do (aGuard t11 true (aBin Go.Proofs.Try.prog .leq 3 t15 (.val (.int .i64 1024)))) fun t16 =>
  Do (aPick t11 t16 (.val (.bool false))) fun t17 =>
  Do (aGuard t17 true (aFieldAddr 2 1 t1)) fun t19 =>
  Do (aGuard t17 true (loadF false 1 t19)) fun t20 =>
  Do (aGuard t17 true (aIs t20)) fun t21 =>
  Do (aGuard t21 true (aFieldAddr 1 1 t1)) fun t22 =>
  Do (aGuard t21 true (loadF false 1 t22)) fun t23 =>
  Do (aGuard t21 true (aBin Go.Proofs.Try.prog .neq 9 t23 (.val (.string ⟨#[]⟩)))) fun t24 =>
  Do (aGuard t17 true (aPick t21 t24 (.val (.bool false)))) fun t25 =>
  Do (aGuard t17 true (aUn Go.Proofs.Try.prog .not t25)) fun t26 =>
  Do (aPick t17 t26 (.val (.bool false))) fun t27 =>
  Do (aGuard t27 true (aFieldAddr 3 1 t1)) fun t29 =>
  Do (aGuard t27 true (loadF false 1 t29)) fun t30 =>
  Do (aGuard t27 true (aBin Go.Proofs.Try.prog .geq 3 t30 (.val (.int .i64 1)))) fun t31 =>
  Do (aPick t27 t31 (.val (.bool false))) fun t32 =>
  Do (aGuard t32 true (aFieldAddr 3 1 t1)) fun t34 =>
  Do (aGuard t32 true (loadF false 1 t34)) fun t35 =>
  Do (aGuard t32 true (aBin Go.Proofs.Try.prog .leq 3 t35 (.val (.int .i64 1099511627776)))) fun t36 =>
  Do (aPick t32 t36 (.val (.bool false))) fun t37 =>
  Q (.ret t37) σ
theorem entry_Right.eq (a0 : AV) (σ : Store) (Q : AEnd → Store → Prop) : vc (semOf Go.Proofs.Try.prog entry_Right.mark) Go.Proofs.Try.f46.ntmps entry_Right.ann (bodyOf Go.Proofs.Try.f46) (endK [.tmp 2] Q) (argFr [a0]) σ = entry_Right.sh a0 σ Q := by kernel_rfl
theorem entry_Right.go {a0 : AV} {σ : Store} {Q : AEnd → Store → Prop} (h : entry_Right.sh a0 σ Q) : ACalls Go.Proofs.Try.prog 46 [a0] σ Q :=
  acalls_of_eq [.tmp 2] Go.Proofs.Try.func46 (by kernel_rfl) (by kernel_rfl) (by kernel_rfl) (by kernel_rfl) (entry_Right.eq a0 σ Q) h
theorem entry_Right_ok (e : En) : aPure Go.Proofs.Try.prog 46 [e.av] (B (right e)) := by
  refine entry_Right.go ?_
  unfold entry_Right.sh
  repeat' (first | with_reducible apply Stp.go | with_reducible refine imp fun _ => ?_ | (with_reducible refine hyp ?_ ?_; first | assumption | exact leftT_mem (by assumption)) | (with_reducible refine need ?_ ?_; first | trivial | omega | exact ⟨by assumption, by omega⟩ | (simp only [List.length_append, List.length_cons, List.length_nil, List.length_map, List.length_take, List.length_drop, List.length_replicate, List.length_set]; omega)) | (with_reducible refine fact ?_ ?_; first | trivial | exact ⟨rfl, rfl⟩ | kernel_rfl) | with_reducible refine choT (by assumption) ?_ | with_reducible refine choF (by assumption) ?_ | with_reducible refine choF' (by assumption) ?_ | (with_reducible refine altT ?_ ?_; first | omega | (simp only [List.length_append, List.length_cons, List.length_nil, List.length_map, List.length_take, List.length_drop, List.length_replicate, List.length_set]; omega)) | with_reducible refine altF ?_ | with_reducible refine all fun _ => ?_ | with_reducible refine both ?_ ?_ | (with_reducible refine choT ?_ ?_; omega) | (with_reducible refine choF ?_ ?_; omega) | with_reducible refine cho (fun _ => ?_) (fun _ => ?_))
  all_goals (refine ⟨?_, by first | rfl | trivial⟩; simp_all [right] <;> omega)
instance (e : En) : PC Go.Proofs.Try.prog 46 [e.av] True (B (right e)) := ⟨fun _ => PC.of (entry_Right_ok e)⟩

def codec_Put.mark : Mark := ⟨fun t => false, fun t => false, fun t => false, fun t => false, fun t => false⟩
def codec_Put.ann : Ann := ⟨fun n => bif Nat.beq n 2 then [0, 1] else [], fun n => none, fun n => none⟩
/-- 'marlstone/codec.Put' -/
def codec_Put.sh (a0 a1 : AV) (σ : Store) (Q : AEnd → Store → Prop) : Prop :=
  Do (aBuiltin Go.Proofs.Try.prog .len #[25] [a0]) fun t7 =>
  Do (aBuiltin Go.Proofs.Try.prog .len #[25] [a0]) fun t9 =>
  Do (aSlice .slice 1 a0 none (some t7) (some t9)) fun t10 =>
  aLoop (fun go vs σ =>
    At vs 0 fun s0 => At vs 1 fun s1 => Do (aBin Go.Proofs.Try.prog .geq 71 s1 (W64 128)) fun t12 =>
    aCond t12
      (Do (fun x => aConvN 71 5 s1 x Go.Proofs.Try.prog) fun t17 =>
    Do (aBin Go.Proofs.Try.prog .or 5 t17 (W8 128)) fun t18 =>
    Do (aSlLit (mkE [.val (.int .u8 0)]) 1 1 [(0, t18)]) fun t19 =>
    aAppend 5 1 1 s0 t19 σ (subK fun t20 σ_1 =>
    Do (aBin Go.Proofs.Try.prog .shr 71 s1 (W64 7)) fun t14 =>
    go [t20, t14] σ_1))
      (Do (fun x => aConvN 71 5 s1 x Go.Proofs.Try.prog) fun t23 =>
  Do (aSlLit (mkE [.val (.int .u8 0)]) 1 1 [(0, t23)]) fun t24 =>
  aAppend 5 1 1 s0 t24 σ (subK fun t25 σ_2 =>
  Q (.ret t25) σ_2)))
    [t10, a1] σ
theorem codec_Put.eq (a0 a1 : AV) (σ : Store) (Q : AEnd → Store → Prop) : vc (semOf Go.Proofs.Try.prog codec_Put.mark) Go.Proofs.Try.f32.ntmps codec_Put.ann (bodyOf Go.Proofs.Try.f32) (endK [.tmp 4] Q) (argFr [a0, a1]) σ = codec_Put.sh a0 a1 σ Q := by kernel_rfl
theorem codec_Put.go {a0 a1 : AV} {σ : Store} {Q : AEnd → Store → Prop} (h : codec_Put.sh a0 a1 σ Q) : ACalls Go.Proofs.Try.prog 32 [a0, a1] σ Q :=
  acalls_of_eq [.tmp 4] Go.Proofs.Try.func32 (by kernel_rfl) (by kernel_rfl) (by kernel_rfl) (by kernel_rfl) (codec_Put.eq a0 a1 σ Q) h
theorem u64_len {n : Nat} (h : n < 18446744073709551616) : (UInt64.ofNat n).toNat = n := by simp [UInt64.toNat_ofNat', Nat.mod_eq_of_lt h]
theorem u32_len {n : Nat} (h : n < 4294967296) : (UInt32.ofNat n).toNat = n := by simp [UInt32.toNat_ofNat', Nat.mod_eq_of_lt h]
theorem put_w {w : UInt64} (h : 128 ≤ w.toNat) : put w.toNat = (UInt8.ofNat w.toNat ||| 128) :: put (w >>> UInt64.ofNat 7).toNat := by
  rw [put_more (by omega)]
  have e1 : (w >>> UInt64.ofNat 7).toNat = w.toNat / 128 := by simp [Nat.shiftRight_eq_div_pow]
  have e2 : UInt8.ofNat w.toNat ||| 128 = UInt8.ofNat (w.toNat % 128 + 128) := by
    apply UInt8.toNat.inj
    have := or_128 w.toNat
    rw [UInt8.toNat_or, UInt8.toNat_ofNat']
    show w.toNat % 256 ||| 128 = _
    rw [this]
    simp
    omega
  rw [e1, e2]
theorem codec_Put_ok (l : List UInt8) (m : SM) (v : UInt64) (hl : l.length ≤ 1000000000000) (τ : Store) :
    ACalls Go.Proofs.Try.prog 32 [.lst 1 (l.map byt) m, W64 v] τ fun x σ' => ∃ y, x = .ret (.own y (l ++ put v.toNat).length) ∧ σ' = .row y 5 1 ((l ++ put v.toNat).map byt) 0 :: τ := by
  refine codec_Put.go ?_
  unfold codec_Put.sh
  have hp := put_len64 (lt64 v)
  repeat' (first | with_reducible apply Stp.go | with_reducible refine imp fun _ => ?_ | (with_reducible refine hyp ?_ ?_; first | assumption | exact leftT_mem (by assumption)) | (with_reducible refine need ?_ ?_; first | trivial | omega | exact ⟨by assumption, by omega⟩ | (simp only [List.length_append, List.length_cons, List.length_nil, List.length_map, List.length_take, List.length_drop, List.length_replicate, List.length_set]; omega)) | (with_reducible refine fact ?_ ?_; first | trivial | exact ⟨rfl, rfl⟩ | kernel_rfl) | with_reducible refine choT (by assumption) ?_ | with_reducible refine choF (by assumption) ?_ | with_reducible refine choF' (by assumption) ?_ | (with_reducible refine altT ?_ ?_; first | omega | (simp only [List.length_append, List.length_cons, List.length_nil, List.length_map, List.length_take, List.length_drop, List.length_replicate, List.length_set]; omega)) | with_reducible refine altF ?_ | with_reducible refine all fun _ => ?_ | with_reducible refine both ?_ ?_ | (with_reducible refine choT ?_ ?_; omega) | (with_reducible refine choF ?_ ?_; omega) | with_reducible refine cho (fun _ => ?_) (fun _ => ?_))
  refine loopI (β := List UInt8 × UInt64 × Option Value) (fun x => l ++ put v.toNat = x.1 ++ put x.2.1.toNat ∧ x.1.length + (put x.2.1.toNat).length ≤ 1000000000010)
    (fun x => [match x.2.2 with | none => .lst 1 (x.1.map byt) .full | some y => .own y x.1.length, W64 x.2.1]) (fun x => match x.2.2 with | none => τ | some y => .row y 5 1 (x.1.map byt) 0 :: τ) (fun x => x.2.1.toNat) (l, v, none) ⟨rfl, by dsimp only; omega⟩ (Sub.refl _ _) ?_
  rintro ⟨a, w, y⟩ ⟨hw, ha⟩
  dsimp only at hw ha ⊢
  have hpw := put_len64 (lt64 w)
  cases y
  all_goals
    dsimp only
    repeat' (first | with_reducible apply Stp.go | with_reducible refine imp fun _ => ?_ | (with_reducible refine hyp ?_ ?_; first | assumption | exact leftT_mem (by assumption)) | (with_reducible refine need ?_ ?_; first | trivial | omega | exact ⟨by assumption, by omega⟩ | (simp only [List.length_append, List.length_cons, List.length_nil, List.length_map, List.length_take, List.length_drop, List.length_replicate, List.length_set]; omega)) | (with_reducible refine fact ?_ ?_; first | trivial | exact ⟨rfl, rfl⟩ | kernel_rfl) | with_reducible refine choT (by assumption) ?_ | with_reducible refine choF (by assumption) ?_ | with_reducible refine choF' (by assumption) ?_ | (with_reducible refine altT ?_ ?_; first | omega | (simp only [List.length_append, List.length_cons, List.length_nil, List.length_map, List.length_take, List.length_drop, List.length_replicate, List.length_set]; omega)) | with_reducible refine altF ?_ | with_reducible refine all fun _ => ?_ | with_reducible refine both ?_ ?_ | (with_reducible refine choT ?_ ?_; omega) | (with_reducible refine choF ?_ ?_; omega) | with_reducible refine cho (fun _ => ?_) (fun _ => ?_))
  all_goals
    rename_i h x
    first
    | (refine again (a ++ [UInt8.ofNat w.toNat ||| 128], w >>> UInt64.ofNat 7, some x) ?_ ⟨?_, ?_⟩ (Sub.refl _ _)
       · simp [Nat.shiftRight_eq_div_pow]; omega
       · rw [hw, put_w h]; simp
       · have := congrArg List.length (put_w h)
         simp only [List.length_cons, List.length_append, List.length_nil] at this ⊢
         omega)
    | (have e : l ++ put v.toNat = a ++ [UInt8.ofNat w.toNat] := by rw [hw, put_small (by omega)]
       rw [e]
       exact ⟨_, rfl, rfl⟩)
instance (priority := 1100) {a : AV} {l : List UInt8} {m : SM} {n : Nat} {τ : Store} [h : IsL a byt 1 l m] : EC Go.Proofs.Try.prog 32 [a, W64 (UInt64.ofNat n)] τ (n < 18446744073709551616 ∧ l.length ≤ 1000000000000) Value (fun y => .own y (l ++ put n).length) (fun y => .row y 5 1 ((l ++ put n).map byt) 0 :: τ) :=
  ⟨fun hl => by
    have := (codec_Put_ok l m (UInt64.ofNat n) hl.2 τ).subV (args := [a, W64 (UInt64.ofNat n)]) ⟨h.sub, SubVs.refl _⟩
    rw [u64_len hl.1] at this
    exact this⟩
def internal_stringslite_HasPrefix.mark : Mark := ⟨fun t => false, fun t => false, fun t => false, fun t => false, fun t => false⟩
def internal_stringslite_HasPrefix.ann : Ann := ⟨fun n => [], fun n => none, fun n => none⟩
/-- 'internal/stringslite.HasPrefix' -/
def internal_stringslite_HasPrefix.sh (a0 a1 : AV) (σ : Store) (Q : AEnd → Store → Prop) : Prop :=
  Do (aBuiltin Go.Proofs.Try.prog .len #[9] [a0]) fun t6 =>
  Do (aBuiltin Go.Proofs.Try.prog .len #[9] [a1]) fun t8 =>
  Do (aBin Go.Proofs.Try.prog .geq 3 t6 t8) fun t9 =>
  Do (aGuard t9 true (aIs a0)) fun t11 =>
  Do (aGuard t9 true (aIs a1)) fun t12 =>
  Do (aGuard t9 true (aBuiltin Go.Proofs.Try.prog .len #[9] [t12])) fun t13 =>
  Do (aGuard t9 true (aSlice .string 1 t11 none (some t13) none)) fun t14 =>
  Do (aGuard t9 true (aIs a1)) fun t15 =>
  Do (aGuard t9 true (aBin Go.Proofs.Try.prog .eql 9 t14 t15)) fun t16 =>
  Do (aPick t9 t16 (.val (.bool false))) fun t17 =>
  Q (.ret t17) σ
theorem internal_stringslite_HasPrefix.eq (a0 a1 : AV) (σ : Store) (Q : AEnd → Store → Prop) : vc (semOf Go.Proofs.Try.prog internal_stringslite_HasPrefix.mark) Go.Proofs.Try.f97.ntmps internal_stringslite_HasPrefix.ann (bodyOf Go.Proofs.Try.f97) (endK [.tmp 4] Q) (argFr [a0, a1]) σ = internal_stringslite_HasPrefix.sh a0 a1 σ Q := by kernel_rfl
theorem internal_stringslite_HasPrefix.go {a0 a1 : AV} {σ : Store} {Q : AEnd → Store → Prop} (h : internal_stringslite_HasPrefix.sh a0 a1 σ Q) : ACalls Go.Proofs.Try.prog 97 [a0, a1] σ Q :=
  acalls_of_eq [.tmp 4] Go.Proofs.Try.func97 (by kernel_rfl) (by kernel_rfl) (by kernel_rfl) (by kernel_rfl) (internal_stringslite_HasPrefix.eq a0 a1 σ Q) h
def strings_HasPrefix.mark : Mark := ⟨fun t => Nat.beq t 7, fun t => false, fun t => false, fun t => false, fun t => false⟩
def strings_HasPrefix.ann : Ann := ⟨fun n => [], fun n => none, fun n => none⟩
/-- 'strings.HasPrefix' -/
def strings_HasPrefix.sh (a0 a1 : AV) (σ : Store) (Q : AEnd → Store → Prop) : Prop :=
  Do (aPureC Go.Proofs.Try.prog 97 [a0, a1]) fun t7 =>
  Q (.ret t7) σ
theorem strings_HasPrefix.eq (a0 a1 : AV) (σ : Store) (Q : AEnd → Store → Prop) : vc (semOf Go.Proofs.Try.prog strings_HasPrefix.mark) Go.Proofs.Try.f84.ntmps strings_HasPrefix.ann (bodyOf Go.Proofs.Try.f84) (endK [.tmp 4] Q) (argFr [a0, a1]) σ = strings_HasPrefix.sh a0 a1 σ Q := by kernel_rfl
theorem strings_HasPrefix.go {a0 a1 : AV} {σ : Store} {Q : AEnd → Store → Prop} (h : strings_HasPrefix.sh a0 a1 σ Q) : ACalls Go.Proofs.Try.prog 84 [a0, a1] σ Q :=
  acalls_of_eq [.tmp 4] Go.Proofs.Try.func84 (by kernel_rfl) (by kernel_rfl) (by kernel_rfl) (by kernel_rfl) (strings_HasPrefix.eq a0 a1 σ Q) h
theorem slite_HasPrefix_ok (a b : List UInt8) : aPure Go.Proofs.Try.prog 97 [S a, S b] (B (decide (a.take b.length = b))) := by
  refine internal_stringslite_HasPrefix.go ?_
  unfold internal_stringslite_HasPrefix.sh
  repeat' (first | with_reducible apply Stp.go | with_reducible refine imp fun _ => ?_ | (with_reducible refine hyp ?_ ?_; first | assumption | exact leftT_mem (by assumption)) | (with_reducible refine need ?_ ?_; first | trivial | omega | exact ⟨by assumption, by omega⟩ | (simp only [List.length_append, List.length_cons, List.length_nil, List.length_map, List.length_take, List.length_drop, List.length_replicate, List.length_set]; omega)) | (with_reducible refine fact ?_ ?_; first | trivial | exact ⟨rfl, rfl⟩ | kernel_rfl) | with_reducible refine choT (by assumption) ?_ | with_reducible refine choF (by assumption) ?_ | with_reducible refine choF' (by assumption) ?_ | (with_reducible refine altT ?_ ?_; first | omega | (simp only [List.length_append, List.length_cons, List.length_nil, List.length_map, List.length_take, List.length_drop, List.length_replicate, List.length_set]; omega)) | with_reducible refine altF ?_ | with_reducible refine all fun _ => ?_ | with_reducible refine both ?_ ?_ | (with_reducible refine choT ?_ ?_; omega) | (with_reducible refine choF ?_ ?_; omega) | with_reducible refine cho (fun _ => ?_) (fun _ => ?_))
  · exact ⟨rfl, rfl⟩
  · refine ⟨?_, rfl⟩
    rename_i h
    have : ¬ a.take b.length = b := fun e => h (by have := congrArg List.length e; simp at this; omega)
    simp [this]
instance (a b : List UInt8) : PC Go.Proofs.Try.prog 97 [S a, S b] True (B (decide (a.take b.length = b))) := ⟨fun _ => PC.of (slite_HasPrefix_ok a b)⟩
theorem HasPrefix_ok (a b : List UInt8) : aPure Go.Proofs.Try.prog 84 [S a, S b] (B (decide (a.take b.length = b))) := by
  refine strings_HasPrefix.go ?_
  unfold strings_HasPrefix.sh
  repeat' (first | with_reducible apply Stp.go | with_reducible refine imp fun _ => ?_ | (with_reducible refine hyp ?_ ?_; first | assumption | exact leftT_mem (by assumption)) | (with_reducible refine need ?_ ?_; first | trivial | omega | exact ⟨by assumption, by omega⟩ | (simp only [List.length_append, List.length_cons, List.length_nil, List.length_map, List.length_take, List.length_drop, List.length_replicate, List.length_set]; omega)) | (with_reducible refine fact ?_ ?_; first | trivial | exact ⟨rfl, rfl⟩ | kernel_rfl) | with_reducible refine choT (by assumption) ?_ | with_reducible refine choF (by assumption) ?_ | with_reducible refine choF' (by assumption) ?_ | (with_reducible refine altT ?_ ?_; first | omega | (simp only [List.length_append, List.length_cons, List.length_nil, List.length_map, List.length_take, List.length_drop, List.length_replicate, List.length_set]; omega)) | with_reducible refine altF ?_ | with_reducible refine all fun _ => ?_ | with_reducible refine both ?_ ?_ | (with_reducible refine choT ?_ ?_; omega) | (with_reducible refine choF ?_ ?_; omega) | with_reducible refine cho (fun _ => ?_) (fun _ => ?_))
  exact ⟨rfl, rfl⟩
instance (a b : List UInt8) : PC Go.Proofs.Try.prog 84 [S a, S b] True (B (decide (a.take b.length = b))) := ⟨fun _ => PC.of (HasPrefix_ok a b)⟩
def ref01_Put.mark : Mark := ⟨fun t => false, fun t => false, fun t => false, fun t => false, fun t => false⟩
def ref01_Put.ann : Ann := ⟨fun n => bif Nat.beq n 1 then [0, 1] else [], fun n => none, fun n => none⟩
/-- 'marlstone/marlstoneref01.Put' -/
def ref01_Put.sh (a0 a1 : AV) (σ : Store) (Q : AEnd → Store → Prop) : Prop :=
  aLoop (fun go vs σ =>
    At vs 0 fun s0 => At vs 1 fun s1 => Do (aBin Go.Proofs.Try.prog .geq 71 s1 (W64 128)) fun t6 =>
    aCond t6
      (Do (aBin Go.Proofs.Try.prog .rem 71 s1 (W64 128)) fun t9 =>
    Do (fun x => aConvN 71 5 t9 x Go.Proofs.Try.prog) fun t10 =>
    Do (aBin Go.Proofs.Try.prog .add 5 t10 (W8 128)) fun t11 =>
    Do (aSlLit (mkE [.val (.int .u8 0)]) 1 1 [(0, t11)]) fun t12 =>
    Do (aConvBS t12) fun t13 =>
    Do (aBin Go.Proofs.Try.prog .add 9 s0 t13) fun t14 =>
    Do (aBin Go.Proofs.Try.prog .quo 71 s1 (W64 128)) fun t16 =>
    go [t14, t16] σ)
      (Do (fun x => aConvN 71 5 s1 x Go.Proofs.Try.prog) fun t19 =>
  Do (aSlLit (mkE [.val (.int .u8 0)]) 1 1 [(0, t19)]) fun t20 =>
  Do (aConvBS t20) fun t21 =>
  Do (aBin Go.Proofs.Try.prog .add 9 s0 t21) fun t22 =>
  Q (.ret t22) σ))
    [a0, a1] σ
theorem ref01_Put.eq (a0 a1 : AV) (σ : Store) (Q : AEnd → Store → Prop) : vc (semOf Go.Proofs.Try.prog ref01_Put.mark) Go.Proofs.Try.f37.ntmps ref01_Put.ann (bodyOf Go.Proofs.Try.f37) (endK [.tmp 4] Q) (argFr [a0, a1]) σ = ref01_Put.sh a0 a1 σ Q := by kernel_rfl
theorem ref01_Put.go {a0 a1 : AV} {σ : Store} {Q : AEnd → Store → Prop} (h : ref01_Put.sh a0 a1 σ Q) : ACalls Go.Proofs.Try.prog 37 [a0, a1] σ Q :=
  acalls_of_eq [.tmp 4] Go.Proofs.Try.func37 (by kernel_rfl) (by kernel_rfl) (by kernel_rfl) (by kernel_rfl) (ref01_Put.eq a0 a1 σ Q) h
theorem ref01_Put_ok (l : List UInt8) (v : UInt64) (hl : l.length ≤ 1000000000000) : aPure Go.Proofs.Try.prog 37 [S l, W64 v] (S (l ++ put v.toNat)) := by
  refine ref01_Put.go ?_
  unfold ref01_Put.sh
  have hp := put_len64 (lt64 v)
  refine loopI (β := List UInt8 × UInt64) (fun x => l ++ put v.toNat = x.1 ++ put x.2.toNat ∧ x.1.length + (put x.2.toNat).length ≤ 1000000000010) (fun x => [S x.1, W64 x.2]) (fun _ => []) (fun x => x.2.toNat) (l, v) ⟨rfl, by dsimp only; omega⟩ (Sub.refl _ _) ?_
  rintro ⟨a, w⟩ ⟨hw, ha⟩
  dsimp only at hw ha ⊢
  have hpw := put_len64 (lt64 w)
  repeat' (first | with_reducible apply Stp.go | with_reducible refine imp fun _ => ?_ | (with_reducible refine hyp ?_ ?_; first | assumption | exact leftT_mem (by assumption)) | (with_reducible refine need ?_ ?_; first | trivial | omega | exact ⟨by assumption, by omega⟩ | (simp only [List.length_append, List.length_cons, List.length_nil, List.length_map, List.length_take, List.length_drop, List.length_replicate, List.length_set]; omega)) | (with_reducible refine fact ?_ ?_; first | trivial | exact ⟨rfl, rfl⟩ | kernel_rfl) | with_reducible refine choT (by assumption) ?_ | with_reducible refine choF (by assumption) ?_ | with_reducible refine choF' (by assumption) ?_ | (with_reducible refine altT ?_ ?_; first | omega | (simp only [List.length_append, List.length_cons, List.length_nil, List.length_map, List.length_take, List.length_drop, List.length_replicate, List.length_set]; omega)) | with_reducible refine altF ?_ | with_reducible refine all fun _ => ?_ | with_reducible refine both ?_ ?_ | (with_reducible refine choT ?_ ?_; omega) | (with_reducible refine choF ?_ ?_; omega) | with_reducible refine cho (fun _ => ?_) (fun _ => ?_))
  · rename_i h
    have h1 := put_more (v := w.toNat) (by omega)
    have h2 : (w / 128).toNat = w.toNat / 128 := by simp
    refine again (a ++ [UInt8.ofNat (w % 128).toNat + 128], w / 128) ?_ ⟨?_, ?_⟩ (Sub.refl _ _)
    · dsimp only; rw [h2]; omega
    · have e : UInt8.ofNat (w % 128).toNat + 128 = UInt8.ofNat (w.toNat % 128 + 128) := by
        rw [UInt64.toNat_mod]; apply UInt8.toNat.inj; simp
      rw [hw, h1, e, h2]; simp
    · have := congrArg List.length h1
      simp only [List.length_cons, List.length_append, List.length_nil, h2] at this ⊢
      omega
  · rw [hw, put_small (by omega)]
    exact ⟨rfl, rfl⟩
instance (priority := 1100) (l : List UInt8) (n : Nat) : PC Go.Proofs.Try.prog 37 [S l, W64 (UInt64.ofNat n)] (n < 18446744073709551616 ∧ l.length ≤ 1000000000000) (S (l ++ put n)) := ⟨fun h => by
  have := ref01_Put_ok l (UInt64.ofNat n) h.2
  rw [u64_len h.1] at this
  exact PC.of this⟩
def ref01_PutText.mark : Mark := ⟨fun t => Nat.beq t 9, fun t => false, fun t => false, fun t => false, fun t => false⟩
def ref01_PutText.ann : Ann := ⟨fun n => [], fun n => none, fun n => none⟩
/-- 'marlstone/marlstoneref01.PutText' -/
def ref01_PutText.sh (a0 a1 : AV) (σ : Store) (Q : AEnd → Store → Prop) : Prop :=
  Do (aBuiltin Go.Proofs.Try.prog .len #[9] [a1]) fun t7 =>
  Do (fun x => aConvN 3 71 t7 x Go.Proofs.Try.prog) fun t8 =>
  Do (aPureC Go.Proofs.Try.prog 37 [a0, t8]) fun t9 =>
  Do (aBin Go.Proofs.Try.prog .add 9 t9 a1) fun t11 =>
  Q (.ret t11) σ
theorem ref01_PutText.eq (a0 a1 : AV) (σ : Store) (Q : AEnd → Store → Prop) : vc (semOf Go.Proofs.Try.prog ref01_PutText.mark) Go.Proofs.Try.f38.ntmps ref01_PutText.ann (bodyOf Go.Proofs.Try.f38) (endK [.tmp 4] Q) (argFr [a0, a1]) σ = ref01_PutText.sh a0 a1 σ Q := by kernel_rfl
theorem ref01_PutText.go {a0 a1 : AV} {σ : Store} {Q : AEnd → Store → Prop} (h : ref01_PutText.sh a0 a1 σ Q) : ACalls Go.Proofs.Try.prog 38 [a0, a1] σ Q :=
  acalls_of_eq [.tmp 4] Go.Proofs.Try.func38 (by kernel_rfl) (by kernel_rfl) (by kernel_rfl) (by kernel_rfl) (ref01_PutText.eq a0 a1 σ Q) h
def codec_PutText.mark : Mark := ⟨fun t => false, fun t => false, fun t => false, fun t => false, fun t => false⟩
def codec_PutText.ann : Ann := ⟨fun n => [], fun n => none, fun n => none⟩
/-- 'marlstone/codec.PutText' -/
def codec_PutText.sh (a0 a1 : AV) (σ : Store) (Q : AEnd → Store → Prop) : Prop :=
  Do (aBuiltin Go.Proofs.Try.prog .len #[9] [a1]) fun t7 =>
  Do (fun x => aConvN 3 71 t7 x Go.Proofs.Try.prog) fun t8 =>
  aCall Go.Proofs.Try.prog 32 [a0, t8] σ (fun t9 σ =>
  aAppend 5 1 1 t9 a1 σ (subK fun t11 σ_1 =>
  Q (.ret t11) σ_1)) (fun e σ_2 => Q (.pan e) σ_2)
theorem codec_PutText.eq (a0 a1 : AV) (σ : Store) (Q : AEnd → Store → Prop) : vc (semOf Go.Proofs.Try.prog codec_PutText.mark) Go.Proofs.Try.f33.ntmps codec_PutText.ann (bodyOf Go.Proofs.Try.f33) (endK [.tmp 4] Q) (argFr [a0, a1]) σ = codec_PutText.sh a0 a1 σ Q := by kernel_rfl
theorem codec_PutText.go {a0 a1 : AV} {σ : Store} {Q : AEnd → Store → Prop} (h : codec_PutText.sh a0 a1 σ Q) : ACalls Go.Proofs.Try.prog 33 [a0, a1] σ Q :=
  acalls_of_eq [.tmp 4] Go.Proofs.Try.func33 (by kernel_rfl) (by kernel_rfl) (by kernel_rfl) (by kernel_rfl) (codec_PutText.eq a0 a1 σ Q) h
theorem ref01_PutText_ok (l s : List UInt8) (hl : l.length ≤ 1000000000000) (hs : s.length ≤ 1000000000000) : aPure Go.Proofs.Try.prog 38 [S l, S s] (S (l ++ (put s.length ++ s))) := by
  refine ref01_PutText.go ?_
  unfold ref01_PutText.sh
  have hp := put_len64 (v := s.length) (by omega)
  repeat' (first | with_reducible apply Stp.go | with_reducible refine imp fun _ => ?_ | (with_reducible refine hyp ?_ ?_; first | assumption | exact leftT_mem (by assumption)) | (with_reducible refine need ?_ ?_; first | trivial | omega | exact ⟨by assumption, by omega⟩ | (simp only [List.length_append, List.length_cons, List.length_nil, List.length_map, List.length_take, List.length_drop, List.length_replicate, List.length_set]; omega)) | (with_reducible refine fact ?_ ?_; first | trivial | exact ⟨rfl, rfl⟩ | kernel_rfl) | with_reducible refine choT (by assumption) ?_ | with_reducible refine choF (by assumption) ?_ | with_reducible refine choF' (by assumption) ?_ | (with_reducible refine altT ?_ ?_; first | omega | (simp only [List.length_append, List.length_cons, List.length_nil, List.length_map, List.length_take, List.length_drop, List.length_replicate, List.length_set]; omega)) | with_reducible refine altF ?_ | with_reducible refine all fun _ => ?_ | with_reducible refine both ?_ ?_ | (with_reducible refine choT ?_ ?_; omega) | (with_reducible refine choF ?_ ?_; omega) | with_reducible refine cho (fun _ => ?_) (fun _ => ?_))
  exact ⟨by simp, rfl⟩
instance (l s : List UInt8) : PC Go.Proofs.Try.prog 38 [S l, S s] (l.length ≤ 1000000000000 ∧ s.length ≤ 1000000000000) (S (l ++ (put s.length ++ s))) := ⟨fun h => PC.of (ref01_PutText_ok l s h.1 h.2)⟩
theorem codec_PutText_ok (l s : List UInt8) (m : SM) (hl : l.length ≤ 1000000000000) (hs : s.length ≤ 1000000000000) (τ : Store) :
    ACalls Go.Proofs.Try.prog 33 [.lst 1 (l.map byt) m, S s] τ fun x σ' => ∃ y, x = .ret (.own y (l ++ (put s.length ++ s)).length) ∧ σ' = .row y 5 1 ((l ++ (put s.length ++ s)).map byt) 0 :: τ := by
  refine codec_PutText.go ?_
  unfold codec_PutText.sh
  have hp := put_len64 (v := s.length) (by omega)
  repeat' (first | with_reducible apply Stp.go | with_reducible refine imp fun _ => ?_ | (with_reducible refine hyp ?_ ?_; first | assumption | exact leftT_mem (by assumption)) | (with_reducible refine need ?_ ?_; first | trivial | omega | exact ⟨by assumption, by omega⟩ | (simp only [List.length_append, List.length_cons, List.length_nil, List.length_map, List.length_take, List.length_drop, List.length_replicate, List.length_set]; omega)) | (with_reducible refine fact ?_ ?_; first | trivial | exact ⟨rfl, rfl⟩ | kernel_rfl) | with_reducible refine choT (by assumption) ?_ | with_reducible refine choF (by assumption) ?_ | with_reducible refine choF' (by assumption) ?_ | (with_reducible refine altT ?_ ?_; first | omega | (simp only [List.length_append, List.length_cons, List.length_nil, List.length_map, List.length_take, List.length_drop, List.length_replicate, List.length_set]; omega)) | with_reducible refine altF ?_ | with_reducible refine all fun _ => ?_ | with_reducible refine both ?_ ?_ | (with_reducible refine choT ?_ ?_; omega) | (with_reducible refine choF ?_ ?_; omega) | with_reducible refine cho (fun _ => ?_) (fun _ => ?_))
  rw [List.append_assoc]
  exact ⟨_, rfl, rfl⟩
instance {a : AV} {l s : List UInt8} {m : SM} {τ : Store} [h : IsL a byt 1 l m] : EC Go.Proofs.Try.prog 33 [a, S s] τ (l.length ≤ 1000000000000 ∧ s.length ≤ 1000000000000) Value (fun y => .own y (l ++ (put s.length ++ s)).length) (fun y => .row y 5 1 ((l ++ (put s.length ++ s)).map byt) 0 :: τ) :=
  ⟨fun hl => (codec_PutText_ok l s m hl.1 hl.2 τ).subV ⟨h.sub, SubVs.refl _⟩⟩
end Go.Ab

/- Functions of layers 1, 3 and 4: bytes of numbers, what keys share, their order, what is right and fit. -/
set_option linter.unusedVariables false
set_option linter.unusedSimpArgs false
namespace Go.Ab
def ref01_PutFixed.mark : Mark := ⟨fun t => false, fun t => false, fun t => false, fun t => false, fun t => false⟩
def ref01_PutFixed.ann : Ann := ⟨fun n => [], fun n => none, fun n => none⟩
/-- 'marlstone/marlstoneref01.PutFixed' -/
def ref01_PutFixed.sh (a0 a1 : AV) (σ : Store) (Q : AEnd → Store → Prop) : Prop :=
  Do (aBin Go.Proofs.Try.prog .shr 73 a1 (W64 24)) fun t7 =>
  Do (fun x => aConvN 73 5 t7 x Go.Proofs.Try.prog) fun t8 =>
  Do (aBin Go.Proofs.Try.prog .shr 73 a1 (W64 16)) fun t10 =>
  Do (fun x => aConvN 73 5 t10 x Go.Proofs.Try.prog) fun t11 =>
  Do (aBin Go.Proofs.Try.prog .shr 73 a1 (W64 8)) fun t13 =>
  Do (fun x => aConvN 73 5 t13 x Go.Proofs.Try.prog) fun t14 =>
  Do (fun x => aConvN 73 5 a1 x Go.Proofs.Try.prog) fun t16 =>
  Do (aSlLit (mkE [.val (.int .u8 0)]) 1 4 [(0, t8), (1, t11), (2, t14), (3, t16)]) fun t17 =>
  Do (aConvBS t17) fun t18 =>
  Do (aBin Go.Proofs.Try.prog .add 9 a0 t18) fun t19 =>
  Q (.ret t19) σ
theorem ref01_PutFixed.eq (a0 a1 : AV) (σ : Store) (Q : AEnd → Store → Prop) : vc (semOf Go.Proofs.Try.prog ref01_PutFixed.mark) Go.Proofs.Try.f39.ntmps ref01_PutFixed.ann (bodyOf Go.Proofs.Try.f39) (endK [.tmp 4] Q) (argFr [a0, a1]) σ = ref01_PutFixed.sh a0 a1 σ Q := by kernel_rfl
theorem ref01_PutFixed.go {a0 a1 : AV} {σ : Store} {Q : AEnd → Store → Prop} (h : ref01_PutFixed.sh a0 a1 σ Q) : ACalls Go.Proofs.Try.prog 39 [a0, a1] σ Q :=
  acalls_of_eq [.tmp 4] Go.Proofs.Try.func39 (by kernel_rfl) (by kernel_rfl) (by kernel_rfl) (by kernel_rfl) (ref01_PutFixed.eq a0 a1 σ Q) h
def codec_PutFixed.mark : Mark := ⟨fun t => false, fun t => false, fun t => false, fun t => false, fun t => false⟩
def codec_PutFixed.ann : Ann := ⟨fun n => [], fun n => none, fun n => none⟩
/-- 'marlstone/codec.PutFixed' -/
def codec_PutFixed.sh (a0 a1 : AV) (σ : Store) (Q : AEnd → Store → Prop) : Prop :=
  Do (aBuiltin Go.Proofs.Try.prog .len #[25] [a0]) fun t7 =>
  Do (aBuiltin Go.Proofs.Try.prog .len #[25] [a0]) fun t9 =>
  Do (aSlice .slice 1 a0 none (some t7) (some t9)) fun t10 =>
  Do (aBin Go.Proofs.Try.prog .shr 73 a1 (W64 24)) fun t12 =>
  Do (fun x => aConvN 73 5 t12 x Go.Proofs.Try.prog) fun t13 =>
  Do (aBin Go.Proofs.Try.prog .shr 73 a1 (W64 16)) fun t15 =>
  Do (fun x => aConvN 73 5 t15 x Go.Proofs.Try.prog) fun t16 =>
  Do (aBin Go.Proofs.Try.prog .shr 73 a1 (W64 8)) fun t18 =>
  Do (fun x => aConvN 73 5 t18 x Go.Proofs.Try.prog) fun t19 =>
  Do (fun x => aConvN 73 5 a1 x Go.Proofs.Try.prog) fun t21 =>
  Do (aSlLit (mkE [.val (.int .u8 0)]) 1 4 [(0, t13), (1, t16), (2, t19), (3, t21)]) fun t22 =>
  aAppend 5 1 1 t10 t22 σ (subK fun t23 σ =>
  Q (.ret t23) σ)
theorem codec_PutFixed.eq (a0 a1 : AV) (σ : Store) (Q : AEnd → Store → Prop) : vc (semOf Go.Proofs.Try.prog codec_PutFixed.mark) Go.Proofs.Try.f34.ntmps codec_PutFixed.ann (bodyOf Go.Proofs.Try.f34) (endK [.tmp 4] Q) (argFr [a0, a1]) σ = codec_PutFixed.sh a0 a1 σ Q := by kernel_rfl
theorem codec_PutFixed.go {a0 a1 : AV} {σ : Store} {Q : AEnd → Store → Prop} (h : codec_PutFixed.sh a0 a1 σ Q) : ACalls Go.Proofs.Try.prog 34 [a0, a1] σ Q :=
  acalls_of_eq [.tmp 4] Go.Proofs.Try.func34 (by kernel_rfl) (by kernel_rfl) (by kernel_rfl) (by kernel_rfl) (codec_PutFixed.eq a0 a1 σ Q) h
theorem fixed_w (v : UInt32) : [UInt8.ofNat (v >>> UInt32.ofNat 24).toNat, UInt8.ofNat (v >>> UInt32.ofNat 16).toNat, UInt8.ofNat (v >>> UInt32.ofNat 8).toNat, UInt8.ofNat v.toNat] = fixed v.toNat := by
  have h : ∀ n : Nat, UInt8.ofNat n = UInt8.ofNat (n % 256) := fun n => by apply UInt8.toNat.inj; simp
  have h1 : (v >>> UInt32.ofNat 24).toNat = v.toNat / 16777216 := by simp [Nat.shiftRight_eq_div_pow]
  have h2 : (v >>> UInt32.ofNat 16).toNat = v.toNat / 65536 := by simp [Nat.shiftRight_eq_div_pow]
  have h3 : (v >>> UInt32.ofNat 8).toNat = v.toNat / 256 := by simp [Nat.shiftRight_eq_div_pow]
  unfold fixed
  rw [h1, h2, h3, h (v.toNat / 16777216), h (v.toNat / 65536), h (v.toNat / 256), h v.toNat]
theorem ref01_PutFixed_ok (l : List UInt8) (v : UInt32) (hl : l.length ≤ 1000000000000) : aPure Go.Proofs.Try.prog 39 [S l, W32 v] (S (l ++ fixed v.toNat)) := by
  refine ref01_PutFixed.go ?_
  unfold ref01_PutFixed.sh
  repeat' (first | with_reducible apply Stp.go | with_reducible refine imp fun _ => ?_ | (with_reducible refine hyp ?_ ?_; first | assumption | exact leftT_mem (by assumption)) | (with_reducible refine need ?_ ?_; first | trivial | omega | exact ⟨by assumption, by omega⟩ | (simp only [List.length_append, List.length_cons, List.length_nil, List.length_map, List.length_take, List.length_drop, List.length_replicate, List.length_set]; omega)) | (with_reducible refine fact ?_ ?_; first | trivial | exact ⟨rfl, rfl⟩ | kernel_rfl) | with_reducible refine choT (by assumption) ?_ | with_reducible refine choF (by assumption) ?_ | with_reducible refine choF' (by assumption) ?_ | (with_reducible refine altT ?_ ?_; first | omega | (simp only [List.length_append, List.length_cons, List.length_nil, List.length_map, List.length_take, List.length_drop, List.length_replicate, List.length_set]; omega)) | with_reducible refine altF ?_ | with_reducible refine all fun _ => ?_ | with_reducible refine both ?_ ?_ | (with_reducible refine choT ?_ ?_; omega) | (with_reducible refine choF ?_ ?_; omega) | with_reducible refine cho (fun _ => ?_) (fun _ => ?_))
  rw [fixed_w]
  exact ⟨rfl, rfl⟩
instance (priority := 1100) (l : List UInt8) (n : Nat) : PC Go.Proofs.Try.prog 39 [S l, W32 (UInt32.ofNat n)] (n < 4294967296 ∧ l.length ≤ 1000000000000) (S (l ++ fixed n)) := ⟨fun h => by
  have := ref01_PutFixed_ok l (UInt32.ofNat n) h.2
  rw [u32_len h.1] at this
  exact PC.of this⟩
theorem codec_PutFixed_ok (l : List UInt8) (m : SM) (v : UInt32) (hl : l.length ≤ 1000000000000) (τ : Store) :
    ACalls Go.Proofs.Try.prog 34 [.lst 1 (l.map byt) m, W32 v] τ fun x σ' => ∃ y, x = .ret (.own y (l ++ fixed v.toNat).length) ∧ σ' = .row y 5 1 ((l ++ fixed v.toNat).map byt) 0 :: τ := by
  refine codec_PutFixed.go ?_
  unfold codec_PutFixed.sh
  repeat' (first | with_reducible apply Stp.go | with_reducible refine imp fun _ => ?_ | (with_reducible refine hyp ?_ ?_; first | assumption | exact leftT_mem (by assumption)) | (with_reducible refine need ?_ ?_; first | trivial | omega | exact ⟨by assumption, by omega⟩ | (simp only [List.length_append, List.length_cons, List.length_nil, List.length_map, List.length_take, List.length_drop, List.length_replicate, List.length_set]; omega)) | (with_reducible refine fact ?_ ?_; first | trivial | exact ⟨rfl, rfl⟩ | kernel_rfl) | with_reducible refine choT (by assumption) ?_ | with_reducible refine choF (by assumption) ?_ | with_reducible refine choF' (by assumption) ?_ | (with_reducible refine altT ?_ ?_; first | omega | (simp only [List.length_append, List.length_cons, List.length_nil, List.length_map, List.length_take, List.length_drop, List.length_replicate, List.length_set]; omega)) | with_reducible refine altF ?_ | with_reducible refine all fun _ => ?_ | with_reducible refine both ?_ ?_ | (with_reducible refine choT ?_ ?_; omega) | (with_reducible refine choF ?_ ?_; omega) | with_reducible refine cho (fun _ => ?_) (fun _ => ?_))
  rw [fixed_w]
  exact ⟨_, rfl, rfl⟩
instance (priority := 1100) {a : AV} {l : List UInt8} {m : SM} {n : Nat} {τ : Store} [h : IsL a byt 1 l m] : EC Go.Proofs.Try.prog 34 [a, W32 (UInt32.ofNat n)] τ (n < 4294967296 ∧ l.length ≤ 1000000000000) Value (fun y => .own y (l ++ fixed n).length) (fun y => .row y 5 1 ((l ++ fixed n).map byt) 0 :: τ) :=
  ⟨fun hl => by
    have := (codec_PutFixed_ok l m (UInt32.ofNat n) hl.2 τ).subV (args := [a, W32 (UInt32.ofNat n)]) ⟨h.sub, SubVs.refl _⟩
    rw [u32_len hl.1] at this
    exact this⟩
def block_shared.mark : Mark := ⟨fun t => Nat.beq t 16, fun t => false, fun t => false, fun t => false, fun t => false⟩
def block_shared.ann : Ann := ⟨fun n => bif Nat.beq n 2 then [0, 1, 5] else [], fun n => none, fun n => none⟩
/-- 'marlstone/block.shared' -/
def block_shared.sh (a0 a1 : AV) (σ : Store) (Q : AEnd → Store → Prop) : Prop :=
  aLoop (fun go vs σ =>
    At vs 0 fun s0 => At vs 1 fun s1 => At vs 2 fun s5 => Do (aBuiltin Go.Proofs.Try.prog .len #[9] [s0]) fun t8 =>
    Do (aBin Go.Proofs.Try.prog .lss 3 s5 t8) fun t9 =>
    Do (aGuard t9 true (aIs s1)) fun t11 =>
    Do (aGuard t9 true (aIs s0)) fun t12 =>
    Do (aGuard t9 true (aIs s5)) fun t13 =>
    Do (aGuard t9 true (aBin Go.Proofs.Try.prog .add 3 t13 (.val (.int .i64 1)))) fun t14 =>
    Do (aGuard t9 true (aSlice .string 1 t12 none (some t14) none)) fun t15 =>
    Do (aGuard t9 true (aPureC Go.Proofs.Try.prog 84 [t11, t15])) fun t16 =>
    Do (aPick t9 t16 (.val (.bool false))) fun t17 =>
    aCond t17
      (Do (aBin Go.Proofs.Try.prog .add 3 s5 (.val (.int .i64 1))) fun t19 =>
    go [s0, s1, t19] σ)
      (Q (.ret s5) σ))
    [a0, a1, (.val (.int .i64 0))] σ
theorem block_shared.eq (a0 a1 : AV) (σ : Store) (Q : AEnd → Store → Prop) : vc (semOf Go.Proofs.Try.prog block_shared.mark) Go.Proofs.Try.f59.ntmps block_shared.ann (bodyOf Go.Proofs.Try.f59) (endK [.tmp 4] Q) (argFr [a0, a1]) σ = block_shared.sh a0 a1 σ Q := by kernel_rfl
theorem block_shared.go {a0 a1 : AV} {σ : Store} {Q : AEnd → Store → Prop} (h : block_shared.sh a0 a1 σ Q) : ACalls Go.Proofs.Try.prog 59 [a0, a1] σ Q :=
  acalls_of_eq [.tmp 4] Go.Proofs.Try.func59 (by kernel_rfl) (by kernel_rfl) (by kernel_rfl) (by kernel_rfl) (block_shared.eq a0 a1 σ Q) h
def ref04_common.mark : Mark := ⟨fun t => false, fun t => false, fun t => false, fun t => false, fun t => false⟩
def ref04_common.ann : Ann := ⟨fun n => bif Nat.beq n 2 then [0, 1, 5] else [], fun n => none, fun n => none⟩
/-- 'marlstone/marlstoneref04.common' -/
def ref04_common.sh (a0 a1 : AV) (σ : Store) (Q : AEnd → Store → Prop) : Prop :=
  aLoop (fun go vs σ =>
    At vs 0 fun s0 => At vs 1 fun s1 => At vs 2 fun s5 => Do (aBuiltin Go.Proofs.Try.prog .len #[9] [s0]) fun t8 =>
    Do (aBin Go.Proofs.Try.prog .lss 3 s5 t8) fun t9 =>
    Do (aGuard t9 true (aIs s5)) fun t11 =>
    Do (aGuard t9 true (aIs s1)) fun t12 =>
    Do (aGuard t9 true (aBuiltin Go.Proofs.Try.prog .len #[9] [t12])) fun t13 =>
    Do (aGuard t9 true (aBin Go.Proofs.Try.prog .lss 3 t11 t13)) fun t14 =>
    Do (aPick t9 t14 (.val (.bool false))) fun t15 =>
    Do (aGuard t15 true (aIs s0)) fun t17 =>
    Do (aGuard t15 true (aIs s5)) fun t18 =>
    Do (aGuard t15 true (aIndex .string false 1 t17 t18)) fun t19 =>
    Do (aGuard t15 true (aIs s1)) fun t20 =>
    Do (aGuard t15 true (aIs s5)) fun t21 =>
    Do (aGuard t15 true (aIndex .string false 1 t20 t21)) fun t22 =>
    Do (aGuard t15 true (aBin Go.Proofs.Try.prog .eql 5 t19 t22)) fun t23 =>
    Do (aPick t15 t23 (.val (.bool false))) fun t24 =>
    aCond t24
      (Do (aBin Go.Proofs.Try.prog .add 3 s5 (.val (.int .i64 1))) fun t26 =>
    go [s0, s1, t26] σ)
      (Q (.ret s5) σ))
    [a0, a1, (.val (.int .i64 0))] σ
theorem ref04_common.eq (a0 a1 : AV) (σ : Store) (Q : AEnd → Store → Prop) : vc (semOf Go.Proofs.Try.prog ref04_common.mark) Go.Proofs.Try.f69.ntmps ref04_common.ann (bodyOf Go.Proofs.Try.f69) (endK [.tmp 4] Q) (argFr [a0, a1]) σ = ref04_common.sh a0 a1 σ Q := by kernel_rfl
theorem ref04_common.go {a0 a1 : AV} {σ : Store} {Q : AEnd → Store → Prop} (h : ref04_common.sh a0 a1 σ Q) : ACalls Go.Proofs.Try.prog 69 [a0, a1] σ Q :=
  acalls_of_eq [.tmp 4] Go.Proofs.Try.func69 (by kernel_rfl) (by kernel_rfl) (by kernel_rfl) (by kernel_rfl) (ref04_common.eq a0 a1 σ Q) h
theorem shared_ok (a b : List UInt8) (ha : a.length ≤ 1000000000000) : aPure Go.Proofs.Try.prog 59 [S a, S b] (.val (.int .i64 (common a b : Nat))) := by
  refine block_shared.go ?_
  unfold block_shared.sh
  have hc := common_le a b
  refine loopI (β := Nat) (fun i => i ≤ common a b) (fun i => [S a, S b, .val (.int .i64 (i : Nat))]) (fun _ => []) (fun i => a.length - i) 0 (by omega) (Sub.refl _ _) ?_
  intro i hi
  repeat' (first | with_reducible apply Stp.go | with_reducible refine imp fun _ => ?_ | (with_reducible refine hyp ?_ ?_; first | assumption | exact leftT_mem (by assumption)) | (with_reducible refine need ?_ ?_; first | trivial | omega | exact ⟨by assumption, by omega⟩ | (simp only [List.length_append, List.length_cons, List.length_nil, List.length_map, List.length_take, List.length_drop, List.length_replicate, List.length_set]; omega)) | (with_reducible refine fact ?_ ?_; first | trivial | exact ⟨rfl, rfl⟩ | kernel_rfl) | with_reducible refine choT (by assumption) ?_ | with_reducible refine choF (by assumption) ?_ | with_reducible refine choF' (by assumption) ?_ | (with_reducible refine altT ?_ ?_; first | omega | (simp only [List.length_append, List.length_cons, List.length_nil, List.length_map, List.length_take, List.length_drop, List.length_replicate, List.length_set]; omega)) | with_reducible refine altF ?_ | with_reducible refine all fun _ => ?_ | with_reducible refine both ?_ ?_ | (with_reducible refine choT ?_ ?_; omega) | (with_reducible refine choF ?_ ?_; omega) | with_reducible refine cho (fun _ => ?_) (fun _ => ?_))
  · rename_i h1 h
    have e : (a.take (i + 1)).length = i + 1 := by rw [List.length_take]; omega
    rw [e, common_take _ _ _ (by omega)] at h
    exact again (i + 1) (by omega) h (Sub.refl _ _)
  · rename_i h1 h
    have e : (a.take (i + 1)).length = i + 1 := by rw [List.length_take]; omega
    rw [e, common_take _ _ _ (by omega)] at h
    have : i = common a b := by omega
    exact ⟨by rw [this], rfl⟩
  · have : i = common a b := by omega
    exact ⟨by rw [this], rfl⟩
instance (a b : List UInt8) : PC Go.Proofs.Try.prog 59 [S a, S b] (a.length ≤ 1000000000000) (.val (.int .i64 (common a b : Nat))) := ⟨fun h => PC.of (shared_ok a b h)⟩
theorem common_ok (a b : List UInt8) (ha : a.length ≤ 1000000000000) : aPure Go.Proofs.Try.prog 69 [S a, S b] (.val (.int .i64 (common a b : Nat))) := by
  refine ref04_common.go ?_
  unfold ref04_common.sh
  have hc := common_le a b
  refine loopI (β := Nat) (fun i => i ≤ common a b) (fun i => [S a, S b, .val (.int .i64 (i : Nat))]) (fun _ => []) (fun i => a.length - i) 0 (by omega) (Sub.refl _ _) ?_
  intro i hi
  repeat' (first | with_reducible apply Stp.go | with_reducible refine imp fun _ => ?_ | (with_reducible refine hyp ?_ ?_; first | assumption | exact leftT_mem (by assumption)) | (with_reducible refine need ?_ ?_; first | trivial | omega | exact ⟨by assumption, by omega⟩ | (simp only [List.length_append, List.length_cons, List.length_nil, List.length_map, List.length_take, List.length_drop, List.length_replicate, List.length_set]; omega)) | (with_reducible refine fact ?_ ?_; first | trivial | exact ⟨rfl, rfl⟩ | kernel_rfl) | with_reducible refine choT (by assumption) ?_ | with_reducible refine choF (by assumption) ?_ | with_reducible refine choF' (by assumption) ?_ | (with_reducible refine altT ?_ ?_; first | omega | (simp only [List.length_append, List.length_cons, List.length_nil, List.length_map, List.length_take, List.length_drop, List.length_replicate, List.length_set]; omega)) | with_reducible refine altF ?_ | with_reducible refine all fun _ => ?_ | with_reducible refine both ?_ ?_ | (with_reducible refine choT ?_ ?_; omega) | (with_reducible refine choF ?_ ?_; omega) | with_reducible refine cho (fun _ => ?_) (fun _ => ?_))
  · rename_i h1 h2 h
    have h := (common_get hi (by omega) (by omega)).1 (UInt8.toNat_inj.1 h)
    exact again (i + 1) (by omega) h (Sub.refl _ _)
  · rename_i h1 h2 h
    have h := mt (common_get hi (by omega) (by omega)).2 (fun e => h (by rw [e]))
    have : i = common a b := by omega
    exact ⟨by rw [this], rfl⟩
  · have : i = common a b := by omega
    exact ⟨by rw [this], rfl⟩
  · have : i = common a b := by omega
    exact ⟨by rw [this], rfl⟩
instance (a b : List UInt8) : PC Go.Proofs.Try.prog 69 [S a, S b] (a.length ≤ 1000000000000) (.val (.int .i64 (common a b : Nat))) := ⟨fun h => PC.of (common_ok a b h)⟩
def cmp_isNaN.mark : Mark := ⟨fun t => false, fun t => false, fun t => false, fun t => false, fun t => false⟩
def cmp_isNaN.ann : Ann := ⟨fun n => [], fun n => none, fun n => none⟩
/-- 'cmp.isNaN[string]' -/
def cmp_isNaN.sh (a0 : AV) (σ : Store) (Q : AEnd → Store → Prop) : Prop :=
  Do (aBin Go.Proofs.Try.prog .neq 9 a0 a0) fun t5 =>
  Q (.ret t5) σ
theorem cmp_isNaN.eq (a0 : AV) (σ : Store) (Q : AEnd → Store → Prop) : vc (semOf Go.Proofs.Try.prog cmp_isNaN.mark) Go.Proofs.Try.f105.ntmps cmp_isNaN.ann (bodyOf Go.Proofs.Try.f105) (endK [.tmp 2] Q) (argFr [a0]) σ = cmp_isNaN.sh a0 σ Q := by kernel_rfl
theorem cmp_isNaN.go {a0 : AV} {σ : Store} {Q : AEnd → Store → Prop} (h : cmp_isNaN.sh a0 σ Q) : ACalls Go.Proofs.Try.prog 105 [a0] σ Q :=
  acalls_of_eq [.tmp 2] Go.Proofs.Try.func105 (by kernel_rfl) (by kernel_rfl) (by kernel_rfl) (by kernel_rfl) (cmp_isNaN.eq a0 σ Q) h
def cmp_Compare.mark : Mark := ⟨fun t => Nat.beq t 8 || Nat.beq t 10, fun t => false, fun t => false, fun t => false, fun t => false⟩
def cmp_Compare.ann : Ann := ⟨fun n => [], fun n => none, fun n => none⟩
/-- 'cmp.Compare[string]' -/
def cmp_Compare.sh (a0 a1 : AV) (σ : Store) (Q : AEnd → Store → Prop) : Prop :=
  Do (aPureC Go.Proofs.Try.prog 105 [a0]) fun t8 =>
  Do (aPureC Go.Proofs.Try.prog 105 [a1]) fun t10 =>
  aCond t8
    (aCond t10
      (Q (.ret (.val (.int .i64 0))) σ)
      (Q (.ret (.val (.int .i64 (-1)))) σ))
    (aCond t10
    (Q (.ret (.val (.int .i64 1))) σ)
    (Do (aBin Go.Proofs.Try.prog .lss 9 a0 a1) fun t16 =>
  aCond t16
    (Q (.ret (.val (.int .i64 (-1)))) σ)
    (Do (aBin Go.Proofs.Try.prog .gtr 9 a0 a1) fun t19 =>
  aCond t19
    (Q (.ret (.val (.int .i64 1))) σ)
    (Q (.ret (.val (.int .i64 0))) σ))))
theorem cmp_Compare.eq (a0 a1 : AV) (σ : Store) (Q : AEnd → Store → Prop) : vc (semOf Go.Proofs.Try.prog cmp_Compare.mark) Go.Proofs.Try.f89.ntmps cmp_Compare.ann (bodyOf Go.Proofs.Try.f89) (endK [.tmp 4] Q) (argFr [a0, a1]) σ = cmp_Compare.sh a0 a1 σ Q := by kernel_rfl
theorem cmp_Compare.go {a0 a1 : AV} {σ : Store} {Q : AEnd → Store → Prop} (h : cmp_Compare.sh a0 a1 σ Q) : ACalls Go.Proofs.Try.prog 89 [a0, a1] σ Q :=
  acalls_of_eq [.tmp 4] Go.Proofs.Try.func89 (by kernel_rfl) (by kernel_rfl) (by kernel_rfl) (by kernel_rfl) (cmp_Compare.eq a0 a1 σ Q) h
def entry_byKey.mark : Mark := ⟨fun t => Nat.beq t 9, fun t => false, fun t => Nat.beq t 2 || Nat.beq t 3, fun t => Nat.beq t 6 || Nat.beq t 8, fun t => false⟩
def entry_byKey.ann : Ann := ⟨fun n => [], fun n => none, fun n => none⟩
/-- 'marlstone/entry.byKey' -/
def entry_byKey.sh (a0 a1 : AV) (σ : Store) (Q : AEnd → Store → Prop) : Prop :=
  Do (aFreeze ((a0 : AV)).cells) fun t2 =>
  Do (aFreeze ((a1 : AV)).cells) fun t3 =>
  Do (aFieldAddr 0 1 t2) fun t5 =>
  Do (loadF false 1 t5) fun t6 =>
  Do (aFieldAddr 0 1 t3) fun t7 =>
  Do (loadF false 1 t7) fun t8 =>
  Do (aPureC Go.Proofs.Try.prog 89 [t6, t8]) fun t9 =>
  Q (.ret t9) σ
theorem entry_byKey.eq (a0 a1 : AV) (σ : Store) (Q : AEnd → Store → Prop) : vc (semOf Go.Proofs.Try.prog entry_byKey.mark) Go.Proofs.Try.f74.ntmps entry_byKey.ann (bodyOf Go.Proofs.Try.f74) (endK [.tmp 4] Q) (argFr [a0, a1]) σ = entry_byKey.sh a0 a1 σ Q := by kernel_rfl
theorem entry_byKey.go {a0 a1 : AV} {σ : Store} {Q : AEnd → Store → Prop} (h : entry_byKey.sh a0 a1 σ Q) : ACalls Go.Proofs.Try.prog 74 [a0, a1] σ Q :=
  acalls_of_eq [.tmp 4] Go.Proofs.Try.func74 (by kernel_rfl) (by kernel_rfl) (by kernel_rfl) (by kernel_rfl) (entry_byKey.eq a0 a1 σ Q) h
theorem isNaN_ok (a : List UInt8) : aPure Go.Proofs.Try.prog 105 [S a] (B false) := by
  refine cmp_isNaN.go ?_
  unfold cmp_isNaN.sh
  repeat' (first | with_reducible apply Stp.go | with_reducible refine imp fun _ => ?_ | (with_reducible refine hyp ?_ ?_; first | assumption | exact leftT_mem (by assumption)) | (with_reducible refine need ?_ ?_; first | trivial | omega | exact ⟨by assumption, by omega⟩ | (simp only [List.length_append, List.length_cons, List.length_nil, List.length_map, List.length_take, List.length_drop, List.length_replicate, List.length_set]; omega)) | (with_reducible refine fact ?_ ?_; first | trivial | exact ⟨rfl, rfl⟩ | kernel_rfl) | with_reducible refine choT (by assumption) ?_ | with_reducible refine choF (by assumption) ?_ | with_reducible refine choF' (by assumption) ?_ | (with_reducible refine altT ?_ ?_; first | omega | (simp only [List.length_append, List.length_cons, List.length_nil, List.length_map, List.length_take, List.length_drop, List.length_replicate, List.length_set]; omega)) | with_reducible refine altF ?_ | with_reducible refine all fun _ => ?_ | with_reducible refine both ?_ ?_ | (with_reducible refine choT ?_ ?_; omega) | (with_reducible refine choF ?_ ?_; omega) | with_reducible refine cho (fun _ => ?_) (fun _ => ?_))
  simp
instance (a : List UInt8) : PC Go.Proofs.Try.prog 105 [S a] True (B false) := ⟨fun _ => PC.of (isNaN_ok a)⟩
theorem Compare_ok (a b : List UInt8) : aPure Go.Proofs.Try.prog 89 [S a, S b] (I .i64 (cmpK a b)) := by
  refine cmp_Compare.go ?_
  unfold cmp_Compare.sh
  repeat' (first | with_reducible apply Stp.go | with_reducible refine imp fun _ => ?_ | (with_reducible refine hyp ?_ ?_; first | assumption | exact leftT_mem (by assumption)) | (with_reducible refine need ?_ ?_; first | trivial | omega | exact ⟨by assumption, by omega⟩ | (simp only [List.length_append, List.length_cons, List.length_nil, List.length_map, List.length_take, List.length_drop, List.length_replicate, List.length_set]; omega)) | (with_reducible refine fact ?_ ?_; first | trivial | exact ⟨rfl, rfl⟩ | kernel_rfl) | with_reducible refine choT (by assumption) ?_ | with_reducible refine choF (by assumption) ?_ | with_reducible refine choF' (by assumption) ?_ | (with_reducible refine altT ?_ ?_; first | omega | (simp only [List.length_append, List.length_cons, List.length_nil, List.length_map, List.length_take, List.length_drop, List.length_replicate, List.length_set]; omega)) | with_reducible refine altF ?_ | with_reducible refine all fun _ => ?_ | with_reducible refine both ?_ ?_ | (with_reducible refine choT ?_ ?_; omega) | (with_reducible refine choF ?_ ?_; omega) | with_reducible refine cho (fun _ => ?_) (fun _ => ?_))
  all_goals (refine ⟨?_, by first | rfl | trivial⟩; simp_all [cmpK])
instance (a b : List UInt8) : PC Go.Proofs.Try.prog 89 [S a, S b] True (I .i64 (cmpK a b)) := ⟨fun _ => PC.of (Compare_ok a b)⟩
theorem byKey_ok (a b : En) : aPure Go.Proofs.Try.prog 74 [a.av, b.av] (I .i64 (cmpK a.key b.key)) := by
  refine entry_byKey.go ?_
  unfold entry_byKey.sh
  repeat' (first | with_reducible apply Stp.go | with_reducible refine imp fun _ => ?_ | (with_reducible refine hyp ?_ ?_; first | assumption | exact leftT_mem (by assumption)) | (with_reducible refine need ?_ ?_; first | trivial | omega | exact ⟨by assumption, by omega⟩ | (simp only [List.length_append, List.length_cons, List.length_nil, List.length_map, List.length_take, List.length_drop, List.length_replicate, List.length_set]; omega)) | (with_reducible refine fact ?_ ?_; first | trivial | exact ⟨rfl, rfl⟩ | kernel_rfl) | with_reducible refine choT (by assumption) ?_ | with_reducible refine choF (by assumption) ?_ | with_reducible refine choF' (by assumption) ?_ | (with_reducible refine altT ?_ ?_; first | omega | (simp only [List.length_append, List.length_cons, List.length_nil, List.length_map, List.length_take, List.length_drop, List.length_replicate, List.length_set]; omega)) | with_reducible refine altF ?_ | with_reducible refine all fun _ => ?_ | with_reducible refine both ?_ ?_ | (with_reducible refine choT ?_ ?_; omega) | (with_reducible refine choF ?_ ?_; omega) | with_reducible refine cho (fun _ => ?_) (fun _ => ?_))
  exact ⟨rfl, rfl⟩
instance (a b : En) : PC Go.Proofs.Try.prog 74 [a.av, b.av] True (I .i64 (cmpK a.key b.key)) := ⟨fun _ => PC.of (byKey_ok a b)⟩
def entry_Sorted.mark : Mark := ⟨fun t => Nat.beq t 23, fun t => false, fun t => false, fun t => Nat.beq t 17 || Nat.beq t 22, fun t => false⟩
def entry_Sorted.ann : Ann := ⟨fun n => bif Nat.beq n 2 then [0, 10, 11] else [], fun n => none, fun n => none⟩
/-- 'marlstone/entry.Sorted' -/
def entry_Sorted.sh (a0 : AV) (σ : Store) (Q : AEnd → Store → Prop) : Prop :=
  Do (aBuiltin Go.Proofs.Try.prog .len #[22] [a0]) fun t6 =>
  Do (aBuiltin Go.Proofs.Try.prog .max #[3, 3] [t6, (.val (.int .i64 1))]) fun t7 =>
  Do (aBin Go.Proofs.Try.prog .sub 3 t7 (.val (.int .i64 1))) fun t8 =>
  Do (aSlice .slice 4 a0 none (some t8) none) fun t9 =>
  Do (aBuiltin Go.Proofs.Try.prog .len #[22] [t9]) fun t10 =>
  aLoop (fun go vs σ =>
    At vs 0 fun s0 => At vs 1 fun s10 => At vs 2 fun s11 => Do (aBin Go.Proofs.Try.prog .lss 3 s11 s10) fun t12 =>
    aCond t12
      (Do (aIndexAddr .slice 4 s0 s11) fun t16 =>
    Do (loadF true 4 t16) fun t17 =>
    Do (aBin Go.Proofs.Try.prog .add 3 s11 (.val (.int .i64 1))) fun t20 =>
    Do (aIndexAddr .slice 4 s0 t20) fun t21 =>
    Do (loadF true 4 t21) fun t22 =>
    Do (aPureC Go.Proofs.Try.prog 74 [t17, t22]) fun t23 =>
    Do (aBin Go.Proofs.Try.prog .geq 3 t23 (.val (.int .i64 0))) fun t24 =>
    aCond t24
      (Q (.ret (.val (.bool false))) σ)
      (Do (aBin Go.Proofs.Try.prog .add 3 s11 (.val (.int .i64 1))) fun t25 =>
    go [s0, s10, t25] σ))
      (Q (.ret (.val (.bool true))) σ))
    [a0, t10, (.val (.int .i64 0))] σ
theorem entry_Sorted.eq (a0 : AV) (σ : Store) (Q : AEnd → Store → Prop) : vc (semOf Go.Proofs.Try.prog entry_Sorted.mark) Go.Proofs.Try.f43.ntmps entry_Sorted.ann (bodyOf Go.Proofs.Try.f43) (endK [.tmp 2] Q) (argFr [a0]) σ = entry_Sorted.sh a0 σ Q := by kernel_rfl
theorem entry_Sorted.go {a0 : AV} {σ : Store} {Q : AEnd → Store → Prop} (h : entry_Sorted.sh a0 σ Q) : ACalls Go.Proofs.Try.prog 43 [a0] σ Q :=
  acalls_of_eq [.tmp 2] Go.Proofs.Try.func43 (by kernel_rfl) (by kernel_rfl) (by kernel_rfl) (by kernel_rfl) (entry_Sorted.eq a0 σ Q) h
def ref03_Sorted.mark : Mark := ⟨fun t => false, fun t => false, fun t => false, fun t => Nat.beq t 15 || Nat.beq t 20, fun t => false⟩
def ref03_Sorted.ann : Ann := ⟨fun n => bif Nat.beq n 2 then [0, 3] else [], fun n => none, fun n => none⟩
/-- 'marlstone/marlstoneref03.Sorted' -/
def ref03_Sorted.sh (a0 : AV) (σ : Store) (Q : AEnd → Store → Prop) : Prop :=
  aLoop (fun go vs σ =>
    At vs 0 fun s0 => At vs 1 fun s3 => Do (aBuiltin Go.Proofs.Try.prog .len #[22] [s0]) fun t6 =>
    Do (aBin Go.Proofs.Try.prog .lss 3 s3 t6) fun t7 =>
    aCond t7
      (Do (aBin Go.Proofs.Try.prog .sub 3 s3 (.val (.int .i64 1))) fun t12 =>
    Do (aIndexAddr .slice 4 s0 t12) fun t13 =>
    Do (aFieldAddr 0 1 t13) fun t14 =>
    Do (loadF false 1 t14) fun t15 =>
    Do (aIndexAddr .slice 4 s0 s3) fun t18 =>
    Do (aFieldAddr 0 1 t18) fun t19 =>
    Do (loadF false 1 t19) fun t20 =>
    Do (aBin Go.Proofs.Try.prog .geq 9 t15 t20) fun t21 =>
    aCond t21
      (Q (.ret (.val (.bool false))) σ)
      (Do (aBin Go.Proofs.Try.prog .add 3 s3 (.val (.int .i64 1))) fun t9 =>
    go [s0, t9] σ))
      (Q (.ret (.val (.bool true))) σ))
    [a0, (.val (.int .i64 1))] σ
theorem ref03_Sorted.eq (a0 : AV) (σ : Store) (Q : AEnd → Store → Prop) : vc (semOf Go.Proofs.Try.prog ref03_Sorted.mark) Go.Proofs.Try.f67.ntmps ref03_Sorted.ann (bodyOf Go.Proofs.Try.f67) (endK [.tmp 2] Q) (argFr [a0]) σ = ref03_Sorted.sh a0 σ Q := by kernel_rfl
theorem ref03_Sorted.go {a0 : AV} {σ : Store} {Q : AEnd → Store → Prop} (h : ref03_Sorted.sh a0 σ Q) : ACalls Go.Proofs.Try.prog 67 [a0] σ Q :=
  acalls_of_eq [.tmp 2] Go.Proofs.Try.func67 (by kernel_rfl) (by kernel_rfl) (by kernel_rfl) (by kernel_rfl) (ref03_Sorted.eq a0 σ Q) h
theorem Sorted_ok (l : List En) (m : SM) (hl : l.length ≤ 1000000000000) : aPure Go.Proofs.Try.prog 43 [.lst 4 (l.map En.av) m] (B (sorted l)) := by
  refine entry_Sorted.go ?_
  unfold entry_Sorted.sh
  repeat' (first | with_reducible apply Stp.go | with_reducible refine imp fun _ => ?_ | (with_reducible refine hyp ?_ ?_; first | assumption | exact leftT_mem (by assumption)) | (with_reducible refine need ?_ ?_; first | trivial | omega | exact ⟨by assumption, by omega⟩ | (simp only [List.length_append, List.length_cons, List.length_nil, List.length_map, List.length_take, List.length_drop, List.length_replicate, List.length_set]; omega)) | (with_reducible refine fact ?_ ?_; first | trivial | exact ⟨rfl, rfl⟩ | kernel_rfl) | with_reducible refine choT (by assumption) ?_ | with_reducible refine choF (by assumption) ?_ | with_reducible refine choF' (by assumption) ?_ | (with_reducible refine altT ?_ ?_; first | omega | (simp only [List.length_append, List.length_cons, List.length_nil, List.length_map, List.length_take, List.length_drop, List.length_replicate, List.length_set]; omega)) | with_reducible refine altF ?_ | with_reducible refine all fun _ => ?_ | with_reducible refine both ?_ ?_ | (with_reducible refine choT ?_ ?_; omega) | (with_reducible refine choF ?_ ?_; omega) | with_reducible refine cho (fun _ => ?_) (fun _ => ?_))
  refine loopI (β := Nat) (fun i => i ≤ l.length - 1 ∧ sorted l = sorted (l.drop i)) (fun i => [.lst 4 (l.map En.av) m, I .i64 ((l.length - 1 : Nat) : Int), I .i64 (i : Nat)]) (fun _ => []) (fun i => l.length - i) 0 ⟨by omega, rfl⟩ ?_ ?_
  · have e : (l.take (max l.length 1 - 1)).length = l.length - 1 := by rw [List.length_take]; omega
    rw [e]
    exact Sub.refl _ _
  rintro i ⟨hi, hs⟩
  repeat' (first | with_reducible apply Stp.go | with_reducible refine imp fun _ => ?_ | (with_reducible refine hyp ?_ ?_; first | assumption | exact leftT_mem (by assumption)) | (with_reducible refine need ?_ ?_; first | trivial | omega | exact ⟨by assumption, by omega⟩ | (simp only [List.length_append, List.length_cons, List.length_nil, List.length_map, List.length_take, List.length_drop, List.length_replicate, List.length_set]; omega)) | (with_reducible refine fact ?_ ?_; first | trivial | exact ⟨rfl, rfl⟩ | kernel_rfl) | with_reducible refine choT (by assumption) ?_ | with_reducible refine choF (by assumption) ?_ | with_reducible refine choF' (by assumption) ?_ | (with_reducible refine altT ?_ ?_; first | omega | (simp only [List.length_append, List.length_cons, List.length_nil, List.length_map, List.length_take, List.length_drop, List.length_replicate, List.length_set]; omega)) | with_reducible refine altF ?_ | with_reducible refine all fun _ => ?_ | with_reducible refine both ?_ ?_ | (with_reducible refine choT ?_ ?_; omega) | (with_reducible refine choF ?_ ?_; omega) | with_reducible refine cho (fun _ => ?_) (fun _ => ?_))
  · rename_i h1 h
    rw [cmpK_neg] at h
    rw [hs, sorted_step (by omega), h]
    exact ⟨rfl, rfl⟩
  · rename_i h1 h
    rw [cmpK_neg, Bool.not_eq_false] at h
    refine again (i + 1) (by omega) ⟨by omega, ?_⟩ (Sub.refl _ _)
    rw [hs, sorted_step (by omega), h, Bool.true_and]
  · rw [hs, sorted_end (by omega)]
    exact ⟨rfl, rfl⟩
instance {a : AV} {l : List En} {m : SM} [h : IsL a En.av 4 l m] : PC Go.Proofs.Try.prog 43 [a] (l.length ≤ 1000000000000) (B (sorted l)) := ⟨fun hl => ⟨[.lst 4 (l.map En.av) m], ⟨h.sub, trivial⟩, Sorted_ok l m hl⟩⟩
theorem ref03_Sorted_ok (l : List En) (m : SM) (hl : l.length ≤ 1000000000000) : aPure Go.Proofs.Try.prog 67 [.lst 4 (l.map En.av) m] (B (sorted l)) := by
  refine ref03_Sorted.go ?_
  unfold ref03_Sorted.sh
  refine loopI (β := Nat) (fun i => i ≤ l.length ∧ sorted l = sorted (l.drop i)) (fun i => [.lst 4 (l.map En.av) m, I .i64 ((i + 1 : Nat) : Int)]) (fun _ => []) (fun i => l.length - i) 0 ⟨by omega, rfl⟩ (Sub.refl _ _) ?_
  rintro i ⟨hi, hs⟩
  repeat' (first | with_reducible apply Stp.go | with_reducible refine imp fun _ => ?_ | (with_reducible refine hyp ?_ ?_; first | assumption | exact leftT_mem (by assumption)) | (with_reducible refine need ?_ ?_; first | trivial | omega | exact ⟨by assumption, by omega⟩ | (simp only [List.length_append, List.length_cons, List.length_nil, List.length_map, List.length_take, List.length_drop, List.length_replicate, List.length_set]; omega)) | (with_reducible refine fact ?_ ?_; first | trivial | exact ⟨rfl, rfl⟩ | kernel_rfl) | with_reducible refine choT (by assumption) ?_ | with_reducible refine choF (by assumption) ?_ | with_reducible refine choF' (by assumption) ?_ | (with_reducible refine altT ?_ ?_; first | omega | (simp only [List.length_append, List.length_cons, List.length_nil, List.length_map, List.length_take, List.length_drop, List.length_replicate, List.length_set]; omega)) | with_reducible refine altF ?_ | with_reducible refine all fun _ => ?_ | with_reducible refine both ?_ ?_ | (with_reducible refine choT ?_ ?_; omega) | (with_reducible refine choF ?_ ?_; omega) | with_reducible refine cho (fun _ => ?_) (fun _ => ?_))
  · rename_i h1 h
    rw [Nat.add_sub_cancel] at h
    refine again (i + 1) (by omega) ⟨by omega, ?_⟩ (Sub.refl _ _)
    rw [hs, sorted_step (by omega), show lt _ _ = true from h, Bool.true_and]
  · rename_i h1 h
    rw [Nat.add_sub_cancel] at h
    rw [hs, sorted_step (by omega), show lt _ _ = false by simpa using h]
    exact ⟨rfl, rfl⟩
  · rw [hs, sorted_end (by omega)]
    exact ⟨rfl, rfl⟩
instance {a : AV} {l : List En} {m : SM} [h : IsL a En.av 4 l m] : PC Go.Proofs.Try.prog 67 [a] (l.length ≤ 1000000000000) (B (sorted l)) := ⟨fun hl => ⟨[.lst 4 (l.map En.av) m], ⟨h.sub, trivial⟩, ref03_Sorted_ok l m hl⟩⟩
end Go.Ab

/- Functions of layers 3 and 4: what is right and fit, what is the same; an entry's bytes. -/
set_option linter.unusedVariables false
set_option linter.unusedSimpArgs false
namespace Go.Ab
def ref03_Right.mark : Mark := ⟨fun t => false, fun t => false, fun t => Nat.beq t 1, fun t => Nat.beq t 4 || Nat.beq t 9 || Nat.beq t 15 || Nat.beq t 21 || Nat.beq t 25 || Nat.beq t 31 || Nat.beq t 36, fun t => false⟩
def ref03_Right.ann : Ann := ⟨fun n => [], fun n => none, fun n => none⟩
/-- 'marlstone/marlstoneref03.Right' -/
def ref03_Right.sh (a0 : AV) (σ : Store) (Q : AEnd → Store → Prop) : Prop :=
  Do (aFreeze ((a0 : AV)).cells) fun t1 =>
  Do (aFieldAddr 0 1 t1) fun t3 =>
  Do (loadF false 1 t3) fun t4 =>
  Do (aBuiltin Go.Proofs.Try.prog .len #[9] [t4]) fun t5 =>
  Do (aBin Go.Proofs.Try.prog .geq 3 t5 (.val (.int .i64 1))) fun t6 =>
  Do (aGuard t6 true (aFieldAddr 0 1 t1)) fun t8 =>
  Do (aGuard t6 true (loadF false 1 t8)) fun t9 =>
  Do (aGuard t6 true (aBuiltin Go.Proofs.Try.prog .len #[9] [t9])) fun t10 =>
  Do (aGuard t6 true (aBin Go.Proofs.Try.prog .leq 3 t10 (.val (.int .i64 128)))) fun t11 =>
  Do (aPick t6 t11 (.val (.bool false))) fun t12 =>
  Do (aGuard t12 true (aFieldAddr 1 1 t1)) fun t14 =>
  Do (aGuard t12 true (loadF false 1 t14)) fun t15 =>
  Do (aGuard t12 true (aBuiltin Go.Proofs.Try.prog .len #[9] [t15])) fun t16 =>
  Do (aGuard t12 true (aBin Go.Proofs.Try.prog .leq 3 t16 (.val (.int .i64 1024)))) fun t17 =>
  Do (aPick t12 t17 (.val (.bool false))) fun t18 =>
  Do (aGuard t18 true (aFieldAddr 2 1 t1)) fun t20 =>
  Do (aGuard t18 true (loadF false 1 t20)) fun t21 =>
  Do (aGuard t18 true (aUn Go.Proofs.Try.prog .not t21)) fun t22 =>
  Do (aGuard t18 true (aIs t22)) fun t23 =>
  Do (aGuard t23 false (aFieldAddr 1 1 t1)) fun t24 =>
  Do (aGuard t23 false (loadF false 1 t24)) fun t25 =>
  Do (aGuard t23 false (aBin Go.Proofs.Try.prog .eql 9 t25 (.val (.string ⟨#[]⟩)))) fun t26 =>
  Do (aGuard t18 true (aPick t23 (.val (.bool true)) t26)) fun t27 =>
  Do (aPick t18 t27 (.val (.bool false))) fun t28 =>
  Do (aGuard t28 true (aFieldAddr 3 1 t1)) fun t30 =>
  Do (aGuard t28 true (loadF false 1 t30)) fun t31 =>
  Do (aGuard t28 true (aBin Go.Proofs.Try.prog .geq 3 t31 (.val (.int .i64 1)))) fun t32 =>
  Do (aPick t28 t32 (.val (.bool false))) fun t33 =>
  Do (aGuard t33 true (aFieldAddr 3 1 t1)) fun t35 =>
  Do (aGuard t33 true (loadF false 1 t35)) fun t36 =>
  Do (aGuard t33 true (aBin Go.Proofs.Try.prog .leq 3 t36 (.val (.int .i64 1099511627776)))) fun t37 =>
  Do (aPick t33 t37 (.val (.bool false))) fun t38 =>
  Q (.ret t38) σ
theorem ref03_Right.eq (a0 : AV) (σ : Store) (Q : AEnd → Store → Prop) : vc (semOf Go.Proofs.Try.prog ref03_Right.mark) Go.Proofs.Try.f68.ntmps ref03_Right.ann (bodyOf Go.Proofs.Try.f68) (endK [.tmp 2] Q) (argFr [a0]) σ = ref03_Right.sh a0 σ Q := by kernel_rfl
theorem ref03_Right.go {a0 : AV} {σ : Store} {Q : AEnd → Store → Prop} (h : ref03_Right.sh a0 σ Q) : ACalls Go.Proofs.Try.prog 68 [a0] σ Q :=
  acalls_of_eq [.tmp 2] Go.Proofs.Try.func68 (by kernel_rfl) (by kernel_rfl) (by kernel_rfl) (by kernel_rfl) (ref03_Right.eq a0 σ Q) h
def block_fit_1.mark : Mark := ⟨fun t => Nat.beq t 4, fun t => false, fun t => Nat.beq t 1, fun t => Nat.beq t 3, fun t => false⟩
def block_fit_1.ann : Ann := ⟨fun n => [], fun n => none, fun n => none⟩
/-- 'marlstone/block.fit$1' -/
def block_fit_1.sh (a0 : AV) (σ : Store) (Q : AEnd → Store → Prop) : Prop :=
  Do (aFreeze ((a0 : AV)).cells) fun t1 =>
  Do (loadF true 4 t1) fun t3 =>
  Do (aPureC Go.Proofs.Try.prog 46 [t3]) fun t4 =>
  Do (aUn Go.Proofs.Try.prog .not t4) fun t5 =>
  Q (.ret t5) σ
theorem block_fit_1.eq (a0 : AV) (σ : Store) (Q : AEnd → Store → Prop) : vc (semOf Go.Proofs.Try.prog block_fit_1.mark) Go.Proofs.Try.f83.ntmps block_fit_1.ann (bodyOf Go.Proofs.Try.f83) (endK [.tmp 2] Q) (argFr [a0]) σ = block_fit_1.sh a0 σ Q := by kernel_rfl
theorem block_fit_1.go {a0 : AV} {σ : Store} {Q : AEnd → Store → Prop} (h : block_fit_1.sh a0 σ Q) : ACalls Go.Proofs.Try.prog 83 [a0] σ Q :=
  acalls_of_eq [.tmp 2] Go.Proofs.Try.func83 (by kernel_rfl) (by kernel_rfl) (by kernel_rfl) (by kernel_rfl) (block_fit_1.eq a0 σ Q) h
def slices_IndexFunc.mark : Mark := ⟨fun t => Nat.beq t 16, fun t => false, fun t => false, fun t => Nat.beq t 15, fun t => false⟩
def slices_IndexFunc.ann : Ann := ⟨fun n => bif Nat.beq n 2 then [0, 1, 7, 8] else [], fun n => none, fun n => none⟩
/-- 'slices.IndexFunc[[]marlstone/api.Entry,marlstone/api.Entry]' -/
def slices_IndexFunc.sh (a0 a1 : AV) (σ : Store) (Q : AEnd → Store → Prop) : Prop :=
  Do (aBuiltin Go.Proofs.Try.prog .len #[22] [a0]) fun t7 =>
  aLoop (fun go vs σ =>
    At vs 0 fun s0 => At vs 1 fun s1 => At vs 2 fun s7 => At vs 3 fun s8 => Do (aBin Go.Proofs.Try.prog .lss 3 s8 s7) fun t9 =>
    aCond t9
      (Do (aIndexAddr .slice 4 s0 s8) fun t14 =>
    Do (loadF true 4 t14) fun t15 =>
    Do (aPureV Go.Proofs.Try.prog s1 [t15]) fun t16 =>
    aCond t16
      (Q (.ret s8) σ)
      (Do (aBin Go.Proofs.Try.prog .add 3 s8 (.val (.int .i64 1))) fun t18 =>
    go [s0, s1, s7, t18] σ))
      (Q (.ret (.val (.int .i64 (-1)))) σ))
    [a0, a1, t7, (.val (.int .i64 0))] σ
theorem slices_IndexFunc.eq (a0 a1 : AV) (σ : Store) (Q : AEnd → Store → Prop) : vc (semOf Go.Proofs.Try.prog slices_IndexFunc.mark) Go.Proofs.Try.f75.ntmps slices_IndexFunc.ann (bodyOf Go.Proofs.Try.f75) (endK [.tmp 4] Q) (argFr [a0, a1]) σ = slices_IndexFunc.sh a0 a1 σ Q := by kernel_rfl
theorem slices_IndexFunc.go {a0 a1 : AV} {σ : Store} {Q : AEnd → Store → Prop} (h : slices_IndexFunc.sh a0 a1 σ Q) : ACalls Go.Proofs.Try.prog 75 [a0, a1] σ Q :=
  acalls_of_eq [.tmp 4] Go.Proofs.Try.func75 (by kernel_rfl) (by kernel_rfl) (by kernel_rfl) (by kernel_rfl) (slices_IndexFunc.eq a0 a1 σ Q) h
def slices_ContainsFunc.mark : Mark := ⟨fun t => Nat.beq t 7, fun t => false, fun t => false, fun t => false, fun t => false⟩
def slices_ContainsFunc.ann : Ann := ⟨fun n => [], fun n => none, fun n => none⟩
/-- 'slices.ContainsFunc[[]marlstone/api.Entry,marlstone/api.Entry]' -/
def slices_ContainsFunc.sh (a0 a1 : AV) (σ : Store) (Q : AEnd → Store → Prop) : Prop :=
  Do (aPureC Go.Proofs.Try.prog 75 [a0, a1]) fun t7 =>
  Do (aBin Go.Proofs.Try.prog .geq 3 t7 (.val (.int .i64 0))) fun t8 =>
  Q (.ret t8) σ
theorem slices_ContainsFunc.eq (a0 a1 : AV) (σ : Store) (Q : AEnd → Store → Prop) : vc (semOf Go.Proofs.Try.prog slices_ContainsFunc.mark) Go.Proofs.Try.f44.ntmps slices_ContainsFunc.ann (bodyOf Go.Proofs.Try.f44) (endK [.tmp 4] Q) (argFr [a0, a1]) σ = slices_ContainsFunc.sh a0 a1 σ Q := by kernel_rfl
theorem slices_ContainsFunc.go {a0 a1 : AV} {σ : Store} {Q : AEnd → Store → Prop} (h : slices_ContainsFunc.sh a0 a1 σ Q) : ACalls Go.Proofs.Try.prog 44 [a0, a1] σ Q :=
  acalls_of_eq [.tmp 4] Go.Proofs.Try.func44 (by kernel_rfl) (by kernel_rfl) (by kernel_rfl) (by kernel_rfl) (slices_ContainsFunc.eq a0 a1 σ Q) h
def block_fit.mark : Mark := ⟨fun t => Nat.beq t 13 || Nat.beq t 17, fun t => false, fun t => false, fun t => false, fun t => false⟩
def block_fit.ann : Ann := ⟨fun n => [], fun n => none, fun n => none⟩
/-- 'marlstone/block.fit' -/
def block_fit.sh (a0 : AV) (σ : Store) (Q : AEnd → Store → Prop) : Prop :=
  Do (aBuiltin Go.Proofs.Try.prog .len #[22] [a0]) fun t4 =>
  Do (aBin Go.Proofs.Try.prog .gtr 3 t4 (.val (.int .i64 0))) fun t5 =>
  Do (aGuard t5 true (aIs a0)) fun t7 =>
  Do (aGuard t5 true (aBuiltin Go.Proofs.Try.prog .len #[22] [t7])) fun t8 =>
  Do (aGuard t5 true (aBin Go.Proofs.Try.prog .leq 3 t8 (.val (.int .i64 64)))) fun t9 =>
  Do (aPick t5 t9 (.val (.bool false))) fun t10 =>
  Do (aGuard t10 true (aIs a0)) fun t12 =>
  Do (aGuard t10 true (aPureC Go.Proofs.Try.prog 43 [t12])) fun t13 =>
  Do (aPick t10 t13 (.val (.bool false))) fun t14 =>
  Do (aGuard t14 true (aIs a0)) fun t16 =>
  Do (aGuard t14 true (aPureC Go.Proofs.Try.prog 44 [t16, (.val (.func (.func 83) #[] #[]))])) fun t17 =>
  Do (aGuard t14 true (aUn Go.Proofs.Try.prog .not t17)) fun t18 =>
  Do (aPick t14 t18 (.val (.bool false))) fun t19 =>
  Q (.ret t19) σ
theorem block_fit.eq (a0 : AV) (σ : Store) (Q : AEnd → Store → Prop) : vc (semOf Go.Proofs.Try.prog block_fit.mark) Go.Proofs.Try.f58.ntmps block_fit.ann (bodyOf Go.Proofs.Try.f58) (endK [.tmp 2] Q) (argFr [a0]) σ = block_fit.sh a0 σ Q := by kernel_rfl
theorem block_fit.go {a0 : AV} {σ : Store} {Q : AEnd → Store → Prop} (h : block_fit.sh a0 σ Q) : ACalls Go.Proofs.Try.prog 58 [a0] σ Q :=
  acalls_of_eq [.tmp 2] Go.Proofs.Try.func58 (by kernel_rfl) (by kernel_rfl) (by kernel_rfl) (by kernel_rfl) (block_fit.eq a0 σ Q) h
def ref04_Fit.mark : Mark := ⟨fun t => Nat.beq t 15 || Nat.beq t 28, fun t => false, fun t => false, fun t => Nat.beq t 27, fun t => false⟩
def ref04_Fit.ann : Ann := ⟨fun n => bif Nat.beq n 4 then [0, 3] else [], fun n => none, fun n => none⟩
/-- 'marlstone/marlstoneref04.Fit' -/
def ref04_Fit.sh (a0 : AV) (σ : Store) (Q : AEnd → Store → Prop) : Prop :=
  Do (aBuiltin Go.Proofs.Try.prog .len #[22] [a0]) fun t6 =>
  Do (aBin Go.Proofs.Try.prog .lss 3 t6 (.val (.int .i64 1))) fun t7 =>
  Do (aGuard t7 false (aIs a0)) fun t9 =>
  Do (aGuard t7 false (aBuiltin Go.Proofs.Try.prog .len #[22] [t9])) fun t10 =>
  Do (aGuard t7 false (aBin Go.Proofs.Try.prog .gtr 3 t10 (.val (.int .i64 64)))) fun t11 =>
  Do (aPick t7 (.val (.bool true)) t11) fun t12 =>
  Do (aGuard t12 false (aIs a0)) fun t14 =>
  Do (aGuard t12 false (aPureC Go.Proofs.Try.prog 67 [t14])) fun t15 =>
  Do (aGuard t12 false (aUn Go.Proofs.Try.prog .not t15)) fun t16 =>
  Do (aPick t12 (.val (.bool true)) t16) fun t17 =>
  aCond t17
    (Q (.ret (.val (.bool false))) σ)
    (aLoop (fun go vs σ =>
    At vs 0 fun s0 => At vs 1 fun s3 => Do (aBuiltin Go.Proofs.Try.prog .len #[22] [s0]) fun t20 =>
    Do (aBin Go.Proofs.Try.prog .lss 3 s3 t20) fun t21 =>
    aCond t21
      (Do (aIndexAddr .slice 4 s0 s3) fun t26 =>
    Do (loadF true 4 t26) fun t27 =>
    Do (aPureC Go.Proofs.Try.prog 68 [t27]) fun t28 =>
    Do (aUn Go.Proofs.Try.prog .not t28) fun t30 =>
    aCond t30
      (Q (.ret (.val (.bool false))) σ)
      (Do (aBin Go.Proofs.Try.prog .add 3 s3 (.val (.int .i64 1))) fun t23 =>
    go [s0, t23] σ))
      (Q (.ret (.val (.bool true))) σ))
    [a0, (.val (.int .i64 0))] σ)
theorem ref04_Fit.eq (a0 : AV) (σ : Store) (Q : AEnd → Store → Prop) : vc (semOf Go.Proofs.Try.prog ref04_Fit.mark) Go.Proofs.Try.f35.ntmps ref04_Fit.ann (bodyOf Go.Proofs.Try.f35) (endK [.tmp 2] Q) (argFr [a0]) σ = ref04_Fit.sh a0 σ Q := by kernel_rfl
theorem ref04_Fit.go {a0 : AV} {σ : Store} {Q : AEnd → Store → Prop} (h : ref04_Fit.sh a0 σ Q) : ACalls Go.Proofs.Try.prog 35 [a0] σ Q :=
  acalls_of_eq [.tmp 2] Go.Proofs.Try.func35 (by kernel_rfl) (by kernel_rfl) (by kernel_rfl) (by kernel_rfl) (ref04_Fit.eq a0 σ Q) h
theorem ref03_Right_ok (e : En) : aPure Go.Proofs.Try.prog 68 [e.av] (B (right e)) := by
  refine ref03_Right.go ?_
  unfold ref03_Right.sh
  repeat' (first | with_reducible apply Stp.go | with_reducible refine imp fun _ => ?_ | (with_reducible refine hyp ?_ ?_; first | assumption | exact leftT_mem (by assumption)) | (with_reducible refine need ?_ ?_; first | trivial | omega | exact ⟨by assumption, by omega⟩ | (simp only [List.length_append, List.length_cons, List.length_nil, List.length_map, List.length_take, List.length_drop, List.length_replicate, List.length_set]; omega)) | (with_reducible refine fact ?_ ?_; first | trivial | exact ⟨rfl, rfl⟩ | kernel_rfl) | with_reducible refine choT (by assumption) ?_ | with_reducible refine choF (by assumption) ?_ | with_reducible refine choF' (by assumption) ?_ | (with_reducible refine altT ?_ ?_; first | omega | (simp only [List.length_append, List.length_cons, List.length_nil, List.length_map, List.length_take, List.length_drop, List.length_replicate, List.length_set]; omega)) | with_reducible refine altF ?_ | with_reducible refine all fun _ => ?_ | with_reducible refine both ?_ ?_ | (with_reducible refine choT ?_ ?_; omega) | (with_reducible refine choF ?_ ?_; omega) | with_reducible refine cho (fun _ => ?_) (fun _ => ?_))
  all_goals
    refine ⟨?_, rfl⟩
    have hk : decide (e.key ≠ []) = decide (1 ≤ e.key.length) := by
      cases e.key with
      | nil => rfl
      | cons a l => simp
    unfold right
    rw [hk]
    simp_all <;> omega
instance (e : En) : PC Go.Proofs.Try.prog 68 [e.av] True (B (right e)) := ⟨fun _ => PC.of (ref03_Right_ok e)⟩
/-- A function value that is told of one entry. -/
class Pred (P : Program) (g : AV) (p : outParam (En → Bool)) : Prop where
  h : ∀ e : En, ∃ f a b args1, calleeOf g = some (f, a, b) ∧ SubVs (a ++ [e.av] ++ b) args1 ∧ aPure P f args1 (B (p e))
theorem Pred.pure {P : Program} {g : AV} {p : En → Bool} (h : Pred P g p) (e : En) : aPureV P g [e.av] (B (p e)) := by
  obtain ⟨f, a, b, args1, h1, h2, h3⟩ := h.h e
  unfold aPureV
  rw [h1]
  exact .inl ⟨args1, h2, h3⟩
instance predV {f : FuncId} {u : En → Bool} [h : ∀ e : En, PC Go.Proofs.Try.prog f [e.av] True (B (u e))] : Pred Go.Proofs.Try.prog (.val (.func (.func f) #[] #[])) u := ⟨fun e => by
  obtain ⟨a1, h1, h2⟩ := (h e).ct trivial
  exact ⟨f, [], [], a1, rfl, by simpa using h1, h2⟩⟩
theorem fit1_ok (e : En) : aPure Go.Proofs.Try.prog 83 [e.av] (B (!right e)) := by
  refine block_fit_1.go ?_
  unfold block_fit_1.sh
  repeat' (first | with_reducible apply Stp.go | with_reducible refine imp fun _ => ?_ | (with_reducible refine hyp ?_ ?_; first | assumption | exact leftT_mem (by assumption)) | (with_reducible refine need ?_ ?_; first | trivial | omega | exact ⟨by assumption, by omega⟩ | (simp only [List.length_append, List.length_cons, List.length_nil, List.length_map, List.length_take, List.length_drop, List.length_replicate, List.length_set]; omega)) | (with_reducible refine fact ?_ ?_; first | trivial | exact ⟨rfl, rfl⟩ | kernel_rfl) | with_reducible refine choT (by assumption) ?_ | with_reducible refine choF (by assumption) ?_ | with_reducible refine choF' (by assumption) ?_ | (with_reducible refine altT ?_ ?_; first | omega | (simp only [List.length_append, List.length_cons, List.length_nil, List.length_map, List.length_take, List.length_drop, List.length_replicate, List.length_set]; omega)) | with_reducible refine altF ?_ | with_reducible refine all fun _ => ?_ | with_reducible refine both ?_ ?_ | (with_reducible refine choT ?_ ?_; omega) | (with_reducible refine choF ?_ ?_; omega) | with_reducible refine cho (fun _ => ?_) (fun _ => ?_))
  exact ⟨rfl, rfl⟩
instance (e : En) : PC Go.Proofs.Try.prog 83 [e.av] True (B (!right e)) := ⟨fun _ => PC.of (fit1_ok e)⟩
theorem IndexFunc_ok (l : List En) (m : SM) (hl : l.length ≤ 1000000000000) (g : AV) (p : En → Bool) (hg : Pred Go.Proofs.Try.prog g p) :
    aPure Go.Proofs.Try.prog 75 [.lst 4 (l.map En.av) m, g] (I .i64 (idx p l)) := by
  refine slices_IndexFunc.go ?_
  unfold slices_IndexFunc.sh
  have step : ∀ (e : En) (K : AV → Prop), K (B (p e)) → Do (aPureV Go.Proofs.Try.prog g [e.av]) K := fun e K hK => ⟨_, hg.pure e, hK⟩
  repeat' (first | with_reducible apply Stp.go | with_reducible refine imp fun _ => ?_ | (with_reducible refine hyp ?_ ?_; first | assumption | exact leftT_mem (by assumption)) | (with_reducible refine need ?_ ?_; first | trivial | omega | exact ⟨by assumption, by omega⟩ | (simp only [List.length_append, List.length_cons, List.length_nil, List.length_map, List.length_take, List.length_drop, List.length_replicate, List.length_set]; omega)) | (with_reducible refine fact ?_ ?_; first | trivial | exact ⟨rfl, rfl⟩ | kernel_rfl) | with_reducible refine choT (by assumption) ?_ | with_reducible refine choF (by assumption) ?_ | with_reducible refine choF' (by assumption) ?_ | (with_reducible refine altT ?_ ?_; first | omega | (simp only [List.length_append, List.length_cons, List.length_nil, List.length_map, List.length_take, List.length_drop, List.length_replicate, List.length_set]; omega)) | with_reducible refine altF ?_ | with_reducible refine all fun _ => ?_ | with_reducible refine both ?_ ?_ | (with_reducible refine choT ?_ ?_; omega) | (with_reducible refine choF ?_ ?_; omega) | with_reducible refine cho (fun _ => ?_) (fun _ => ?_))
  refine loopI (β := Nat) (fun i => i ≤ l.length ∧ idx p l = (if idx p (l.drop i) < 0 then -1 else idx p (l.drop i) + i)) (fun i => [.lst 4 (l.map En.av) m, g, I .i64 (l.length : Nat), I .i64 (i : Nat)]) (fun _ => []) (fun i => l.length - i) 0 ⟨by omega, ?_⟩ (Sub.refl _ _) ?_
  · have := idx_lt p l
    simp only [List.drop_zero]
    split <;> omega
  rintro i ⟨hi, hs⟩
  repeat' (first | with_reducible apply Stp.go | with_reducible refine imp fun _ => ?_ | (with_reducible refine hyp ?_ ?_; first | assumption | exact leftT_mem (by assumption)) | (with_reducible refine need ?_ ?_; first | trivial | omega | exact ⟨by assumption, by omega⟩ | (simp only [List.length_append, List.length_cons, List.length_nil, List.length_map, List.length_take, List.length_drop, List.length_replicate, List.length_set]; omega)) | (with_reducible refine fact ?_ ?_; first | trivial | exact ⟨rfl, rfl⟩ | kernel_rfl) | with_reducible refine choT (by assumption) ?_ | with_reducible refine choF (by assumption) ?_ | with_reducible refine choF' (by assumption) ?_ | (with_reducible refine altT ?_ ?_; first | omega | (simp only [List.length_append, List.length_cons, List.length_nil, List.length_map, List.length_take, List.length_drop, List.length_replicate, List.length_set]; omega)) | with_reducible refine altF ?_ | with_reducible refine all fun _ => ?_ | with_reducible refine both ?_ ?_ | (with_reducible refine choT ?_ ?_; omega) | (with_reducible refine choF ?_ ?_; omega) | with_reducible refine cho (fun _ => ?_) (fun _ => ?_))
  · refine step _ _ ?_
    rename_i h1
    repeat' (first | with_reducible apply Stp.go | with_reducible refine imp fun _ => ?_ | (with_reducible refine hyp ?_ ?_; first | assumption | exact leftT_mem (by assumption)) | (with_reducible refine need ?_ ?_; first | trivial | omega | exact ⟨by assumption, by omega⟩ | (simp only [List.length_append, List.length_cons, List.length_nil, List.length_map, List.length_take, List.length_drop, List.length_replicate, List.length_set]; omega)) | (with_reducible refine fact ?_ ?_; first | trivial | exact ⟨rfl, rfl⟩ | kernel_rfl) | with_reducible refine choT (by assumption) ?_ | with_reducible refine choF (by assumption) ?_ | with_reducible refine choF' (by assumption) ?_ | (with_reducible refine altT ?_ ?_; first | omega | (simp only [List.length_append, List.length_cons, List.length_nil, List.length_map, List.length_take, List.length_drop, List.length_replicate, List.length_set]; omega)) | with_reducible refine altF ?_ | with_reducible refine all fun _ => ?_ | with_reducible refine both ?_ ?_ | (with_reducible refine choT ?_ ?_; omega) | (with_reducible refine choF ?_ ?_; omega) | with_reducible refine cho (fun _ => ?_) (fun _ => ?_))
    · rename_i h
      rw [drop_cons (show i < l.length by omega)] at hs
      simp only [idx, h, if_true] at hs
      refine ⟨?_, rfl⟩
      rw [hs]
      simp
    · rename_i h
      refine again (i + 1) (by omega) ⟨by omega, ?_⟩ (Sub.refl _ _)
      rw [hs, drop_cons (show i < l.length by omega)]
      have := idx_lt p (l.drop (i + 1))
      simp only [idx, h, Bool.false_eq_true, if_false]
      split <;> split <;> rename_i h2 h3 <;> (try split at h2) <;> omega
  · have : l.drop i = [] := List.drop_of_length_le (by omega)
    rw [hs, this]
    exact ⟨rfl, rfl⟩
instance {a g : AV} {l : List En} {m : SM} {p : En → Bool} [h : IsL a En.av 4 l m] [hg : Pred Go.Proofs.Try.prog g p] : PC Go.Proofs.Try.prog 75 [a, g] (l.length ≤ 1000000000000) (I .i64 (idx p l)) :=
  ⟨fun hl => ⟨[.lst 4 (l.map En.av) m, g], ⟨h.sub, SubVs.refl _⟩, IndexFunc_ok l m hl g p hg⟩⟩
theorem ContainsFunc_ok (l : List En) (m : SM) (hl : l.length ≤ 1000000000000) (g : AV) (p : En → Bool) (hg : Pred Go.Proofs.Try.prog g p) :
    aPure Go.Proofs.Try.prog 44 [.lst 4 (l.map En.av) m, g] (B (l.any p)) := by
  refine slices_ContainsFunc.go ?_
  unfold slices_ContainsFunc.sh
  repeat' (first | with_reducible apply Stp.go | with_reducible refine imp fun _ => ?_ | (with_reducible refine hyp ?_ ?_; first | assumption | exact leftT_mem (by assumption)) | (with_reducible refine need ?_ ?_; first | trivial | omega | exact ⟨by assumption, by omega⟩ | (simp only [List.length_append, List.length_cons, List.length_nil, List.length_map, List.length_take, List.length_drop, List.length_replicate, List.length_set]; omega)) | (with_reducible refine fact ?_ ?_; first | trivial | exact ⟨rfl, rfl⟩ | kernel_rfl) | with_reducible refine choT (by assumption) ?_ | with_reducible refine choF (by assumption) ?_ | with_reducible refine choF' (by assumption) ?_ | (with_reducible refine altT ?_ ?_; first | omega | (simp only [List.length_append, List.length_cons, List.length_nil, List.length_map, List.length_take, List.length_drop, List.length_replicate, List.length_set]; omega)) | with_reducible refine altF ?_ | with_reducible refine all fun _ => ?_ | with_reducible refine both ?_ ?_ | (with_reducible refine choT ?_ ?_; omega) | (with_reducible refine choF ?_ ?_; omega) | with_reducible refine cho (fun _ => ?_) (fun _ => ?_))
  have e : decide (0 ≤ idx p l) = l.any p := by rw [Bool.eq_iff_iff]; simpa using idx_any p l
  rw [e]
  exact ⟨rfl, rfl⟩
instance {a g : AV} {l : List En} {m : SM} {p : En → Bool} [h : IsL a En.av 4 l m] [hg : Pred Go.Proofs.Try.prog g p] : PC Go.Proofs.Try.prog 44 [a, g] (l.length ≤ 1000000000000) (B (l.any p)) :=
  ⟨fun hl => ⟨[.lst 4 (l.map En.av) m, g], ⟨h.sub, SubVs.refl _⟩, ContainsFunc_ok l m hl g p hg⟩⟩
theorem all_right (l : List En) : (!l.any fun e => !right e) = l.all right := by
  rw [List.any_eq_not_all_not]
  simp
theorem fit_ok (l : List En) (m : SM) (hl : l.length ≤ 1000000000000) : aPure Go.Proofs.Try.prog 58 [.lst 4 (l.map En.av) m] (B (fit l)) := by
  refine block_fit.go ?_
  unfold block_fit.sh
  repeat' (first | with_reducible apply Stp.go | with_reducible refine imp fun _ => ?_ | (with_reducible refine hyp ?_ ?_; first | assumption | exact leftT_mem (by assumption)) | (with_reducible refine need ?_ ?_; first | trivial | omega | exact ⟨by assumption, by omega⟩ | (simp only [List.length_append, List.length_cons, List.length_nil, List.length_map, List.length_take, List.length_drop, List.length_replicate, List.length_set]; omega)) | (with_reducible refine fact ?_ ?_; first | trivial | exact ⟨rfl, rfl⟩ | kernel_rfl) | with_reducible refine choT (by assumption) ?_ | with_reducible refine choF (by assumption) ?_ | with_reducible refine choF' (by assumption) ?_ | (with_reducible refine altT ?_ ?_; first | omega | (simp only [List.length_append, List.length_cons, List.length_nil, List.length_map, List.length_take, List.length_drop, List.length_replicate, List.length_set]; omega)) | with_reducible refine altF ?_ | with_reducible refine all fun _ => ?_ | with_reducible refine both ?_ ?_ | (with_reducible refine choT ?_ ?_; omega) | (with_reducible refine choF ?_ ?_; omega) | with_reducible refine cho (fun _ => ?_) (fun _ => ?_))
  · rename_i h1 h2 h
    refine ⟨?_, rfl⟩
    rw [all_right]
    unfold fit
    rw [h, decide_eq_true (show 0 < l.length by omega), decide_eq_true (show l.length ≤ 64 by omega)]
    simp
  · rename_i h1 h2 h
    refine ⟨?_, rfl⟩
    simp [fit, h]
  · rename_i h1 h2
    refine ⟨?_, rfl⟩
    simp [fit, h2]
  · rename_i h1
    refine ⟨?_, rfl⟩
    have : l.length = 0 := by omega
    simp [fit, this]
instance {a : AV} {l : List En} {m : SM} [h : IsL a En.av 4 l m] : PC Go.Proofs.Try.prog 58 [a] (l.length ≤ 1000000000000) (B (fit l)) := ⟨fun hl => ⟨[.lst 4 (l.map En.av) m], ⟨h.sub, trivial⟩, fit_ok l m hl⟩⟩
theorem Fit_ok (l : List En) (m : SM) (hl : l.length ≤ 1000000000000) : aPure Go.Proofs.Try.prog 35 [.lst 4 (l.map En.av) m] (B (fit l)) := by
  refine ref04_Fit.go ?_
  unfold ref04_Fit.sh
  repeat' (first | with_reducible apply Stp.go | with_reducible refine imp fun _ => ?_ | (with_reducible refine hyp ?_ ?_; first | assumption | exact leftT_mem (by assumption)) | (with_reducible refine need ?_ ?_; first | trivial | omega | exact ⟨by assumption, by omega⟩ | (simp only [List.length_append, List.length_cons, List.length_nil, List.length_map, List.length_take, List.length_drop, List.length_replicate, List.length_set]; omega)) | (with_reducible refine fact ?_ ?_; first | trivial | exact ⟨rfl, rfl⟩ | kernel_rfl) | with_reducible refine choT (by assumption) ?_ | with_reducible refine choF (by assumption) ?_ | with_reducible refine choF' (by assumption) ?_ | (with_reducible refine altT ?_ ?_; first | omega | (simp only [List.length_append, List.length_cons, List.length_nil, List.length_map, List.length_take, List.length_drop, List.length_replicate, List.length_set]; omega)) | with_reducible refine altF ?_ | with_reducible refine all fun _ => ?_ | with_reducible refine both ?_ ?_ | (with_reducible refine choT ?_ ?_; omega) | (with_reducible refine choF ?_ ?_; omega) | with_reducible refine cho (fun _ => ?_) (fun _ => ?_))
  · rename_i h1
    refine ⟨?_, rfl⟩
    have : l.length = 0 := by omega
    simp [fit, this]
  · rename_i h1 h2
    refine ⟨?_, rfl⟩
    have : ¬ l.length ≤ 64 := by omega
    simp [fit, this]
  · rename_i h1 h2 h
    have hf : fit l = l.all right := by
      unfold fit
      rw [h, decide_eq_true (show 0 < l.length by omega), decide_eq_true (show l.length ≤ 64 by omega)]
      simp
    rw [hf]
    refine loopI (β := Nat) (fun i => i ≤ l.length ∧ l.all right = (l.drop i).all right) (fun i => [.lst 4 (l.map En.av) m, I .i64 (i : Nat)]) (fun _ => []) (fun i => l.length - i) 0 ⟨by omega, rfl⟩ (Sub.refl _ _) ?_
    rintro i ⟨hi, hs⟩
    repeat' (first | with_reducible apply Stp.go | with_reducible refine imp fun _ => ?_ | (with_reducible refine hyp ?_ ?_; first | assumption | exact leftT_mem (by assumption)) | (with_reducible refine need ?_ ?_; first | trivial | omega | exact ⟨by assumption, by omega⟩ | (simp only [List.length_append, List.length_cons, List.length_nil, List.length_map, List.length_take, List.length_drop, List.length_replicate, List.length_set]; omega)) | (with_reducible refine fact ?_ ?_; first | trivial | exact ⟨rfl, rfl⟩ | kernel_rfl) | with_reducible refine choT (by assumption) ?_ | with_reducible refine choF (by assumption) ?_ | with_reducible refine choF' (by assumption) ?_ | (with_reducible refine altT ?_ ?_; first | omega | (simp only [List.length_append, List.length_cons, List.length_nil, List.length_map, List.length_take, List.length_drop, List.length_replicate, List.length_set]; omega)) | with_reducible refine altF ?_ | with_reducible refine all fun _ => ?_ | with_reducible refine both ?_ ?_ | (with_reducible refine choT ?_ ?_; omega) | (with_reducible refine choF ?_ ?_; omega) | with_reducible refine cho (fun _ => ?_) (fun _ => ?_))
    · rename_i h4 h5
      refine again (i + 1) (by omega) ⟨by omega, ?_⟩ (Sub.refl _ _)
      rw [hs, drop_cons (show i < l.length by omega), List.all_cons, h5, Bool.true_and]
    · rename_i h4 h5
      rw [hs, drop_cons (show i < l.length by omega), List.all_cons, show right _ = false by simpa using h5]
      exact ⟨rfl, rfl⟩
    · have : l.drop i = [] := List.drop_of_length_le (by omega)
      rw [hs, this]
      exact ⟨rfl, rfl⟩
  · rename_i h1 h2 h
    refine ⟨?_, rfl⟩
    have : sorted l = false := by simpa using h
    simp [fit, this]
instance {a : AV} {l : List En} {m : SM} [h : IsL a En.av 4 l m] : PC Go.Proofs.Try.prog 35 [a] (l.length ≤ 1000000000000) (B (fit l)) := ⟨fun hl => ⟨[.lst 4 (l.map En.av) m], ⟨h.sub, trivial⟩, Fit_ok l m hl⟩⟩
def ref03_Same.mark : Mark := ⟨fun t => false, fun t => false, fun t => false, fun t => Nat.beq t 20 || Nat.beq t 24, fun t => false⟩
def ref03_Same.ann : Ann := ⟨fun n => bif Nat.beq n 4 then [0, 1, 5] else [], fun n => none, fun n => none⟩
/-- 'marlstone/marlstoneref03.Same' -/
def ref03_Same.sh (a0 a1 : AV) (σ : Store) (Q : AEnd → Store → Prop) : Prop :=
  Do (aBuiltin Go.Proofs.Try.prog .len #[22] [a0]) fun t7 =>
  Do (aBuiltin Go.Proofs.Try.prog .len #[22] [a1]) fun t9 =>
  Do (aBin Go.Proofs.Try.prog .neq 3 t7 t9) fun t10 =>
  aCond t10
    (Q (.ret (.val (.bool false))) σ)
    (aLoop (fun go vs σ =>
    At vs 0 fun s0 => At vs 1 fun s1 => At vs 2 fun s5 => Do (aBuiltin Go.Proofs.Try.prog .len #[22] [s0]) fun t13 =>
    Do (aBin Go.Proofs.Try.prog .lss 3 s5 t13) fun t14 =>
    aCond t14
      (Do (aIndexAddr .slice 4 s0 s5) fun t19 =>
    Do (loadF true 4 t19) fun t20 =>
    Do (aIndexAddr .slice 4 s1 s5) fun t23 =>
    Do (loadF true 4 t23) fun t24 =>
    Do (aBin Go.Proofs.Try.prog .neq 52 t20 t24) fun t25 =>
    aCond t25
      (Q (.ret (.val (.bool false))) σ)
      (Do (aBin Go.Proofs.Try.prog .add 3 s5 (.val (.int .i64 1))) fun t16 =>
    go [s0, s1, t16] σ))
      (Q (.ret (.val (.bool true))) σ))
    [a0, a1, (.val (.int .i64 0))] σ)
theorem ref03_Same.eq (a0 a1 : AV) (σ : Store) (Q : AEnd → Store → Prop) : vc (semOf Go.Proofs.Try.prog ref03_Same.mark) Go.Proofs.Try.f19.ntmps ref03_Same.ann (bodyOf Go.Proofs.Try.f19) (endK [.tmp 4] Q) (argFr [a0, a1]) σ = ref03_Same.sh a0 a1 σ Q := by kernel_rfl
theorem ref03_Same.go {a0 a1 : AV} {σ : Store} {Q : AEnd → Store → Prop} (h : ref03_Same.sh a0 a1 σ Q) : ACalls Go.Proofs.Try.prog 19 [a0, a1] σ Q :=
  acalls_of_eq [.tmp 4] Go.Proofs.Try.func19 (by kernel_rfl) (by kernel_rfl) (by kernel_rfl) (by kernel_rfl) (ref03_Same.eq a0 a1 σ Q) h
theorem Same_ok (a b : List En) (m m' : SM) (ha : a.length ≤ 1000000000000) : aPure Go.Proofs.Try.prog 19 [.lst 4 (a.map En.av) m, .lst 4 (b.map En.av) m'] (B (decide (a = b))) := by
  refine ref03_Same.go ?_
  unfold ref03_Same.sh
  repeat' (first | with_reducible apply Stp.go | with_reducible refine imp fun _ => ?_ | (with_reducible refine hyp ?_ ?_; first | assumption | exact leftT_mem (by assumption)) | (with_reducible refine need ?_ ?_; first | trivial | omega | exact ⟨by assumption, by omega⟩ | (simp only [List.length_append, List.length_cons, List.length_nil, List.length_map, List.length_take, List.length_drop, List.length_replicate, List.length_set]; omega)) | (with_reducible refine fact ?_ ?_; first | trivial | exact ⟨rfl, rfl⟩ | kernel_rfl) | with_reducible refine choT (by assumption) ?_ | with_reducible refine choF (by assumption) ?_ | with_reducible refine choF' (by assumption) ?_ | (with_reducible refine altT ?_ ?_; first | omega | (simp only [List.length_append, List.length_cons, List.length_nil, List.length_map, List.length_take, List.length_drop, List.length_replicate, List.length_set]; omega)) | with_reducible refine altF ?_ | with_reducible refine all fun _ => ?_ | with_reducible refine both ?_ ?_ | (with_reducible refine choT ?_ ?_; omega) | (with_reducible refine choF ?_ ?_; omega) | with_reducible refine cho (fun _ => ?_) (fun _ => ?_))
  · rename_i h
    have hab : a.length = b.length := h
    refine loopI (β := Nat) (fun i => i ≤ a.length ∧ decide (a = b) = decide (a.drop i = b.drop i)) (fun i => [.lst 4 (a.map En.av) m, .lst 4 (b.map En.av) m', I .i64 (i : Nat)]) (fun _ => []) (fun i => a.length - i) 0 ⟨by omega, rfl⟩ (Sub.refl _ _) ?_
    rintro i ⟨hi, hs⟩
    repeat' (first | with_reducible apply Stp.go | with_reducible refine imp fun _ => ?_ | (with_reducible refine hyp ?_ ?_; first | assumption | exact leftT_mem (by assumption)) | (with_reducible refine need ?_ ?_; first | trivial | omega | exact ⟨by assumption, by omega⟩ | (simp only [List.length_append, List.length_cons, List.length_nil, List.length_map, List.length_take, List.length_drop, List.length_replicate, List.length_set]; omega)) | (with_reducible refine fact ?_ ?_; first | trivial | exact ⟨rfl, rfl⟩ | kernel_rfl) | with_reducible refine choT (by assumption) ?_ | with_reducible refine choF (by assumption) ?_ | with_reducible refine choF' (by assumption) ?_ | (with_reducible refine altT ?_ ?_; first | omega | (simp only [List.length_append, List.length_cons, List.length_nil, List.length_map, List.length_take, List.length_drop, List.length_replicate, List.length_set]; omega)) | with_reducible refine altF ?_ | with_reducible refine all fun _ => ?_ | with_reducible refine both ?_ ?_ | (with_reducible refine choT ?_ ?_; omega) | (with_reducible refine choF ?_ ?_; omega) | with_reducible refine cho (fun _ => ?_) (fun _ => ?_))
    · rename_i h1 h2
      refine again (i + 1) (by omega) ⟨by omega, ?_⟩ (Sub.refl _ _)
      rw [hs, drop_cons (show i < a.length by omega), drop_cons (show i < b.length by omega), h2]
      simp
    · rename_i h1 h2
      rw [hs, drop_cons (show i < a.length by omega), drop_cons (show i < b.length by omega)]
      refine ⟨?_, rfl⟩
      simp only [List.cons.injEq, eq_false h2, false_and, decide_false]
    · have e1 : a.drop i = [] := List.drop_of_length_le (by omega)
      have e2 : b.drop i = [] := List.drop_of_length_le (by omega)
      rw [hs, e1, e2]
      exact ⟨rfl, rfl⟩
  · rename_i h
    have : ¬ a = b := fun e => h (by rw [e])
    exact ⟨by simp [this], rfl⟩
end Go.Ab

/- An entry's bytes; few entries. -/
set_option linter.unusedVariables false
set_option linter.unusedSimpArgs false
namespace Go.Ab
def entry_Bytes.mark : Mark := ⟨fun t => Nat.beq t 5, fun t => Nat.beq t 7, fun t => Nat.beq t 1, fun t => Nat.beq t 4 || Nat.beq t 9 || Nat.beq t 14 || Nat.beq t 18 || Nat.beq t 21 || Nat.beq t 25, fun t => false⟩
def entry_Bytes.ann : Ann := ⟨fun n => [], fun n => bif Nat.beq n 6 then some [1, 3] else none, fun n => none⟩
/-- 'marlstone/entry.Bytes' -/
def entry_Bytes.sh (a0 : AV) (σ : Store) (Q : AEnd → Store → Prop) : Prop :=
  Do (aFreeze ((a0 : AV)).cells) fun t1 =>
  Do (loadF true 4 t1) fun t4 =>
  Do (aPureC Go.Proofs.Try.prog 46 [t4]) fun t5 =>
  Do (aUn Go.Proofs.Try.prog .not t5) fun t6 =>
  aCond t6
    (Q (.ret (.val (.slice none 0 0))) σ)
    (aRowL 5 (mkE [.val (.int .u8 0)]) 1 1 [(0, (W8 0))] σ fun t7 σ =>
  aJoin (fun j =>
    Do (aFieldAddr 2 1 t1) fun t8 =>
    Do (loadF false 1 t8) fun t9 =>
    aCond t9
      (Do (aIndexAddr .slice 1 t7 (.val (.int .i64 0))) fun t11 =>
      storeA 1 t11 (W8 1) σ fun u σ_2 =>
      j [t1, t7] σ_2)
      (j [t1, t7] σ)) fun vs σ_1 =>
  At vs 0 fun s1 => At vs 1 fun s3 => Do (aFieldAddr 3 1 s1) fun t13 =>
  Do (loadF false 1 t13) fun t14 =>
  Do (fun x => aConvN 3 71 t14 x Go.Proofs.Try.prog) fun t15 =>
  Do (aFieldAddr 0 1 s1) fun t17 =>
  Do (loadF false 1 t17) fun t18 =>
  aCall Go.Proofs.Try.prog 32 [s3, t15] σ_1 (fun t16 σ_3 =>
  aCall Go.Proofs.Try.prog 33 [t16, t18] σ_3 (fun t19 σ_4 =>
  Do (aFieldAddr 2 1 s1) fun t20 =>
  Do (loadF false 1 t20) fun t21 =>
  Do (aUn Go.Proofs.Try.prog .not t21) fun t22 =>
  aCond t22
    (Do (aFieldAddr 1 1 s1) fun t24 =>
    Do (loadF false 1 t24) fun t25 =>
    aCall Go.Proofs.Try.prog 33 [t19, t25] σ_4 (fun t26 σ_5 =>
    Q (.ret t26) σ_5) (fun e σ_6 => Q (.pan e) σ_6))
    (Q (.ret t19) σ_4)) (fun e_1 σ_7 => Q (.pan e_1) σ_7)) (fun e_2 σ_8 => Q (.pan e_2) σ_8))
theorem entry_Bytes.eq (a0 : AV) (σ : Store) (Q : AEnd → Store → Prop) : vc (semOf Go.Proofs.Try.prog entry_Bytes.mark) Go.Proofs.Try.f41.ntmps entry_Bytes.ann (bodyOf Go.Proofs.Try.f41) (endK [.tmp 2] Q) (argFr [a0]) σ = entry_Bytes.sh a0 σ Q := by kernel_rfl
theorem entry_Bytes.go {a0 : AV} {σ : Store} {Q : AEnd → Store → Prop} (h : entry_Bytes.sh a0 σ Q) : ACalls Go.Proofs.Try.prog 41 [a0] σ Q :=
  acalls_of_eq [.tmp 2] Go.Proofs.Try.func41 (by kernel_rfl) (by kernel_rfl) (by kernel_rfl) (by kernel_rfl) (entry_Bytes.eq a0 σ Q) h
def ref03_Bytes.mark : Mark := ⟨fun t => Nat.beq t 5 || Nat.beq t 15 || Nat.beq t 18 || Nat.beq t 24 || Nat.beq t 27 || Nat.beq t 30, fun t => false, fun t => Nat.beq t 1, fun t => Nat.beq t 4 || Nat.beq t 9 || Nat.beq t 13 || Nat.beq t 17 || Nat.beq t 22 || Nat.beq t 26 || Nat.beq t 29, fun t => false⟩
def ref03_Bytes.ann : Ann := ⟨fun n => [], fun n => none, fun n => none⟩
/-- 'marlstone/marlstoneref03.Bytes' -/
def ref03_Bytes.sh (a0 : AV) (σ : Store) (Q : AEnd → Store → Prop) : Prop :=
  Do (aFreeze ((a0 : AV)).cells) fun t1 =>
  Do (loadF true 4 t1) fun t4 =>
  Do (aPureC Go.Proofs.Try.prog 68 [t4]) fun t5 =>
  Do (aUn Go.Proofs.Try.prog .not t5) fun t7 =>
  aCond t7
    (Q (.ret (.val (.string ⟨#[]⟩))) σ)
    (Do (aFieldAddr 2 1 t1) fun t8 =>
  Do (loadF false 1 t8) fun t9 =>
  aCond t9
    (Do (aSlLit (mkE [.val (.int .u8 0)]) 1 1 [(0, (W8 1))]) fun t10 =>
    Do (aConvBS t10) fun t11 =>
    Do (aFieldAddr 3 1 t1) fun t12 =>
    Do (loadF false 1 t12) fun t13 =>
    Do (fun x => aConvN 3 71 t13 x Go.Proofs.Try.prog) fun t14 =>
    Do (aPureC Go.Proofs.Try.prog 37 [t11, t14]) fun t15 =>
    Do (aFieldAddr 0 1 t1) fun t16 =>
    Do (loadF false 1 t16) fun t17 =>
    Do (aPureC Go.Proofs.Try.prog 38 [t15, t17]) fun t18 =>
    Q (.ret t18) σ)
    (Do (aSlLit (mkE [.val (.int .u8 0)]) 1 1 [(0, (W8 0))]) fun t19 =>
  Do (aConvBS t19) fun t20 =>
  Do (aFieldAddr 3 1 t1) fun t21 =>
  Do (loadF false 1 t21) fun t22 =>
  Do (fun x => aConvN 3 71 t22 x Go.Proofs.Try.prog) fun t23 =>
  Do (aPureC Go.Proofs.Try.prog 37 [t20, t23]) fun t24 =>
  Do (aFieldAddr 0 1 t1) fun t25 =>
  Do (loadF false 1 t25) fun t26 =>
  Do (aPureC Go.Proofs.Try.prog 38 [t24, t26]) fun t27 =>
  Do (aFieldAddr 1 1 t1) fun t28 =>
  Do (loadF false 1 t28) fun t29 =>
  Do (aPureC Go.Proofs.Try.prog 38 [t27, t29]) fun t30 =>
  Q (.ret t30) σ))
theorem ref03_Bytes.eq (a0 : AV) (σ : Store) (Q : AEnd → Store → Prop) : vc (semOf Go.Proofs.Try.prog ref03_Bytes.mark) Go.Proofs.Try.f42.ntmps ref03_Bytes.ann (bodyOf Go.Proofs.Try.f42) (endK [.tmp 2] Q) (argFr [a0]) σ = ref03_Bytes.sh a0 σ Q := by kernel_rfl
theorem ref03_Bytes.go {a0 : AV} {σ : Store} {Q : AEnd → Store → Prop} (h : ref03_Bytes.sh a0 σ Q) : ACalls Go.Proofs.Try.prog 42 [a0] σ Q :=
  acalls_of_eq [.tmp 2] Go.Proofs.Try.func42 (by kernel_rfl) (by kernel_rfl) (by kernel_rfl) (by kernel_rfl) (ref03_Bytes.eq a0 σ Q) h
theorem entry_Bytes_ok (e : En) : aPure Go.Proofs.Try.prog 41 [e.av] (.lst 1 ((enB e).map byt) .ro) := by
  refine ACalls.fin (entry_Bytes.go ?_)
  unfold entry_Bytes.sh
  repeat' (first | with_reducible apply Stp.go | with_reducible refine imp fun _ => ?_ | (with_reducible refine hyp ?_ ?_; first | assumption | exact leftT_mem (by assumption)) | (with_reducible refine need ?_ ?_; first | trivial | omega | exact ⟨by assumption, by omega⟩ | (simp only [List.length_append, List.length_cons, List.length_nil, List.length_map, List.length_take, List.length_drop, List.length_replicate, List.length_set]; omega)) | (with_reducible refine fact ?_ ?_; first | trivial | exact ⟨rfl, rfl⟩ | kernel_rfl) | with_reducible refine choT (by assumption) ?_ | with_reducible refine choF (by assumption) ?_ | with_reducible refine choF' (by assumption) ?_ | (with_reducible refine altT ?_ ?_; first | omega | (simp only [List.length_append, List.length_cons, List.length_nil, List.length_map, List.length_take, List.length_drop, List.length_replicate, List.length_set]; omega)) | with_reducible refine altF ?_ | with_reducible refine all fun _ => ?_ | with_reducible refine both ?_ ?_ | (with_reducible refine choT ?_ ?_; omega) | (with_reducible refine choF ?_ ?_; omega) | with_reducible refine cho (fun _ => ?_) (fun _ => ?_))
  · rename_i h v
    obtain ⟨k0, k1, k2, k3, k4, k5⟩ := right_bounds h
    have hp := put_len64 (v := e.seq.toNat) (by omega)
    have hp2 := put_len64 (v := e.key.length) (by omega)
    refine joinI (β := Unit) (fun _ => True) (fun _ => [.rptr e.cs, .own v 1]) (fun _ => [.row v 5 1 ([if e.del = true then (1 : UInt8) else 0].map byt) 0]) ?_ ?_
    · repeat' (first | with_reducible apply Stp.go | with_reducible refine imp fun _ => ?_ | (with_reducible refine hyp ?_ ?_; first | assumption | exact leftT_mem (by assumption)) | (with_reducible refine need ?_ ?_; first | trivial | omega | exact ⟨by assumption, by omega⟩ | (simp only [List.length_append, List.length_cons, List.length_nil, List.length_map, List.length_take, List.length_drop, List.length_replicate, List.length_set]; omega)) | (with_reducible refine fact ?_ ?_; first | trivial | exact ⟨rfl, rfl⟩ | kernel_rfl) | with_reducible refine choT (by assumption) ?_ | with_reducible refine choF (by assumption) ?_ | with_reducible refine choF' (by assumption) ?_ | (with_reducible refine altT ?_ ?_; first | omega | (simp only [List.length_append, List.length_cons, List.length_nil, List.length_map, List.length_take, List.length_drop, List.length_replicate, List.length_set]; omega)) | with_reducible refine altF ?_ | with_reducible refine all fun _ => ?_ | with_reducible refine both ?_ ?_ | (with_reducible refine choT ?_ ?_; omega) | (with_reducible refine choF ?_ ?_; omega) | with_reducible refine cho (fun _ => ?_) (fun _ => ?_))
      · rename_i hd
        refine meet () trivial ?_
        rw [if_pos hd]
        exact Sub.refl _ _
      · rename_i hd
        refine meet () trivial ?_
        rw [if_neg hd]
        exact Sub.refl _ _
    · intro _ _
      repeat' (first | with_reducible apply Stp.go | with_reducible refine imp fun _ => ?_ | (with_reducible refine hyp ?_ ?_; first | assumption | exact leftT_mem (by assumption)) | (with_reducible refine need ?_ ?_; first | trivial | omega | exact ⟨by assumption, by omega⟩ | (simp only [List.length_append, List.length_cons, List.length_nil, List.length_map, List.length_take, List.length_drop, List.length_replicate, List.length_set]; omega)) | (with_reducible refine fact ?_ ?_; first | trivial | exact ⟨rfl, rfl⟩ | kernel_rfl) | with_reducible refine choT (by assumption) ?_ | with_reducible refine choF (by assumption) ?_ | with_reducible refine choF' (by assumption) ?_ | (with_reducible refine altT ?_ ?_; first | omega | (simp only [List.length_append, List.length_cons, List.length_nil, List.length_map, List.length_take, List.length_drop, List.length_replicate, List.length_set]; omega)) | with_reducible refine altF ?_ | with_reducible refine all fun _ => ?_ | with_reducible refine both ?_ ?_ | (with_reducible refine choT ?_ ?_; omega) | (with_reducible refine choF ?_ ?_; omega) | with_reducible refine cho (fun _ => ?_) (fun _ => ?_))
      all_goals
        refine ⟨_, _, _, rfl, retOwn (Sub.refl _ _), ?_, rfl⟩
        simp_all [enB, enR]
  · rename_i h
    refine ⟨_, _, _, rfl, retNil byt (sz := 1) (by decide) (Sub.refl _ _), ?_, rfl⟩
    simp [enB, h]
instance (e : En) : PC Go.Proofs.Try.prog 41 [e.av] True (.lst 1 ((enB e).map byt) .ro) := ⟨fun _ => PC.of (entry_Bytes_ok e)⟩
theorem ref03_Bytes_ok (e : En) : aPure Go.Proofs.Try.prog 42 [e.av] (S (enB e)) := by
  refine ref03_Bytes.go ?_
  unfold ref03_Bytes.sh
  by_cases h : right e = true
  · obtain ⟨k0, k1, k2, k3, k4, k5⟩ := right_bounds h
    have hp := put_len64 (v := e.seq.toNat) (by omega)
    have hp2 := put_len64 (v := e.key.length) (by omega)
    repeat' (first | with_reducible apply Stp.go | with_reducible refine imp fun _ => ?_ | (with_reducible refine hyp ?_ ?_; first | assumption | exact leftT_mem (by assumption)) | (with_reducible refine need ?_ ?_; first | trivial | omega | exact ⟨by assumption, by omega⟩ | (simp only [List.length_append, List.length_cons, List.length_nil, List.length_map, List.length_take, List.length_drop, List.length_replicate, List.length_set]; omega)) | (with_reducible refine fact ?_ ?_; first | trivial | exact ⟨rfl, rfl⟩ | kernel_rfl) | with_reducible refine choT (by assumption) ?_ | with_reducible refine choF (by assumption) ?_ | with_reducible refine choF' (by assumption) ?_ | (with_reducible refine altT ?_ ?_; first | omega | (simp only [List.length_append, List.length_cons, List.length_nil, List.length_map, List.length_take, List.length_drop, List.length_replicate, List.length_set]; omega)) | with_reducible refine altF ?_ | with_reducible refine all fun _ => ?_ | with_reducible refine both ?_ ?_ | (with_reducible refine choT ?_ ?_; omega) | (with_reducible refine choF ?_ ?_; omega) | with_reducible refine cho (fun _ => ?_) (fun _ => ?_))
    all_goals
      simp_all [enB, enR]
  · repeat' (first | with_reducible apply Stp.go | with_reducible refine imp fun _ => ?_ | (with_reducible refine hyp ?_ ?_; first | assumption | exact leftT_mem (by assumption)) | (with_reducible refine need ?_ ?_; first | trivial | omega | exact ⟨by assumption, by omega⟩ | (simp only [List.length_append, List.length_cons, List.length_nil, List.length_map, List.length_take, List.length_drop, List.length_replicate, List.length_set]; omega)) | (with_reducible refine fact ?_ ?_; first | trivial | exact ⟨rfl, rfl⟩ | kernel_rfl) | with_reducible refine choT (by assumption) ?_ | with_reducible refine choF (by assumption) ?_ | with_reducible refine choF' (by assumption) ?_ | (with_reducible refine altT ?_ ?_; first | omega | (simp only [List.length_append, List.length_cons, List.length_nil, List.length_map, List.length_take, List.length_drop, List.length_replicate, List.length_set]; omega)) | with_reducible refine altF ?_ | with_reducible refine all fun _ => ?_ | with_reducible refine both ?_ ?_ | (with_reducible refine choT ?_ ?_; omega) | (with_reducible refine choF ?_ ?_; omega) | with_reducible refine cho (fun _ => ?_) (fun _ => ?_))
    simp [enB, h]
instance (e : En) : PC Go.Proofs.Try.prog 42 [e.av] True (S (enB e)) := ⟨fun _ => PC.of (ref03_Bytes_ok e)⟩
end Go.Ab

/- A block's bytes. -/
set_option linter.unusedVariables false
set_option linter.unusedSimpArgs false
namespace Go.Ab
def block_Bytes.mark : Mark := ⟨fun t => Nat.beq t 10 || Nat.beq t 35, fun t => false, fun t => false, fun t => Nat.beq t 18 || Nat.beq t 32, fun t => false⟩
def block_Bytes.ann : Ann := ⟨fun n => bif Nat.beq n 5 then [0, 4, 5, 12, 13, 14] else [], fun n => bif Nat.beq n 11 then some [0, 4, 5, 7, 8, 12, 13, 14] else bif Nat.beq n 15 then some [0, 4, 5, 7, 12, 13, 14] else none, fun n => bif Nat.beq n 11 then some [0, 4, 5, 7, 12, 13, 14] else none⟩
/-- 'marlstone/block.Bytes' -/
def block_Bytes.sh (a0 : AV) (σ : Store) (Q : AEnd → Store → Prop) : Prop :=
  Do (aPureC Go.Proofs.Try.prog 58 [a0]) fun t10 =>
  Do (aUn Go.Proofs.Try.prog .not t10) fun t11 =>
  aCond t11
    (Q (.ret (.tuple [(.val (.slice none 0 0)), (.val (.int .i64 1))])) σ)
    (Do (aBuiltin Go.Proofs.Try.prog .len #[22] [a0]) fun t13 =>
  aLoop (fun go vs σ =>
    At vs 0 fun s0 => At vs 1 fun s4 => At vs 2 fun s5 => At vs 3 fun s12 => At vs 4 fun s13 => At vs 5 fun s14 => Do (aBin Go.Proofs.Try.prog .lss 3 s14 s13) fun t15 =>
    aCond t15
      (Do (aIndexAddr .slice 4 s12 s14) fun t17 =>
    Do (loadF true 4 t17) fun t18 =>
    aNewVar 52 [.val (.string ⟨#[]⟩), .val (.string ⟨#[]⟩), .val (.bool false), .val (.int .i64 0)] σ fun t7 σ_1 =>
    storeA 4 t7 t18 σ_1 fun u σ_2 =>
    aJoin (fun j =>
      Do (aBin Go.Proofs.Try.prog .rem 3 s14 (.val (.int .i64 8))) fun t20 =>
      Do (aBin Go.Proofs.Try.prog .eql 3 t20 (.val (.int .i64 0))) fun t21 =>
      aCond t21
        (Do (aBuiltin Go.Proofs.Try.prog .len #[25] [s4]) fun t24 =>
        Do (fun x => aConvN 3 73 t24 x Go.Proofs.Try.prog) fun t25 =>
        aCall Go.Proofs.Try.prog 34 [s5, t25] σ_2 (fun t26 σ_4 =>
        j [s0, s4, t26, t7, (.val (.int .i64 0)), s12, s13, s14] σ_4) (fun e σ_5 => Q (.pan e) σ_5))
        (Do (aBin Go.Proofs.Try.prog .sub 3 s14 (.val (.int .i64 1))) fun t29 =>
        Do (aIndexAddr .slice 4 s0 t29) fun t30 =>
        Do (aFieldAddr 0 1 t30) fun t31 =>
        Do (loadF false 1 t31) fun t32 =>
        Do (aFieldAddr 0 1 t7) fun t33 =>
        Do (loadA false 1 t33 σ_2) fun t34 =>
        Do (aPureC Go.Proofs.Try.prog 59 [t32, t34]) fun t35 =>
        j [s0, s4, s5, t7, t35, s12, s13, s14] σ_2)) fun vs_1 σ_3 =>
    At vs_1 0 fun s0_1 => At vs_1 1 fun s4_1 => At vs_1 2 fun s5_1 => At vs_1 3 fun s7 => At vs_1 4 fun s8 => At vs_1 5 fun s12_1 => At vs_1 6 fun s13_1 => At vs_1 7 fun s14_1 => aJoin (fun j_1 =>
      Do (fun x => aConvN 3 71 s8 x Go.Proofs.Try.prog) fun t38 =>
      Do (aFieldAddr 0 1 s7) fun t40 =>
      Both (aCall Go.Proofs.Try.prog 32 [s4_1, t38] σ_3 (fun t39 σ_7 =>
      Do (loadA false 1 t40 σ_7) fun t41 =>
      Do (aSlice .string 1 t41 (some s8) none none) fun t43 =>
      aCall Go.Proofs.Try.prog 33 [t39, t43] σ_7 (fun t44 σ_8 =>
      j_1 [s0_1, t44, s5_1, s7, s12_1, s13_1, s14_1] σ_8) (fun e_1 σ_9 => Q (.pan e_1) σ_9)) (fun e_2 σ_10 => Q (.pan e_2) σ_10)) (Do (loadA false 1 t40 σ_3) fun t41_1 =>
      Do (aSlice .string 1 t41_1 (some s8) none none) fun t43_1 =>
      aCall Go.Proofs.Try.prog 32 [s4_1, t38] σ_3 (fun t39_1 σ_11 =>
      aCall Go.Proofs.Try.prog 33 [t39_1, t43_1] σ_11 (fun t44_1 σ_12 =>
      j_1 [s0_1, t44_1, s5_1, s7, s12_1, s13_1, s14_1] σ_12) (fun e_3 σ_13 => Q (.pan e_3) σ_13)) (fun e_4 σ_14 => Q (.pan e_4) σ_14))) fun vs_2 σ_6 =>
    At vs_2 0 fun s0_2 => At vs_2 1 fun s4_2 => At vs_2 2 fun s5_2 => At vs_2 3 fun s7_1 => At vs_2 4 fun s12_2 => At vs_2 5 fun s13_2 => At vs_2 6 fun s14_2 => Do (aSlLit (mkE [.val (.int .u8 0)]) 1 1 [(0, (W8 0))]) fun t46 =>
    aAppend 5 1 1 s4_2 t46 σ_6 (subK fun t47 σ_15 =>
    aJoin (fun j_2 =>
      Do (aFieldAddr 2 1 s7_1) fun t48 =>
      Do (loadA false 1 t48 σ_15) fun t49 =>
      aCond t49
        (Do (aBuiltin Go.Proofs.Try.prog .len #[25] [t47]) fun t52 =>
        Do (aBin Go.Proofs.Try.prog .sub 3 t52 (.val (.int .i64 1))) fun t53 =>
        Do (aIndexAddr .slice 1 t47 t53) fun t54 =>
        storeA 1 t54 (W8 1) σ_15 fun u_1 σ_17 =>
        j_2 [s0_2, t47, s5_2, s7_1, s12_2, s13_2, s14_2] σ_17)
        (j_2 [s0_2, t47, s5_2, s7_1, s12_2, s13_2, s14_2] σ_15)) fun vs_3 σ_16 =>
    At vs_3 0 fun s0_3 => At vs_3 1 fun s4_3 => At vs_3 2 fun s5_3 => At vs_3 3 fun s7_2 => At vs_3 4 fun s12_3 => At vs_3 5 fun s13_3 => At vs_3 6 fun s14_3 => Do (aFieldAddr 3 1 s7_2) fun t56 =>
    Do (loadA false 1 t56 σ_16) fun t57 =>
    Do (fun x => aConvN 3 71 t57 x Go.Proofs.Try.prog) fun t58 =>
    aCall Go.Proofs.Try.prog 32 [s4_3, t58] σ_16 (fun t59 σ_18 =>
    Do (aFieldAddr 2 1 s7_2) fun t60 =>
    Do (loadA false 1 t60 σ_18) fun t61 =>
    Do (aUn Go.Proofs.Try.prog .not t61) fun t62 =>
    aCond t62
      (Do (aFieldAddr 1 1 s7_2) fun t64 =>
      Do (loadA false 1 t64 σ_18) fun t65 =>
      aCall Go.Proofs.Try.prog 33 [t59, t65] σ_18 (fun t66 σ_19 =>
      Do (aBin Go.Proofs.Try.prog .add 3 s14_3 (.val (.int .i64 1))) fun t67 =>
    go [s0_3, t66, s5_3, s12_3, s13_3, t67] σ_19) (fun e_5 σ_20 => Q (.pan e_5) σ_20))
      (Do (aBin Go.Proofs.Try.prog .add 3 s14_3 (.val (.int .i64 1))) fun t67_1 =>
    go [s0_3, t59, s5_3, s12_3, s13_3, t67_1] σ_18)) (fun e_6 σ_21 => Q (.pan e_6) σ_21)))
      (aAppend 5 1 1 s4 s5 σ (subK fun t70 σ_22 =>
  Do (aBuiltin Go.Proofs.Try.prog .len #[25] [s5]) fun t73 =>
  Do (aBin Go.Proofs.Try.prog .quo 3 t73 (.val (.int .i64 4))) fun t74 =>
  Do (fun x => aConvN 3 73 t74 x Go.Proofs.Try.prog) fun t75 =>
  aCall Go.Proofs.Try.prog 34 [t70, t75] σ_22 (fun t76 σ_23 =>
  Q (.ret (.tuple [t76, (.val (.int .i64 0))])) σ_23) (fun e_7 σ_24 => Q (.pan e_7) σ_24))))
    [a0, (.val (.slice none 0 0)), (.val (.slice none 0 0)), a0, t13, (.val (.int .i64 0))] σ)
theorem block_Bytes.eq (a0 : AV) (σ : Store) (Q : AEnd → Store → Prop) : vc (semOf Go.Proofs.Try.prog block_Bytes.mark) Go.Proofs.Try.f26.ntmps block_Bytes.ann (bodyOf Go.Proofs.Try.f26) (endK [.tmp 2, .tmp 3] Q) (argFr [a0]) σ = block_Bytes.sh a0 σ Q := by kernel_rfl
theorem block_Bytes.go {a0 : AV} {σ : Store} {Q : AEnd → Store → Prop} (h : block_Bytes.sh a0 σ Q) : ACalls Go.Proofs.Try.prog 26 [a0] σ Q :=
  acalls_of_eq [.tmp 2, .tmp 3] Go.Proofs.Try.func26 (by kernel_rfl) (by kernel_rfl) (by kernel_rfl) (by kernel_rfl) (block_Bytes.eq a0 σ Q) h
theorem set_last (X : List UInt8) (a b : UInt8) (n : Nat) (h : n = X.length) : (X ++ [a]).set n b = X ++ [b] := by
  subst h
  simp
/-- The bytes of a block, or none, and whether there are any. -/
def blkB (l : List En) : List UInt8 := if fit l = true then blockBytes l else []
def blkE (l : List En) : Int := if fit l = true then 0 else 1
set_option maxHeartbeats 1000000 in
theorem block_Bytes_ok (l : List En) (m : SM) (hl : l.length ≤ 1000000000000) : aPure Go.Proofs.Try.prog 26 [.lst 4 (l.map En.av) m] (.tuple [.lst 1 ((blkB l).map byt) .ro, I .i64 (blkE l)]) := by
  refine ACalls.fin (block_Bytes.go ?_)
  unfold block_Bytes.sh
  repeat' (first | with_reducible apply Stp.go | with_reducible refine imp fun _ => ?_ | (with_reducible refine hyp ?_ ?_; first | assumption | exact leftT_mem (by assumption)) | (with_reducible refine need ?_ ?_; first | trivial | omega | exact ⟨by assumption, by omega⟩ | (simp only [List.length_append, List.length_cons, List.length_nil, List.length_map, List.length_take, List.length_drop, List.length_replicate, List.length_set]; omega)) | (with_reducible refine fact ?_ ?_; first | trivial | exact ⟨rfl, rfl⟩ | kernel_rfl) | with_reducible refine choT (by assumption) ?_ | with_reducible refine choF (by assumption) ?_ | with_reducible refine choF' (by assumption) ?_ | (with_reducible refine altT ?_ ?_; first | omega | (simp only [List.length_append, List.length_cons, List.length_nil, List.length_map, List.length_take, List.length_drop, List.length_replicate, List.length_set]; omega)) | with_reducible refine altF ?_ | with_reducible refine all fun _ => ?_ | with_reducible refine both ?_ ?_ | (with_reducible refine choT ?_ ?_; omega) | (with_reducible refine choF ?_ ?_; omega) | with_reducible refine cho (fun _ => ?_) (fun _ => ?_))
  · rename_i hf
    obtain ⟨h64, h0, hs, hr⟩ := fit_right hf
    refine loopI (β := Nat × Value × Value) (fun x => x.1 ≤ l.length) (fun x => [.lst 4 (l.map En.av) m, .own x.2.1 (blk l x.1).1.length, .own x.2.2 (blk l x.1).2.length, .lst 4 (l.map En.av) m, I .i64 (l.length : Nat), I .i64 (x.1 : Nat)])
      (fun x => [.row x.2.1 5 1 ((blk l x.1).1.map byt) 0, .row x.2.2 5 1 ((blk l x.1).2.map byt) 0]) (fun x => l.length - x.1) (0, .slice none 0 0, .slice none 0 0) (Nat.zero_le _)
      ((Sub.nil_own 5 (by decide) _ [_] [_, _, _, _]).trans (Sub.nil_own 5 (by decide) _ [_, _] [_, _, _])) ?_
    rintro ⟨i, v, w⟩ hi
    dsimp only at hi ⊢
    obtain ⟨b1, b2, b3⟩ := blk_length hr i hi
    have hsh := sharedAt_le l i
    by_cases hlt : i < l.length
    · have hri := hr i (by omega)
      obtain ⟨k0, k1, k2, k3, k4, k5⟩ := right_bounds hri
      repeat' (first | with_reducible apply Stp.go | with_reducible refine imp fun _ => ?_ | (with_reducible refine hyp ?_ ?_; first | assumption | exact leftT_mem (by assumption)) | (with_reducible refine need ?_ ?_; first | trivial | omega | exact ⟨by assumption, by omega⟩ | (simp only [List.length_append, List.length_cons, List.length_nil, List.length_map, List.length_take, List.length_drop, List.length_replicate, List.length_set]; omega)) | (with_reducible refine fact ?_ ?_; first | trivial | exact ⟨rfl, rfl⟩ | kernel_rfl) | with_reducible refine choT (by assumption) ?_ | with_reducible refine choF (by assumption) ?_ | with_reducible refine choF' (by assumption) ?_ | (with_reducible refine altT ?_ ?_; first | omega | (simp only [List.length_append, List.length_cons, List.length_nil, List.length_map, List.length_take, List.length_drop, List.length_replicate, List.length_set]; omega)) | with_reducible refine altF ?_ | with_reducible refine all fun _ => ?_ | with_reducible refine both ?_ ?_ | (with_reducible refine choT ?_ ?_; omega) | (with_reducible refine choF ?_ ?_; omega) | with_reducible refine cho (fun _ => ?_) (fun _ => ?_))
      rename_i a
      have hprev : (l.getD (i - 1) default).key.length ≤ 128 := by
        rcases Nat.eq_zero_or_pos i with e | e
        · subst e; exact k1
        · exact (right_bounds (hr (i - 1) (by omega))).2.1
      refine joinI (β := Value) (fun _ => True) (fun w => [.lst 4 (l.map En.av) m, .own v (blk l i).1.length, .own w (blk l (i + 1)).2.length, ptrAt a 0, I .i64 (sharedAt l i : Nat), .lst 4 (l.map En.av) m, I .i64 (l.length : Nat), I .i64 (i : Nat)])
        (fun w => [.var a 52 (l.getD i default).cs, .row v 5 1 ((blk l i).1.map byt) 0, .row w 5 1 ((blk l (i + 1)).2.map byt) 0]) ?_ ?_
      · repeat' (first | with_reducible apply Stp.go | with_reducible refine imp fun _ => ?_ | (with_reducible refine hyp ?_ ?_; first | assumption | exact leftT_mem (by assumption)) | (with_reducible refine need ?_ ?_; first | trivial | omega | exact ⟨by assumption, by omega⟩ | (simp only [List.length_append, List.length_cons, List.length_nil, List.length_map, List.length_take, List.length_drop, List.length_replicate, List.length_set]; omega)) | (with_reducible refine fact ?_ ?_; first | trivial | exact ⟨rfl, rfl⟩ | kernel_rfl) | with_reducible refine choT (by assumption) ?_ | with_reducible refine choF (by assumption) ?_ | with_reducible refine choF' (by assumption) ?_ | (with_reducible refine altT ?_ ?_; first | omega | (simp only [List.length_append, List.length_cons, List.length_nil, List.length_map, List.length_take, List.length_drop, List.length_replicate, List.length_set]; omega)) | with_reducible refine altF ?_ | with_reducible refine all fun _ => ?_ | with_reducible refine both ?_ ?_ | (with_reducible refine choT ?_ ?_; omega) | (with_reducible refine choF ?_ ?_; omega) | with_reducible refine cho (fun _ => ?_) (fun _ => ?_))
        · rename_i h8 x
          have e : (blk l (i + 1)).2 = (blk l i).2 ++ fixed (blk l i).1.length := by simp only [blk, h8, if_true]
          have e2 : sharedAt l i = 0 := by simp only [sharedAt, h8, if_true]
          refine meet x trivial ?_
          rw [e2, e]
          exact subS _
        · rename_i h8
          have e : (blk l (i + 1)).2 = (blk l i).2 := by simp only [blk, h8, if_false, List.append_nil]
          have e2 : common (l.getD (i - 1) default).key (l.getD i default).key = sharedAt l i := by simp only [sharedAt, h8, if_false]
          refine meet w trivial ?_
          rw [e2, e]
          exact subS _
      · intro w _
        obtain ⟨X, hX⟩ : ∃ X, X = (blk l i).1 ++ put (sharedAt l i) ++ (put ((l.getD i default).key.drop (sharedAt l i)).length ++ (l.getD i default).key.drop (sharedAt l i)) := ⟨_, rfl⟩
        have hp1 := put_len64 (v := sharedAt l i) (by omega)
        have hp2 := put_len64 (v := ((l.getD i default).key.drop (sharedAt l i)).length) (by simp only [List.length_drop]; omega)
        have hd1 : ((l.getD i default).key.drop (sharedAt l i)).length ≤ 128 := by rw [List.length_drop]; omega
        have hXl : X.length ≤ 1200 * i + 150 := by
          rw [hX, List.length_append, List.length_append, List.length_append]
          omega
        repeat' (first | with_reducible apply Stp.go | with_reducible refine imp fun _ => ?_ | (with_reducible refine hyp ?_ ?_; first | assumption | exact leftT_mem (by assumption)) | (with_reducible refine need ?_ ?_; first | trivial | omega | exact ⟨by assumption, by omega⟩ | (simp only [List.length_append, List.length_cons, List.length_nil, List.length_map, List.length_take, List.length_drop, List.length_replicate, List.length_set]; omega)) | (with_reducible refine fact ?_ ?_; first | trivial | exact ⟨rfl, rfl⟩ | kernel_rfl) | with_reducible refine choT (by assumption) ?_ | with_reducible refine choF (by assumption) ?_ | with_reducible refine choF' (by assumption) ?_ | (with_reducible refine altT ?_ ?_; first | omega | (simp only [List.length_append, List.length_cons, List.length_nil, List.length_map, List.length_take, List.length_drop, List.length_replicate, List.length_set]; omega)) | with_reducible refine altF ?_ | with_reducible refine all fun _ => ?_ | with_reducible refine both ?_ ?_ | (with_reducible refine choT ?_ ?_; omega) | (with_reducible refine choF ?_ ?_; omega) | with_reducible refine cho (fun _ => ?_) (fun _ => ?_))
        refine joinI (β := Value) (fun _ => True) (fun y => [.lst 4 (l.map En.av) m, .own y X.length, .own w (blk l (i + 1)).2.length, ptrAt a 0, .lst 4 (l.map En.av) m, I .i64 (l.length : Nat), I .i64 (i : Nat)])
          (fun y => [.var a 52 (l.getD i default).cs, .row y 5 1 (X.map byt) 0, .row w 5 1 ((blk l (i + 1)).2.map byt) 0]) ?_ ?_
        · repeat' (first | with_reducible apply Stp.go | with_reducible refine imp fun _ => ?_ | (with_reducible refine hyp ?_ ?_; first | assumption | exact leftT_mem (by assumption)) | (with_reducible refine need ?_ ?_; first | trivial | omega | exact ⟨by assumption, by omega⟩ | (simp only [List.length_append, List.length_cons, List.length_nil, List.length_map, List.length_take, List.length_drop, List.length_replicate, List.length_set]; omega)) | (with_reducible refine fact ?_ ?_; first | trivial | exact ⟨rfl, rfl⟩ | kernel_rfl) | with_reducible refine choT (by assumption) ?_ | with_reducible refine choF (by assumption) ?_ | with_reducible refine choF' (by assumption) ?_ | (with_reducible refine altT ?_ ?_; first | omega | (simp only [List.length_append, List.length_cons, List.length_nil, List.length_map, List.length_take, List.length_drop, List.length_replicate, List.length_set]; omega)) | with_reducible refine altF ?_ | with_reducible refine all fun _ => ?_ | with_reducible refine both ?_ ?_ | (with_reducible refine choT ?_ ?_; omega) | (with_reducible refine choF ?_ ?_; omega) | with_reducible refine cho (fun _ => ?_) (fun _ => ?_))
          all_goals
            rename_i y
            refine meet y trivial ?_
            rw [hX]
            exact subS _
        · intro y _
          have hseq := put_len64 (v := (l.getD i default).seq.toNat) (by omega)
          have hvl := put_len64 (v := (l.getD i default).val.length) (by omega)
          obtain ⟨Y, hY⟩ : ∃ Y, Y = X ++ [if (l.getD i default).del = true then (1 : UInt8) else 0] := ⟨_, rfl⟩
          have hYl : Y.length = X.length + 1 := by rw [hY]; simp
          have fin : (blk l (i + 1)).1 = Y ++ put (l.getD i default).seq.toNat ++ (if (l.getD i default).del = true then [] else put (l.getD i default).val.length ++ (l.getD i default).val) := by
            rw [hY, hX]
            simp only [blk, encE, List.append_assoc]
          repeat' (first | with_reducible apply Stp.go | with_reducible refine imp fun _ => ?_ | (with_reducible refine hyp ?_ ?_; first | assumption | exact leftT_mem (by assumption)) | (with_reducible refine need ?_ ?_; first | trivial | omega | exact ⟨by assumption, by omega⟩ | (simp only [List.length_append, List.length_cons, List.length_nil, List.length_map, List.length_take, List.length_drop, List.length_replicate, List.length_set]; omega)) | (with_reducible refine fact ?_ ?_; first | trivial | exact ⟨rfl, rfl⟩ | kernel_rfl) | with_reducible refine choT (by assumption) ?_ | with_reducible refine choF (by assumption) ?_ | with_reducible refine choF' (by assumption) ?_ | (with_reducible refine altT ?_ ?_; first | omega | (simp only [List.length_append, List.length_cons, List.length_nil, List.length_map, List.length_take, List.length_drop, List.length_replicate, List.length_set]; omega)) | with_reducible refine altF ?_ | with_reducible refine all fun _ => ?_ | with_reducible refine both ?_ ?_ | (with_reducible refine choT ?_ ?_; omega) | (with_reducible refine choF ?_ ?_; omega) | with_reducible refine cho (fun _ => ?_) (fun _ => ?_))
          refine joinI (β := Value) (fun _ => True) (fun y => [.lst 4 (l.map En.av) m, .own y Y.length, .own w (blk l (i + 1)).2.length, ptrAt a 0, .lst 4 (l.map En.av) m, I .i64 (l.length : Nat), I .i64 (i : Nat)])
            (fun y => [.var a 52 (l.getD i default).cs, .row y 5 1 (Y.map byt) 0, .row w 5 1 ((blk l (i + 1)).2.map byt) 0]) ?_ ?_
          · repeat' (first | with_reducible apply Stp.go | with_reducible refine imp fun _ => ?_ | (with_reducible refine hyp ?_ ?_; first | assumption | exact leftT_mem (by assumption)) | (with_reducible refine need ?_ ?_; first | trivial | omega | exact ⟨by assumption, by omega⟩ | (simp only [List.length_append, List.length_cons, List.length_nil, List.length_map, List.length_take, List.length_drop, List.length_replicate, List.length_set]; omega)) | (with_reducible refine fact ?_ ?_; first | trivial | exact ⟨rfl, rfl⟩ | kernel_rfl) | with_reducible refine choT (by assumption) ?_ | with_reducible refine choF (by assumption) ?_ | with_reducible refine choF' (by assumption) ?_ | (with_reducible refine altT ?_ ?_; first | omega | (simp only [List.length_append, List.length_cons, List.length_nil, List.length_map, List.length_take, List.length_drop, List.length_replicate, List.length_set]; omega)) | with_reducible refine altF ?_ | with_reducible refine all fun _ => ?_ | with_reducible refine both ?_ ?_ | (with_reducible refine choT ?_ ?_; omega) | (with_reducible refine choF ?_ ?_; omega) | with_reducible refine cho (fun _ => ?_) (fun _ => ?_))
            · rename_i z hd
              refine meet z trivial ?_
              rw [hYl, hY, if_pos hd, set_last _ _ _ _ (by simp)]
              simp only [List.length_append, List.length_cons, List.length_nil]
              exact subS _
            · rename_i z hd
              refine meet z trivial ?_
              rw [hYl, hY, if_neg hd]
              simp only [List.length_append, List.length_cons, List.length_nil]
              exact subS _
          · intro z _
            repeat' (first | with_reducible apply Stp.go | with_reducible refine imp fun _ => ?_ | (with_reducible refine hyp ?_ ?_; first | assumption | exact leftT_mem (by assumption)) | (with_reducible refine need ?_ ?_; first | trivial | omega | exact ⟨by assumption, by omega⟩ | (simp only [List.length_append, List.length_cons, List.length_nil, List.length_map, List.length_take, List.length_drop, List.length_replicate, List.length_set]; omega)) | (with_reducible refine fact ?_ ?_; first | trivial | exact ⟨rfl, rfl⟩ | kernel_rfl) | with_reducible refine choT (by assumption) ?_ | with_reducible refine choF (by assumption) ?_ | with_reducible refine choF' (by assumption) ?_ | (with_reducible refine altT ?_ ?_; first | omega | (simp only [List.length_append, List.length_cons, List.length_nil, List.length_map, List.length_take, List.length_drop, List.length_replicate, List.length_set]; omega)) | with_reducible refine altF ?_ | with_reducible refine all fun _ => ?_ | with_reducible refine both ?_ ?_ | (with_reducible refine choT ?_ ?_; omega) | (with_reducible refine choF ?_ ?_; omega) | with_reducible refine cho (fun _ => ?_) (fun _ => ?_))
            · rename_i x hd
              refine again (i + 1, x, w) (by dsimp only; omega) (by dsimp only; omega) ?_
              dsimp only
              rw [fin, if_pos hd, List.append_nil]
              exact subS _
            · rename_i hd x
              refine again (i + 1, x, w) (by dsimp only; omega) (by dsimp only; omega) ?_
              dsimp only
              rw [fin, if_neg hd]
              exact subS _
    · have e : i = l.length := by omega
      subst e
      repeat' (first | with_reducible apply Stp.go | with_reducible refine imp fun _ => ?_ | (with_reducible refine hyp ?_ ?_; first | assumption | exact leftT_mem (by assumption)) | (with_reducible refine need ?_ ?_; first | trivial | omega | exact ⟨by assumption, by omega⟩ | (simp only [List.length_append, List.length_cons, List.length_nil, List.length_map, List.length_take, List.length_drop, List.length_replicate, List.length_set]; omega)) | (with_reducible refine fact ?_ ?_; first | trivial | exact ⟨rfl, rfl⟩ | kernel_rfl) | with_reducible refine choT (by assumption) ?_ | with_reducible refine choF (by assumption) ?_ | with_reducible refine choF' (by assumption) ?_ | (with_reducible refine altT ?_ ?_; first | omega | (simp only [List.length_append, List.length_cons, List.length_nil, List.length_map, List.length_take, List.length_drop, List.length_replicate, List.length_set]; omega)) | with_reducible refine altF ?_ | with_reducible refine all fun _ => ?_ | with_reducible refine both ?_ ?_ | (with_reducible refine choT ?_ ?_; omega) | (with_reducible refine choF ?_ ?_; omega) | with_reducible refine cho (fun _ => ?_) (fun _ => ?_))
      rename_i x
      refine ⟨_, _, _, rfl, Sub.tuple (retOwn (rest := [.row w 5 1 ((blk l l.length).2.map byt) 0]) (Sub.app_nil _)), ?_, rfl⟩
      simp [blkB, blkE, hf, blockBytes]
  · rename_i hf
    refine ⟨_, _, _, rfl, Sub.tuple (retNil byt (sz := 1) (by decide) (Sub.refl _ _)), ?_, rfl⟩
    simp [blkB, blkE, hf]
instance {a : AV} {l : List En} {m : SM} [h : IsL a En.av 4 l m] : PC Go.Proofs.Try.prog 26 [a] (l.length ≤ 1000000000000) (.tuple [.lst 1 ((blkB l).map byt) .ro, I .i64 (blkE l)]) := ⟨fun hl => ⟨[.lst 4 (l.map En.av) m], ⟨h.sub, trivial⟩, block_Bytes_ok l m hl⟩⟩
def ref04_Bytes.mark : Mark := ⟨fun t => Nat.beq t 12 || Nat.beq t 28 || Nat.beq t 42 || Nat.beq t 46 || Nat.beq t 55 || Nat.beq t 72 || Nat.beq t 85 || Nat.beq t 91, fun t => false, fun t => false, fun t => Nat.beq t 36 || Nat.beq t 41 || Nat.beq t 52 || Nat.beq t 60 || Nat.beq t 70 || Nat.beq t 77 || Nat.beq t 84, fun t => false⟩
def ref04_Bytes.ann : Ann := ⟨fun n => bif Nat.beq n 8 then [0, 5, 6, 7, 8] else [], fun n => bif Nat.beq n 15 then some [0, 5, 6, 7, 8, 9] else bif Nat.beq n 20 then some [0, 5, 6, 7, 8, 10] else none, fun n => none⟩
/-- 'marlstone/marlstoneref04.Bytes' -/
def ref04_Bytes.sh (a0 : AV) (σ : Store) (Q : AEnd → Store → Prop) : Prop :=
  Do (aPureC Go.Proofs.Try.prog 35 [a0]) fun t12 =>
  Do (aUn Go.Proofs.Try.prog .not t12) fun t14 =>
  aCond t14
    (Q (.ret (.tuple [(.val (.string ⟨#[]⟩)), (.val (.int .i64 1))])) σ)
    (aLoop (fun go vs σ =>
    At vs 0 fun s0 => At vs 1 fun s5 => At vs 2 fun s6 => At vs 3 fun s7 => At vs 4 fun s8 => Do (aBuiltin Go.Proofs.Try.prog .len #[22] [s0]) fun t17 =>
    Do (aBin Go.Proofs.Try.prog .lss 3 s8 t17) fun t18 =>
    aCond t18
      (aJoin (fun j =>
      Do (aBin Go.Proofs.Try.prog .rem 3 s8 (.val (.int .i64 8))) fun t22 =>
      Do (aBin Go.Proofs.Try.prog .eql 3 t22 (.val (.int .i64 0))) fun t23 =>
      aCond t23
        (Do (aBuiltin Go.Proofs.Try.prog .len #[9] [s5]) fun t26 =>
        Do (fun x => aConvN 3 73 t26 x Go.Proofs.Try.prog) fun t27 =>
        Do (aPureC Go.Proofs.Try.prog 39 [s6, t27]) fun t28 =>
        Do (aBin Go.Proofs.Try.prog .add 3 s7 (.val (.int .i64 1))) fun t30 =>
        j [s0, s5, t28, t30, s8, (.val (.int .i64 0))] σ)
        (Do (aBin Go.Proofs.Try.prog .sub 3 s8 (.val (.int .i64 1))) fun t33 =>
        Do (aIndexAddr .slice 4 s0 t33) fun t34 =>
        Do (aFieldAddr 0 1 t34) fun t35 =>
        Do (loadF false 1 t35) fun t36 =>
        Do (aIndexAddr .slice 4 s0 s8) fun t39 =>
        Do (aFieldAddr 0 1 t39) fun t40 =>
        Do (loadF false 1 t40) fun t41 =>
        Do (aPureC Go.Proofs.Try.prog 69 [t36, t41]) fun t42 =>
        j [s0, s5, s6, s7, s8, t42] σ)) fun vs_1 σ_1 =>
    At vs_1 0 fun s0_1 => At vs_1 1 fun s5_1 => At vs_1 2 fun s6_1 => At vs_1 3 fun s7_1 => At vs_1 4 fun s8_1 => At vs_1 5 fun s9 => Do (fun x => aConvN 3 71 s9 x Go.Proofs.Try.prog) fun t45 =>
    Do (aPureC Go.Proofs.Try.prog 37 [s5_1, t45]) fun t46 =>
    Do (aIndexAddr .slice 4 s0_1 s8_1) fun t50 =>
    Do (aFieldAddr 0 1 t50) fun t51 =>
    Do (loadF false 1 t51) fun t52 =>
    Do (aSlice .string 1 t52 (some s9) none none) fun t54 =>
    Do (aPureC Go.Proofs.Try.prog 38 [t46, t54]) fun t55 =>
    aJoin (fun j_1 =>
      Do (aIndexAddr .slice 4 s0_1 s8_1) fun t58 =>
      Do (aFieldAddr 2 1 t58) fun t59 =>
      Do (loadF false 1 t59) fun t60 =>
      aCond t60
        (j_1 [s0_1, t55, s6_1, s7_1, s8_1, (W8 1)] σ_1)
        (j_1 [s0_1, t55, s6_1, s7_1, s8_1, (W8 0)] σ_1)) fun vs_2 σ_2 =>
    At vs_2 0 fun s0_2 => At vs_2 1 fun s5_2 => At vs_2 2 fun s6_2 => At vs_2 3 fun s7_2 => At vs_2 4 fun s8_2 => At vs_2 5 fun s10 => Do (aSlLit (mkE [.val (.int .u8 0)]) 1 1 [(0, s10)]) fun t63 =>
    Do (aConvBS t63) fun t64 =>
    Do (aBin Go.Proofs.Try.prog .add 9 s5_2 t64) fun t65 =>
    Do (aIndexAddr .slice 4 s0_2 s8_2) fun t68 =>
    Do (aFieldAddr 3 1 t68) fun t69 =>
    Do (loadF false 1 t69) fun t70 =>
    Do (fun x => aConvN 3 71 t70 x Go.Proofs.Try.prog) fun t71 =>
    Do (aPureC Go.Proofs.Try.prog 37 [t65, t71]) fun t72 =>
    Do (aIndexAddr .slice 4 s0_2 s8_2) fun t75 =>
    Do (aFieldAddr 2 1 t75) fun t76 =>
    Do (loadF false 1 t76) fun t77 =>
    Do (aUn Go.Proofs.Try.prog .not t77) fun t78 =>
    aCond t78
      (Do (aIndexAddr .slice 4 s0_2 s8_2) fun t82 =>
      Do (aFieldAddr 1 1 t82) fun t83 =>
      Do (loadF false 1 t83) fun t84 =>
      Do (aPureC Go.Proofs.Try.prog 38 [t72, t84]) fun t85 =>
      Do (aBin Go.Proofs.Try.prog .add 3 s8_2 (.val (.int .i64 1))) fun t20 =>
    go [s0_2, t85, s6_2, s7_2, t20] σ_2)
      (Do (aBin Go.Proofs.Try.prog .add 3 s8_2 (.val (.int .i64 1))) fun t20_1 =>
    go [s0_2, t72, s6_2, s7_2, t20_1] σ_2))
      (Do (aBin Go.Proofs.Try.prog .add 9 s5 s6) fun t88 =>
  Do (fun x => aConvN 3 73 s7 x Go.Proofs.Try.prog) fun t90 =>
  Do (aPureC Go.Proofs.Try.prog 39 [t88, t90]) fun t91 =>
  Q (.ret (.tuple [t91, (.val (.int .i64 0))])) σ))
    [a0, (.val (.string ⟨#[]⟩)), (.val (.string ⟨#[]⟩)), (.val (.int .i64 0)), (.val (.int .i64 0))] σ)
theorem ref04_Bytes.eq (a0 : AV) (σ : Store) (Q : AEnd → Store → Prop) : vc (semOf Go.Proofs.Try.prog ref04_Bytes.mark) Go.Proofs.Try.f36.ntmps ref04_Bytes.ann (bodyOf Go.Proofs.Try.f36) (endK [.tmp 2, .tmp 3] Q) (argFr [a0]) σ = ref04_Bytes.sh a0 σ Q := by kernel_rfl
theorem ref04_Bytes.go {a0 : AV} {σ : Store} {Q : AEnd → Store → Prop} (h : ref04_Bytes.sh a0 σ Q) : ACalls Go.Proofs.Try.prog 36 [a0] σ Q :=
  acalls_of_eq [.tmp 2, .tmp 3] Go.Proofs.Try.func36 (by kernel_rfl) (by kernel_rfl) (by kernel_rfl) (by kernel_rfl) (ref04_Bytes.eq a0 σ Q) h
theorem ref04_Bytes_ok (l : List En) (m : SM) (hl : l.length ≤ 1000000000000) : aPure Go.Proofs.Try.prog 36 [.lst 4 (l.map En.av) m] (.tuple [S (blkB l), I .i64 (blkE l)]) := by
  refine ref04_Bytes.go ?_
  unfold ref04_Bytes.sh
  repeat' (first | with_reducible apply Stp.go | with_reducible refine imp fun _ => ?_ | (with_reducible refine hyp ?_ ?_; first | assumption | exact leftT_mem (by assumption)) | (with_reducible refine need ?_ ?_; first | trivial | omega | exact ⟨by assumption, by omega⟩ | (simp only [List.length_append, List.length_cons, List.length_nil, List.length_map, List.length_take, List.length_drop, List.length_replicate, List.length_set]; omega)) | (with_reducible refine fact ?_ ?_; first | trivial | exact ⟨rfl, rfl⟩ | kernel_rfl) | with_reducible refine choT (by assumption) ?_ | with_reducible refine choF (by assumption) ?_ | with_reducible refine choF' (by assumption) ?_ | (with_reducible refine altT ?_ ?_; first | omega | (simp only [List.length_append, List.length_cons, List.length_nil, List.length_map, List.length_take, List.length_drop, List.length_replicate, List.length_set]; omega)) | with_reducible refine altF ?_ | with_reducible refine all fun _ => ?_ | with_reducible refine both ?_ ?_ | (with_reducible refine choT ?_ ?_; omega) | (with_reducible refine choF ?_ ?_; omega) | with_reducible refine cho (fun _ => ?_) (fun _ => ?_))
  · rename_i hf
    obtain ⟨h64, h0, hs, hr⟩ := fit_right hf
    refine loopI (β := Nat) (fun i => i ≤ l.length) (fun i => [.lst 4 (l.map En.av) m, S (blk l i).1, S (blk l i).2, I .i64 ((blk l i).2.length / 4 : Nat), I .i64 (i : Nat)]) (fun _ => []) (fun i => l.length - i) 0 (Nat.zero_le _) ?_ ?_
    · simp only [blk, List.length_nil, Nat.zero_div]
      exact Sub.refl _ _
    intro i hi
    obtain ⟨b1, b2, b3⟩ := blk_length hr i hi
    have hsh := sharedAt_le l i
    by_cases hlt : i < l.length
    · have hri := hr i (by omega)
      obtain ⟨k0, k1, k2, k3, k4, k5⟩ := right_bounds hri
      have hprev : (l.getD (i - 1) default).key.length ≤ 128 := by
        rcases Nat.eq_zero_or_pos i with e | e
        · subst e; exact k1
        · exact (right_bounds (hr (i - 1) (by omega))).2.1
      have hp1 := put_len64 (v := sharedAt l i) (by omega)
      have hp2 := put_len64 (v := ((l.getD i default).key.drop (sharedAt l i)).length) (by simp only [List.length_drop]; omega)
      have hseq := put_len64 (v := (l.getD i default).seq.toNat) (by omega)
      have hvl := put_len64 (v := (l.getD i default).val.length) (by omega)
      repeat' (first | with_reducible apply Stp.go | with_reducible refine imp fun _ => ?_ | (with_reducible refine hyp ?_ ?_; first | assumption | exact leftT_mem (by assumption)) | (with_reducible refine need ?_ ?_; first | trivial | omega | exact ⟨by assumption, by omega⟩ | (simp only [List.length_append, List.length_cons, List.length_nil, List.length_map, List.length_take, List.length_drop, List.length_replicate, List.length_set]; omega)) | (with_reducible refine fact ?_ ?_; first | trivial | exact ⟨rfl, rfl⟩ | kernel_rfl) | with_reducible refine choT (by assumption) ?_ | with_reducible refine choF (by assumption) ?_ | with_reducible refine choF' (by assumption) ?_ | (with_reducible refine altT ?_ ?_; first | omega | (simp only [List.length_append, List.length_cons, List.length_nil, List.length_map, List.length_take, List.length_drop, List.length_replicate, List.length_set]; omega)) | with_reducible refine altF ?_ | with_reducible refine all fun _ => ?_ | with_reducible refine both ?_ ?_ | (with_reducible refine choT ?_ ?_; omega) | (with_reducible refine choF ?_ ?_; omega) | with_reducible refine cho (fun _ => ?_) (fun _ => ?_))
      refine joinI (β := Unit) (fun _ => True) (fun _ => [.lst 4 (l.map En.av) m, S (blk l i).1, S (blk l (i + 1)).2, I .i64 ((blk l (i + 1)).2.length / 4 : Nat), I .i64 (i : Nat), I .i64 (sharedAt l i : Nat)]) (fun _ => []) ?_ ?_
      · repeat' (first | with_reducible apply Stp.go | with_reducible refine imp fun _ => ?_ | (with_reducible refine hyp ?_ ?_; first | assumption | exact leftT_mem (by assumption)) | (with_reducible refine need ?_ ?_; first | trivial | omega | exact ⟨by assumption, by omega⟩ | (simp only [List.length_append, List.length_cons, List.length_nil, List.length_map, List.length_take, List.length_drop, List.length_replicate, List.length_set]; omega)) | (with_reducible refine fact ?_ ?_; first | trivial | exact ⟨rfl, rfl⟩ | kernel_rfl) | with_reducible refine choT (by assumption) ?_ | with_reducible refine choF (by assumption) ?_ | with_reducible refine choF' (by assumption) ?_ | (with_reducible refine altT ?_ ?_; first | omega | (simp only [List.length_append, List.length_cons, List.length_nil, List.length_map, List.length_take, List.length_drop, List.length_replicate, List.length_set]; omega)) | with_reducible refine altF ?_ | with_reducible refine all fun _ => ?_ | with_reducible refine both ?_ ?_ | (with_reducible refine choT ?_ ?_; omega) | (with_reducible refine choF ?_ ?_; omega) | with_reducible refine cho (fun _ => ?_) (fun _ => ?_))
        · rename_i h8
          have e : (blk l (i + 1)).2 = (blk l i).2 ++ fixed (blk l i).1.length := by simp only [blk, h8, if_true]
          have e2 : sharedAt l i = 0 := by simp only [sharedAt, h8, if_true]
          have e3 : (blk l (i + 1)).2.length / 4 = (blk l i).2.length / 4 + 1 := by rw [e, List.length_append]; simp only [fixed, List.length_cons, List.length_nil]; omega
          refine meet () trivial ?_
          rw [e2, e3, e]
          exact Sub.refl _ _
        · rename_i h8
          have e : (blk l (i + 1)).2 = (blk l i).2 := by simp only [blk, h8, if_false, List.append_nil]
          have e2 : common (l.getD (i - 1) default).key (l.getD i default).key = sharedAt l i := by simp only [sharedAt, h8, if_false]
          refine meet () trivial ?_
          rw [e2, e]
          exact Sub.refl _ _
      · intro _ _
        obtain ⟨X, hX⟩ : ∃ X, X = (blk l i).1 ++ put (sharedAt l i) ++ (put ((l.getD i default).key.drop (sharedAt l i)).length ++ (l.getD i default).key.drop (sharedAt l i)) := ⟨_, rfl⟩
        have hd1 : ((l.getD i default).key.drop (sharedAt l i)).length ≤ 128 := by rw [List.length_drop]; omega
        have hXl : X.length ≤ 1200 * i + 150 := by
          rw [hX, List.length_append, List.length_append, List.length_append]
          omega
        repeat' (first | with_reducible apply Stp.go | with_reducible refine imp fun _ => ?_ | (with_reducible refine hyp ?_ ?_; first | assumption | exact leftT_mem (by assumption)) | (with_reducible refine need ?_ ?_; first | trivial | omega | exact ⟨by assumption, by omega⟩ | (simp only [List.length_append, List.length_cons, List.length_nil, List.length_map, List.length_take, List.length_drop, List.length_replicate, List.length_set]; omega)) | (with_reducible refine fact ?_ ?_; first | trivial | exact ⟨rfl, rfl⟩ | kernel_rfl) | with_reducible refine choT (by assumption) ?_ | with_reducible refine choF (by assumption) ?_ | with_reducible refine choF' (by assumption) ?_ | (with_reducible refine altT ?_ ?_; first | omega | (simp only [List.length_append, List.length_cons, List.length_nil, List.length_map, List.length_take, List.length_drop, List.length_replicate, List.length_set]; omega)) | with_reducible refine altF ?_ | with_reducible refine all fun _ => ?_ | with_reducible refine both ?_ ?_ | (with_reducible refine choT ?_ ?_; omega) | (with_reducible refine choF ?_ ?_; omega) | with_reducible refine cho (fun _ => ?_) (fun _ => ?_))
        rw [← hX]
        refine joinI (β := Unit) (fun _ => True) (fun _ => [.lst 4 (l.map En.av) m, S X, S (blk l (i + 1)).2, I .i64 ((blk l (i + 1)).2.length / 4 : Nat), I .i64 (i : Nat), W8 (if (l.getD i default).del = true then 1 else 0)]) (fun _ => []) ?_ ?_
        · repeat' (first | with_reducible apply Stp.go | with_reducible refine imp fun _ => ?_ | (with_reducible refine hyp ?_ ?_; first | assumption | exact leftT_mem (by assumption)) | (with_reducible refine need ?_ ?_; first | trivial | omega | exact ⟨by assumption, by omega⟩ | (simp only [List.length_append, List.length_cons, List.length_nil, List.length_map, List.length_take, List.length_drop, List.length_replicate, List.length_set]; omega)) | (with_reducible refine fact ?_ ?_; first | trivial | exact ⟨rfl, rfl⟩ | kernel_rfl) | with_reducible refine choT (by assumption) ?_ | with_reducible refine choF (by assumption) ?_ | with_reducible refine choF' (by assumption) ?_ | (with_reducible refine altT ?_ ?_; first | omega | (simp only [List.length_append, List.length_cons, List.length_nil, List.length_map, List.length_take, List.length_drop, List.length_replicate, List.length_set]; omega)) | with_reducible refine altF ?_ | with_reducible refine all fun _ => ?_ | with_reducible refine both ?_ ?_ | (with_reducible refine choT ?_ ?_; omega) | (with_reducible refine choF ?_ ?_; omega) | with_reducible refine cho (fun _ => ?_) (fun _ => ?_))
          · rename_i hd
            refine meet () trivial ?_
            rw [if_pos hd]
            exact Sub.refl _ _
          · rename_i hd
            refine meet () trivial ?_
            rw [if_neg hd]
            exact Sub.refl _ _
        · intro _ _
          have fin : (blk l (i + 1)).1 = X ++ [if (l.getD i default).del = true then (1 : UInt8) else 0] ++ put (l.getD i default).seq.toNat ++ (if (l.getD i default).del = true then [] else put (l.getD i default).val.length ++ (l.getD i default).val) := by
            rw [hX]
            simp only [blk, encE, List.append_assoc]
          repeat' (first | with_reducible apply Stp.go | with_reducible refine imp fun _ => ?_ | (with_reducible refine hyp ?_ ?_; first | assumption | exact leftT_mem (by assumption)) | (with_reducible refine need ?_ ?_; first | trivial | omega | exact ⟨by assumption, by omega⟩ | (simp only [List.length_append, List.length_cons, List.length_nil, List.length_map, List.length_take, List.length_drop, List.length_replicate, List.length_set]; omega)) | (with_reducible refine fact ?_ ?_; first | trivial | exact ⟨rfl, rfl⟩ | kernel_rfl) | with_reducible refine choT (by assumption) ?_ | with_reducible refine choF (by assumption) ?_ | with_reducible refine choF' (by assumption) ?_ | (with_reducible refine altT ?_ ?_; first | omega | (simp only [List.length_append, List.length_cons, List.length_nil, List.length_map, List.length_take, List.length_drop, List.length_replicate, List.length_set]; omega)) | with_reducible refine altF ?_ | with_reducible refine all fun _ => ?_ | with_reducible refine both ?_ ?_ | (with_reducible refine choT ?_ ?_; omega) | (with_reducible refine choF ?_ ?_; omega) | with_reducible refine cho (fun _ => ?_) (fun _ => ?_))
          · rename_i hd
            refine again (i + 1) (by omega) (by omega) ?_
            rw [fin]
            simp only [if_pos hd, List.append_nil]
            exact Sub.refl _ _
          · rename_i hd
            refine again (i + 1) (by omega) (by omega) ?_
            rw [fin]
            simp only [if_neg hd]
            exact Sub.refl _ _
    · have e : i = l.length := by omega
      subst e
      repeat' (first | with_reducible apply Stp.go | with_reducible refine imp fun _ => ?_ | (with_reducible refine hyp ?_ ?_; first | assumption | exact leftT_mem (by assumption)) | (with_reducible refine need ?_ ?_; first | trivial | omega | exact ⟨by assumption, by omega⟩ | (simp only [List.length_append, List.length_cons, List.length_nil, List.length_map, List.length_take, List.length_drop, List.length_replicate, List.length_set]; omega)) | (with_reducible refine fact ?_ ?_; first | trivial | exact ⟨rfl, rfl⟩ | kernel_rfl) | with_reducible refine choT (by assumption) ?_ | with_reducible refine choF (by assumption) ?_ | with_reducible refine choF' (by assumption) ?_ | (with_reducible refine altT ?_ ?_; first | omega | (simp only [List.length_append, List.length_cons, List.length_nil, List.length_map, List.length_take, List.length_drop, List.length_replicate, List.length_set]; omega)) | with_reducible refine altF ?_ | with_reducible refine all fun _ => ?_ | with_reducible refine both ?_ ?_ | (with_reducible refine choT ?_ ?_; omega) | (with_reducible refine choF ?_ ?_; omega) | with_reducible refine cho (fun _ => ?_) (fun _ => ?_))
      simp [blkB, blkE, hf, blockBytes]
  · rename_i hf
    simp [blkB, blkE, hf]
end Go.Ab

/- The sum of a text (SHA-256), as a function of its bytes. No program in sight. -/
set_option linter.unusedVariables false
set_option linter.unusedSimpArgs false
namespace Go.Ab
theorem or_mul {x y : UInt32} {q k : Nat} (hx : x.toNat = q * 2 ^ k) (hy : y.toNat < 2 ^ k) : (x ||| y).toNat = q * 2 ^ k + y.toNat := by
  rw [UInt32.toNat_or, hx, ← Nat.shiftLeft_eq, ← Nat.shiftLeft_add_eq_or_of_lt hy]
theorem shl_mul {x : UInt32} {k : Nat} (hk : k < 32) (hx : x.toNat * 2 ^ k < 4294967296) : (x <<< UInt32.ofNat k).toNat = x.toNat * 2 ^ k := by
  have e : (UInt32.ofNat k).toNat = k := by rw [UInt32.toNat_ofNat']; exact Nat.mod_eq_of_lt (by omega)
  rw [UInt32.toNat_shiftLeft, e, Nat.mod_eq_of_lt hk, Nat.shiftLeft_eq]
  exact Nat.mod_eq_of_lt hx
theorem b32 (c : UInt8) : (UInt32.ofNat c.toNat).toNat = c.toNat := by
  have := UInt8.toNat_lt c
  rw [UInt32.toNat_ofNat']; exact Nat.mod_eq_of_lt (by omega)
theorem getD_app_r {α : Type} (a b : List α) (i : Nat) (d : α) (h : a.length ≤ i) : (a ++ b).getD i d = b.getD (i - a.length) d := by
  rw [List.getD_eq_getElem?_getD, List.getElem?_append_right h, List.getD_eq_getElem?_getD]
theorem getD_app_l {α : Type} (a b : List α) (i : Nat) (d : α) (h : i < a.length) : (a ++ b).getD i d = a.getD i d := by
  rw [List.getD_eq_getElem?_getD, List.getElem?_append_left h, List.getD_eq_getElem?_getD]
/-- Four bytes as a word. -/
def be32 (a b c d : UInt8) : UInt32 := UInt32.ofNat (((a.toNat * 256 + b.toNat) * 256 + c.toNat) * 256 + d.toNat)
theorem be32_or (a b c d : UInt8) : UInt32.ofNat a.toNat <<< UInt32.ofNat 24 ||| UInt32.ofNat b.toNat <<< UInt32.ofNat 16 ||| UInt32.ofNat c.toNat <<< UInt32.ofNat 8 ||| UInt32.ofNat d.toNat = be32 a b c d := by
  have ha := UInt8.toNat_lt a
  have hb := UInt8.toNat_lt b
  have hc := UInt8.toNat_lt c
  have hd := UInt8.toNat_lt d
  have s1 := shl_mul (x := UInt32.ofNat a.toNat) (k := 24) (by decide) (by rw [b32]; omega)
  have s2 := shl_mul (x := UInt32.ofNat b.toNat) (k := 16) (by decide) (by rw [b32]; omega)
  have s3 := shl_mul (x := UInt32.ofNat c.toNat) (k := 8) (by decide) (by rw [b32]; omega)
  rw [b32] at s1 s2 s3
  have t1 := or_mul s1 (y := UInt32.ofNat b.toNat <<< UInt32.ofNat 16) (by rw [s2]; omega)
  rw [s2] at t1
  have t2 := or_mul (q := a.toNat * 256 + b.toNat) (k := 16) (t1.trans (by omega)) (y := UInt32.ofNat c.toNat <<< UInt32.ofNat 8) (by rw [s3]; omega)
  rw [s3] at t2
  have t3 := or_mul (q := (a.toNat * 256 + b.toNat) * 256 + c.toNat) (k := 8) (t2.trans (by omega)) (y := UInt32.ofNat d.toNat) (by rw [b32]; omega)
  rw [b32] at t3
  rw [be32]
  have e : ((a.toNat * 256 + b.toNat) * 256 + c.toNat) * 256 + d.toNat = ((a.toNat * 256 + b.toNat) * 256 + c.toNat) * 2 ^ 8 + d.toNat := rfl
  rw [e, ← t3, UInt32.ofNat_toNat]
def rotr (x : UInt32) (n : Nat) : UInt32 := x >>> UInt32.ofNat n ||| x <<< UInt32.ofNat (32 - n)
/-- The words of a block. -/
def wNext (w : List UInt32) : UInt32 :=
  let x := w.getD (w.length - 15) 0
  let y := w.getD (w.length - 2) 0
  (rotr y 17 ^^^ rotr y 19 ^^^ y >>> UInt32.ofNat 10) + w.getD (w.length - 7) 0 + (rotr x 7 ^^^ rotr x 18 ^^^ x >>> UInt32.ofNat 3) + w.getD (w.length - 16) 0
def sched (b : List UInt8) : Nat → List UInt32
  | 0 => []
  | n + 1 => sched b n ++ [if n < 16 then be32 (b.getD (4 * n) 0) (b.getD (4 * n + 1) 0) (b.getD (4 * n + 2) 0) (b.getD (4 * n + 3) 0) else wNext (sched b n)]
theorem sched_length (b : List UInt8) : ∀ n, (sched b n).length = n
  | 0 => rfl
  | n + 1 => by simp [sched, sched_length b n]
/-- The constants. -/
def shaK : List UInt32 := [
  0x428a2f98, 0x71374491, 0xb5c0fbcf, 0xe9b5dba5, 0x3956c25b, 0x59f111f1, 0x923f82a4, 0xab1c5ed5,
  0xd807aa98, 0x12835b01, 0x243185be, 0x550c7dc3, 0x72be5d74, 0x80deb1fe, 0x9bdc06a7, 0xc19bf174,
  0xe49b69c1, 0xefbe4786, 0x0fc19dc6, 0x240ca1cc, 0x2de92c6f, 0x4a7484aa, 0x5cb0a9dc, 0x76f988da,
  0x983e5152, 0xa831c66d, 0xb00327c8, 0xbf597fc7, 0xc6e00bf3, 0xd5a79147, 0x06ca6351, 0x14292967,
  0x27b70a85, 0x2e1b2138, 0x4d2c6dfc, 0x53380d13, 0x650a7354, 0x766a0abb, 0x81c2c92e, 0x92722c85,
  0xa2bfe8a1, 0xa81a664b, 0xc24b8b70, 0xc76c51a3, 0xd192e819, 0xd6990624, 0xf40e3585, 0x106aa070,
  0x19a4c116, 0x1e376c08, 0x2748774c, 0x34b0bcb5, 0x391c0cb3, 0x4ed8aa4a, 0x5b9cca4f, 0x682e6ff3,
  0x748f82ee, 0x78a5636f, 0x84c87814, 0x8cc70208, 0x90befffa, 0xa4506ceb, 0xbef9a3f7, 0xc67178f2]
def shaH : List UInt32 := [0x6a09e667, 0xbb67ae85, 0x3c6ef372, 0xa54ff53a, 0x510e527f, 0x9b05688c, 0x1f83d9ab, 0x5be0cd19]
/-- One round. -/
def shaT1 (w : List UInt32) (t : Nat) (s : List UInt32) : UInt32 :=
  let e := s.getD 4 0
  s.getD 7 0 + (rotr e 6 ^^^ rotr e 11 ^^^ rotr e 25) + ((e &&& s.getD 5 0) ^^^ (~~~ e &&& s.getD 6 0)) + shaK.getD t 0 + w.getD t 0
def shaT2 (s : List UInt32) : UInt32 :=
  let a := s.getD 0 0
  (rotr a 2 ^^^ rotr a 13 ^^^ rotr a 22) + ((a &&& s.getD 1 0) ^^^ (a &&& s.getD 2 0) ^^^ (s.getD 1 0 &&& s.getD 2 0))
def shaRound (w : List UInt32) (t : Nat) (s : List UInt32) : List UInt32 :=
  [shaT1 w t s + shaT2 s, s.getD 0 0, s.getD 1 0, s.getD 2 0, s.getD 3 0 + shaT1 w t s, s.getD 4 0, s.getD 5 0, s.getD 6 0]
def shaRounds (w : List UInt32) (h : List UInt32) : Nat → List UInt32
  | 0 => h
  | t + 1 => shaRound w t (shaRounds w h t)
theorem shaRounds_length (w : List UInt32) {h : List UInt32} (hh : h.length = 8) : ∀ t, (shaRounds w h t).length = 8
  | 0 => hh
  | t + 1 => rfl
def addW : List UInt32 → List UInt32 → List UInt32 := List.zipWith (· + ·)
/-- A block taken in. -/
def shaBlock (h : List UInt32) (b : List UInt8) : List UInt32 := addW h (shaRounds (sched b 64) h 64)
theorem shaBlock_length {h : List UInt32} (hh : h.length = 8) (b : List UInt8) : (shaBlock h b).length = 8 := by
  simp [shaBlock, addW, shaRounds_length _ hh, hh]
/-- Whole blocks, one behind the other; what is left is left. -/
def shaAll (h : List UInt32) (l : List UInt8) : List UInt32 := if _hl : 64 ≤ l.length then shaAll (shaBlock h (l.take 64)) (l.drop 64) else h
termination_by l.length
decreasing_by simp; omega
theorem shaAll_lt {h : List UInt32} {l : List UInt8} (hl : l.length < 64) : shaAll h l = h := by rw [shaAll, dif_neg (by omega)]
theorem shaAll_ge {h : List UInt32} {l : List UInt8} (hl : 64 ≤ l.length) : shaAll h l = shaAll (shaBlock h (l.take 64)) (l.drop 64) := by rw [shaAll, dif_pos hl]
theorem shaAll_length (h : List UInt32) (l : List UInt8) (hh : h.length = 8) : (shaAll h l).length = 8 := by
  induction l using (measure List.length).wf.induction generalizing h with
  | _ l ih =>
    by_cases hl : 64 ≤ l.length
    · rw [shaAll_ge hl]
      exact ih (l.drop 64) (by show (l.drop 64).length < l.length; simp; omega) _ (shaBlock_length hh _)
    · rw [shaAll_lt (by omega)]; exact hh
/-- What is left of a text behind its whole blocks. -/
def shaRest (l : List UInt8) : List UInt8 := l.drop (l.length / 64 * 64)
/-- More bytes. -/
theorem shaAll_append (h : List UInt32) (a b : List UInt8) : shaAll h (a ++ b) = shaAll (shaAll h a) (shaRest a ++ b) := by
  induction a using (measure List.length).wf.induction generalizing h with
  | _ a ih =>
    by_cases ha : 64 ≤ a.length
    · have e1 : (a ++ b).take 64 = a.take 64 := List.take_append_of_le_length ha
      have e2 : (a ++ b).drop 64 = a.drop 64 ++ b := List.drop_append_of_le_length ha
      have e3 : shaRest (a.drop 64) = shaRest a := by
        unfold shaRest
        rw [List.length_drop, List.drop_drop]
        congr 1
        omega
      rw [shaAll_ge (show 64 ≤ (a ++ b).length by simp; omega), e1, e2, ih (a.drop 64) (by show (a.drop 64).length < a.length; simp; omega), e3, ← shaAll_ge ha]
    · rw [shaAll_lt (l := a) (by omega)]
      have : shaRest a = a := by unfold shaRest; rw [show a.length / 64 = 0 by omega]; rfl
      rw [this]
/-- A text's end: a bit, zeros, its length. -/
def be64 (n : Nat) : List UInt8 := [UInt8.ofNat (n / 72057594037927936), UInt8.ofNat (n / 281474976710656), UInt8.ofNat (n / 1099511627776), UInt8.ofNat (n / 4294967296), UInt8.ofNat (n / 16777216), UInt8.ofNat (n / 65536), UInt8.ofNat (n / 256), UInt8.ofNat n]
def shaTail (n : Nat) : List UInt8 := 128 :: (List.replicate ((119 - n % 64) % 64) 0 ++ be64 (8 * n))
theorem shaTail_length (n : Nat) : (n + (shaTail n).length) % 64 = 0 ∧ (shaTail n).length ≤ 72 := by
  simp only [shaTail, be64, List.length_cons, List.length_append, List.length_replicate, List.length_nil]
  omega
/-- A word as four bytes. -/
def by32 (v : UInt32) : List UInt8 := [UInt8.ofNat (v.toNat / 16777216), UInt8.ofNat (v.toNat / 65536), UInt8.ofNat (v.toNat / 256), UInt8.ofNat v.toNat]
def shaOut (h : List UInt32) : List UInt8 := h.flatMap by32
/-- The sum. -/
def sha (l : List UInt8) : List UInt8 := shaOut (shaAll shaH (l ++ shaTail l.length))
theorem shaOut_length (h : List UInt32) : (shaOut h).length = 4 * h.length := by
  induction h with
  | nil => rfl
  | cons v h ih => simp only [shaOut, List.flatMap_cons, List.length_append] at ih ⊢; rw [ih]; simp [by32]; omega
theorem sha_length (l : List UInt8) : (sha l).length = 32 := by rw [sha, shaOut_length, shaAll_length _ _ rfl]
/-- The first bits of bytes. -/
def keepB (bits : Int) (i : Nat) (c : UInt8) : UInt8 := UInt8.ofNat (c.toNat / 2 ^ (8 - min 8 (bits - 8 * i).toNat) * 2 ^ (8 - min 8 (bits - 8 * i).toNat))
def kept (l : List UInt8) (bits : Int) : List UInt8 := (sha l).mapIdx (keepB bits)
theorem kept_length (l : List UInt8) (bits : Int) : (kept l bits).length = 32 := by rw [kept, List.length_mapIdx, sha_length]
end Go.Ab

/- Steps (part 13): arrays, in variables and in memory that turns no more; slices of a variable; rotations. No program in sight. -/
set_option linter.unusedVariables false
set_option linter.unusedSimpArgs false
namespace Go.Ab
variable {P : Program}
def wrd (w : UInt32) : AV := .val (.int .u32 w.toNat)
instance (w : UInt32) : Cells (wrd w) [W32 w] := ⟨rfl⟩
theorem told_wrd : Told wrd 1 := fun e => ⟨rfl, fun c hc => by
  have : c = wrd e := by simpa [wrd, AV.cells] using hc
  rw [this]; rfl⟩
instance : Enc wrd 1 := ⟨told_wrd, by decide, fun _ => rfl⟩
instance (n : Int) (w : UInt32) [h : U32Of n w] : AsF wrd (.val (.int .u32 n)) w := ⟨by rw [h.eq]; rfl⟩
instance : ElemF [.val (.int .u32 0)] UInt32 wrd := ⟨trivial⟩
instance (n : Nat) (c : AV) [h : One c] : Ones (List.replicate n c) := ⟨fun x hx => by rw [(List.mem_replicate.1 hx).2]; exact h.one⟩
/-- Each is one cell. -/
class EncOne {α : Type} (f : α → AV) : Prop where
  cells : ∀ a, (f a).cells = [f a]
  one : ∀ a, (f a).one = true
instance : EncOne wrd := ⟨fun _ => rfl, fun _ => rfl⟩
instance : EncOne byt := ⟨fun _ => rfl, fun _ => rfl⟩
section arr
variable {α : Type} {f : α → AV} {s sz n m a o b fl : Nat} {l l' : List α} {t : TypeId} {cs cs' : List AV} {σ rest : Store} {put : Ent → Store} {K : AV → Prop} {k : AV → Store → Prop} {u x : AV} {z : Int} {kk : IntKind} {cond : Prop}
/-! where an element stands -/
instance (priority := 1100) ixA0 [h : NatOf z a] : Stp (Do (aIndexAddr (.array n) 1 (ptrAt b 0) (.val (.int kk z))) K) (Need (a < n) (K (ptrAt b a))) := ⟨fun ⟨h1, hK⟩ => by
  refine ⟨_, ⟨by rw [h.eq]; omega, by rw [h.eq]; omega, rfl⟩, ?_⟩
  rw [h.eq, Int.toNat_natCast, addr_lit_add, Nat.mul_one, Nat.zero_add]
  exact hK⟩
instance ixA [h : NatOf z a] : Stp (Do (aIndexAddr (.array n) 1 (ptrAt b o) (.val (.int kk z))) K) (Need (a < n) (K (ptrAt b (o + a)))) := ⟨fun ⟨h1, hK⟩ => by
  refine ⟨_, ⟨by rw [h.eq]; omega, by rw [h.eq]; omega, rfl⟩, ?_⟩
  rw [h.eq, Int.toNat_natCast, addr_lit_add, Nat.mul_one]
  exact hK⟩
instance ixV [h : NatOf z a] : Stp (Do (aIndexAddr .slice 1 (.val (.slice (some ⟨b, o, none⟩) n m)) (.val (.int kk z))) K) (Need (a < n) (K (ptrAt b (o + a)))) := ⟨fun ⟨h1, hK⟩ => by
  refine ⟨_, ⟨by rw [h.eq]; omega, by rw [h.eq]; omega, rfl⟩, ?_⟩
  rw [h.eq, Int.toNat_natCast, addr_lit_add, Nat.mul_one]
  exact hK⟩
theorem drop_one [Inhabited α] (hf : EncOne f) {l : List α} {a : Nat} (h : a < l.length) : ((l.map f).drop a).take 1 = [f (l.getD a default)] := by
  have e : l.drop a = l.getD a default :: l.drop (a + 1) := by
    rw [List.drop_eq_getElem_cons h, List.getD_eq_getElem?_getD, List.getElem?_eq_getElem h]
    rfl
  rw [← List.map_drop, e]
  simp
instance ixAR [Inhabited α] [hf : EncOne f] [h : NatOf z a] : Stp (Do (aIndexAddr (.array n) 1 (.rptr (l.map f)) (.val (.int kk z))) K) (Need (a < n ∧ a < l.length) (K (.rptr [f (l.getD a default)]))) := ⟨fun ⟨h1, hK⟩ => by
  refine ⟨_, ⟨by rw [h.eq]; omega, by rw [h.eq]; omega, ?_, rfl⟩, ?_⟩
  · rw [h.eq, Int.toNat_natCast, List.length_map]; omega
  · rw [h.eq, Int.toNat_natCast, Nat.mul_one, drop_one hf h1.2]
    exact hK⟩
instance ixG [Inhabited α] [hf : EncOne f] [h : NatOf z a] [hc : Cells (f (l.getD a default)) [u]] : Stp (Do (aIndex (.array n) false 1 (.agg (l.map f)) (.val (.int kk z))) K) (Need (a < n ∧ a < l.length) (K u)) := ⟨fun ⟨h1, hK⟩ => by
  refine ⟨_, ⟨by rw [h.eq]; omega, by rw [h.eq]; omega, ?_, fun _ => rfl, rfl⟩, ?_⟩
  · rw [h.eq, Int.toNat_natCast, List.length_map]; omega
  · rw [h.eq, Int.toNat_natCast, Nat.mul_one, drop_one hf h1.2]
    have e := hc.eq
    rw [hf.cells] at e
    have e2 : f (l.getD a default) = u := by simpa using e
    rw [e2]
    exact hK⟩
/-! a variable's element -/
class ElemAt (cs : List AV) (o : Nat) (cond : outParam Prop) (u : outParam AV) : Prop where
  get : cond → o < cs.length ∧ (cs.drop o).take 1 = [u]
class SetAt (cs : List AV) (o : Nat) (x : AV) (cond : outParam Prop) (cs' : outParam (List AV)) : Prop where
  set : cond → o < cs.length ∧ splice cs o [x] = cs'
  plain : x.cells = [x] ∧ x.one = true
instance elM [Inhabited α] [hf : EncOne f] [hc : Cells (f (l.getD o default)) [u]] : ElemAt (l.map f) o (o < l.length) u := ⟨fun h => ⟨by simpa using h, by
  rw [drop_one hf h]
  have e := hc.eq
  rw [hf.cells] at e
  exact e⟩⟩
theorem splice_map {l : List α} {o : Nat} (h : o < l.length) (y : α) : splice (l.map f) o [f y] = (l.set o y).map f := by
  unfold splice
  rw [← List.map_take, ← List.map_drop, List.set_eq_take_append_cons_drop, if_pos h]
  simp
instance setMap {y : α} [hf : EncOne f] [ha : AsF f x y] : SetAt (l.map f) o x (o < l.length) ((l.set o y).map f) := ⟨fun h => ⟨by simpa using h, by rw [ha.eq]; exact splice_map h y⟩, by rw [ha.eq]; exact ⟨hf.cells y, hf.one y⟩⟩
instance (priority := 70) ldEl [hv : VarAt b σ t cs put rest] [h : ElemAt cs o cond u] : Stp (Do (loadA false 1 (ptrAt b o) σ) K) (Need cond (K u)) := ⟨fun ⟨h1, hK⟩ => by
  obtain ⟨g1, g2⟩ := h.get h1
  obtain ⟨σ1, σ2, e, _⟩ := hv.at_
  exact ⟨u, ⟨by decide, fun _ => rfl, rfl, t, cs, by rw [e]; simp, by show o + 1 ≤ _; omega, by show u = mkV false ((cs.drop o).take 1); rw [g2]; rfl⟩, hK⟩⟩
instance (priority := 70) stEl [hv : VarAt b σ t cs put rest] [h : SetAt cs o x cond cs'] : Stp (storeA 1 (ptrAt b o) x σ k) (Need cond (k .undef (put (.var b t cs')))) := ⟨fun ⟨h1, hK⟩ => by
  obtain ⟨g1, g2⟩ := h.set h1
  obtain ⟨σ1, σ2, e, e2, _⟩ := hv.at_
  refine ⟨by rw [h.plain.1]; rfl, by rw [h.plain.1]; intro c hc; rw [List.mem_singleton.1 hc]; exact h.plain.2, rfl, σ1, σ2, t, cs, e, by show o + 1 ≤ _; omega, ?_⟩
  rw [e2] at hK
  rw [h.plain.1, g2]
  exact hK⟩
/-! a variable that is an array, whole -/
instance (priority := 60) ldAll [hf : EncOne f] [hv : VarAt b σ t (l.map f) put rest] : Stp (Do (loadA true s (ptrAt b 0) σ) K) (Need (l.length = s ∧ 0 < s) (K (.agg (l.map f)))) := ⟨fun ⟨h1, hK⟩ => by
  obtain ⟨σ1, σ2, e, _⟩ := hv.at_
  refine ⟨_, ⟨h1.2, fun h => by (cases h), rfl, t, l.map f, by rw [e]; simp, by simp [h1.1], ?_⟩, hK⟩
  rw [List.drop_zero, List.take_of_length_le (by simp [h1.1])]
  rfl⟩
instance (priority := 60) stAll [hf : EncOne f] [hv : VarAt b σ t (l.map f) put rest] : Stp (storeA s (ptrAt b 0) (.agg (l'.map f)) σ k) (Need (l.length = s ∧ l'.length = s) (k .undef (put (.var b t (l'.map f))))) := ⟨fun ⟨h1, hK⟩ => by
  obtain ⟨σ1, σ2, e, e2, _⟩ := hv.at_
  refine ⟨by simp [AV.cells, h1.2], fun c hc => ?_, rfl, σ1, σ2, t, l.map f, e, by simp [h1.1], ?_⟩
  · obtain ⟨y, _, rfl⟩ := List.mem_map.1 (show c ∈ l'.map f from hc)
    exact hf.one y
  · rw [e2] at hK
    have : splice (l.map f) 0 (AV.cells (.agg (l'.map f))) = l'.map f := by
      show splice (l.map f) 0 (l'.map f) = _
      unfold splice
      rw [List.take_zero, List.nil_append, Nat.zero_add, List.drop_of_length_le (by simp; omega), List.append_nil]
    rw [this]
    exact hK⟩
/-! a slice of a variable; of an array that turns no more -/
instance slA [h : NatOf z a] : Stp (Do (aSlice (.array n) 1 (ptrAt b o) (some (.val (.int kk z))) none none) K) (Need (a < n) (K (.val (.slice (some ⟨b, o + a, none⟩) (n - a) (n - a))))) := ⟨fun ⟨h1, hK⟩ => by
  have e := h.eq
  subst e
  refine ⟨_, ⟨by omega, by omega, Int.le_refl _, rfl⟩, ?_⟩
  rw [Int.toNat_natCast, if_neg (by omega), addr_lit_add, Nat.mul_one, show ((n : Int) - (a : Int)).toNat = n - a by omega]
  exact hK⟩
instance slA0 : Stp (Do (aSlice (.array n) 1 (ptrAt b o) none none none) K) (K (.val (.slice (some ⟨b, o, none⟩) n n))) := ⟨fun hK => by
  refine ⟨_, ⟨Int.le_refl _, by omega, Int.le_refl _, rfl⟩, ?_⟩
  have e1 : ((n : Int) - 0).toNat = n := by omega
  have e2 : (if n = Int.toNat 0 then (⟨b, o, none⟩ : Addr) else (⟨b, o, none⟩ : Addr).add (Int.toNat 0 * 1)) = ⟨b, o, none⟩ := by
    split
    · rfl
    · rw [addr_lit_add]; rfl
  rw [e1, e2]
  exact hK⟩
instance slR [hf : EncOne f] : Stp (Do (aSlice (.array n) 1 (.rptr (l.map f)) none none none) K) (Need (n = l.length ∧ n ≤ maxLen) (K (.lst 1 (l.map f) .ro))) := ⟨fun ⟨h1, hK⟩ => by
  refine ⟨_, ⟨rfl, Int.le_refl _, by omega, Int.le_refl _, by simp [h1.1], h1.2, fun c hc => ?_, fun c hc => ?_, rfl⟩, ?_⟩
  · obtain ⟨y, _, rfl⟩ := List.mem_map.1 hc; exact hf.cells y
  · obtain ⟨y, _, rfl⟩ := List.mem_map.1 hc; exact hf.one y
  · rw [Int.toNat_natCast, List.take_of_length_le (by simp [h1.1])]
    exact hK⟩
instance (priority := 70) srcV [Inhabited α] [hf : EncOne f] [hv : VarAt b σ t (l.map f) put rest] [he : Enc f 1] : SrcI 1 σ (.val (.slice (some ⟨b, 0, none⟩) l.length m)) α f l := ⟨⟨⟨rfl, rfl, t, l.map f, by
    obtain ⟨σ1, σ2, e, _⟩ := hv.at_
    rw [e]; simp, by simp, fun c hc => by obtain ⟨y, _, rfl⟩ := List.mem_map.1 hc; rw [hf.cells]; rfl, by rw [List.drop_zero, List.take_of_length_le (by simp)]⟩, fun _ c hc => by obtain ⟨y, _, rfl⟩ := List.mem_map.1 hc; rw [hf.cells]; rfl⟩⟩
/-! literals of arrays -/
class ArrZ (zs : List AV) (α : outParam Type) (f : outParam (α → AV)) : Prop where
  some : True
instance (r : List AV) : ArrZ (.val (.int .u32 0) :: r) UInt32 wrd := ⟨trivial⟩
instance (priority := 60) litA {zs : List AV} {offs : List (Nat × Nat)} {parts : List (Nat × AV)} {ys : List α} [hz : ArrZ zs α f] [hf : EncOne f] [hp : Parts f parts 0 ys] : Stp (Do (aLit zs offs parts) K) (Fact (fillA (offs[·]?) zs parts = some (ys.map f)) (K (.agg (ys.map f)))) := ⟨fun ⟨h, hK⟩ => ⟨_, ⟨fun p hpm c hc => by
  rw [hp.eq] at hpm
  obtain ⟨q, hq, rfl⟩ := List.mem_map.1 hpm
  have h2 := List.mem_zipIdx hq |>.2
  have : q.1 ∈ ys.map f := by
    rw [h2.2]
    exact List.getElem_mem _
  obtain ⟨y, _, e⟩ := List.mem_map.1 this
  rw [← e, hf.cells] at hc
  rw [List.mem_singleton.1 hc]
  exact hf.one y, _, h, rfl⟩, hK⟩⟩
end arr
end Go.Ab

/- The sum of a text: what its functions do. -/
set_option linter.unusedVariables false
set_option linter.unusedSimpArgs false
namespace Go.Ab
def math_bits_RotateLeft32.mark : Mark := ⟨fun t => false, fun t => false, fun t => false, fun t => false, fun t => false⟩
def math_bits_RotateLeft32.ann : Ann := ⟨fun n => [], fun n => none, fun n => none⟩
/-- 'math/bits.RotateLeft32' -/
def math_bits_RotateLeft32.sh (a0 a1 : AV) (σ : Store) (Q : AEnd → Store → Prop) : Prop :=
  Do (fun x => aConvN 3 103 a1 x Go.Proofs.Try.prog) fun t7 =>
  Do (aBin Go.Proofs.Try.prog .and 103 t7 (W64 31)) fun t8 =>
  Do (aBin Go.Proofs.Try.prog .shl 73 a0 t8) fun t11 =>
  Do (aBin Go.Proofs.Try.prog .sub 103 (W64 32) t8) fun t14 =>
  Do (aBin Go.Proofs.Try.prog .shr 73 a0 t14) fun t15 =>
  Do (aBin Go.Proofs.Try.prog .or 73 t11 t15) fun t16 =>
  Q (.ret t16) σ
theorem math_bits_RotateLeft32.eq (a0 a1 : AV) (σ : Store) (Q : AEnd → Store → Prop) : vc (semOf Go.Proofs.Try.prog math_bits_RotateLeft32.mark) Go.Proofs.Try.f123.ntmps math_bits_RotateLeft32.ann (bodyOf Go.Proofs.Try.f123) (endK [.tmp 4] Q) (argFr [a0, a1]) σ = math_bits_RotateLeft32.sh a0 a1 σ Q := by kernel_rfl
theorem math_bits_RotateLeft32.go {a0 a1 : AV} {σ : Store} {Q : AEnd → Store → Prop} (h : math_bits_RotateLeft32.sh a0 a1 σ Q) : ACalls Go.Proofs.Try.prog 123 [a0, a1] σ Q :=
  acalls_of_eq [.tmp 4] Go.Proofs.Try.func123 (by kernel_rfl) (by kernel_rfl) (by kernel_rfl) (by kernel_rfl) (math_bits_RotateLeft32.eq a0 a1 σ Q) h
theorem rot_ok (x : UInt32) (n : Nat) (h0 : 0 < n) (h1 : n < 32) : aPure Go.Proofs.Try.prog 123 [W32 x, I .i64 (-(n : Int))] (W32 (rotr x n)) := by
  refine math_bits_RotateLeft32.go ?_
  unfold math_bits_RotateLeft32.sh
  refine s_conv (k := .i64) (k' := .u64) (by kernel_rfl) (by kernel_rfl) ?_
  have e : IntKind.wrap .u64 (-(n : Int)) = (((UInt64.ofNat (18446744073709551616 - n)).toNat : Nat) : Int) := by
    rw [u64_len (by omega)]
    simp only [IntKind.wrap, IntKind.bits, IntKind.signed, Bool.false_and]
    rw [if_neg (by simp)]
    omega
  rw [e]
  have e2 : (UInt64.ofNat (18446744073709551616 - n) &&& 31).toNat = 32 - n := by
    rw [UInt64.toNat_and, u64_len (by omega), show UInt64.toNat 31 = 2 ^ 5 - 1 from rfl, Nat.and_two_pow_sub_one_eq_mod]
    omega
  have e3 : (32 - (UInt64.ofNat (18446744073709551616 - n) &&& 31)).toNat = n := by
    rw [UInt64.toNat_sub, e2, show UInt64.toNat 32 = 32 from rfl]
    omega
  repeat' (first | with_reducible apply Stp.go | with_reducible refine imp fun _ => ?_ | (with_reducible refine hyp ?_ ?_; first | assumption | exact leftT_mem (by assumption)) | (with_reducible refine need ?_ ?_; first | trivial | omega | exact ⟨by assumption, by omega⟩ | (simp only [List.length_append, List.length_cons, List.length_nil, List.length_map, List.length_take, List.length_drop, List.length_replicate, List.length_set]; omega)) | (with_reducible refine fact ?_ ?_; first | trivial | exact ⟨rfl, rfl⟩ | kernel_rfl) | with_reducible refine choT (by assumption) ?_ | with_reducible refine choF (by assumption) ?_ | with_reducible refine choF' (by assumption) ?_ | (with_reducible refine altT ?_ ?_; first | omega | (simp only [List.length_append, List.length_cons, List.length_nil, List.length_map, List.length_take, List.length_drop, List.length_replicate, List.length_set]; omega)) | with_reducible refine altF ?_ | with_reducible refine all fun _ => ?_ | with_reducible refine both ?_ ?_ | (with_reducible refine choT ?_ ?_; omega) | (with_reducible refine choF ?_ ?_; omega) | with_reducible refine cho (fun _ => ?_) (fun _ => ?_))
  rw [e2, e3]
  refine ⟨?_, rfl⟩
  rw [UInt32.or_comm]
  rfl
instance {x : UInt32} : PC Go.Proofs.Try.prog 123 [.val (.int .u32 (x.toNat : Nat)), .val (.int .i64 (-2))] True (W32 (rotr x 2)) := ⟨fun _ => PC.of (rot_ok x 2 (by decide) (by decide))⟩
instance {x : UInt32} : PC Go.Proofs.Try.prog 123 [.val (.int .u32 (x.toNat : Nat)), .val (.int .i64 (-6))] True (W32 (rotr x 6)) := ⟨fun _ => PC.of (rot_ok x 6 (by decide) (by decide))⟩
instance {x : UInt32} : PC Go.Proofs.Try.prog 123 [.val (.int .u32 (x.toNat : Nat)), .val (.int .i64 (-7))] True (W32 (rotr x 7)) := ⟨fun _ => PC.of (rot_ok x 7 (by decide) (by decide))⟩
instance {x : UInt32} : PC Go.Proofs.Try.prog 123 [.val (.int .u32 (x.toNat : Nat)), .val (.int .i64 (-11))] True (W32 (rotr x 11)) := ⟨fun _ => PC.of (rot_ok x 11 (by decide) (by decide))⟩
instance {x : UInt32} : PC Go.Proofs.Try.prog 123 [.val (.int .u32 (x.toNat : Nat)), .val (.int .i64 (-13))] True (W32 (rotr x 13)) := ⟨fun _ => PC.of (rot_ok x 13 (by decide) (by decide))⟩
instance {x : UInt32} : PC Go.Proofs.Try.prog 123 [.val (.int .u32 (x.toNat : Nat)), .val (.int .i64 (-17))] True (W32 (rotr x 17)) := ⟨fun _ => PC.of (rot_ok x 17 (by decide) (by decide))⟩
instance {x : UInt32} : PC Go.Proofs.Try.prog 123 [.val (.int .u32 (x.toNat : Nat)), .val (.int .i64 (-18))] True (W32 (rotr x 18)) := ⟨fun _ => PC.of (rot_ok x 18 (by decide) (by decide))⟩
instance {x : UInt32} : PC Go.Proofs.Try.prog 123 [.val (.int .u32 (x.toNat : Nat)), .val (.int .i64 (-19))] True (W32 (rotr x 19)) := ⟨fun _ => PC.of (rot_ok x 19 (by decide) (by decide))⟩
instance {x : UInt32} : PC Go.Proofs.Try.prog 123 [.val (.int .u32 (x.toNat : Nat)), .val (.int .i64 (-22))] True (W32 (rotr x 22)) := ⟨fun _ => PC.of (rot_ok x 22 (by decide) (by decide))⟩
instance {x : UInt32} : PC Go.Proofs.Try.prog 123 [.val (.int .u32 (x.toNat : Nat)), .val (.int .i64 (-25))] True (W32 (rotr x 25)) := ⟨fun _ => PC.of (rot_ok x 25 (by decide) (by decide))⟩
instance : FoldC (List.replicate 64 (.val (.int .u32 0))) ((List.replicate 64 (0 : UInt32)).map wrd) := ⟨rfl⟩
instance : FoldC [.val (.int .u32 0), .val (.int .u32 0), .val (.int .u32 0), .val (.int .u32 0), .val (.int .u32 0), .val (.int .u32 0), .val (.int .u32 0), .val (.int .u32 0)] ((List.replicate 8 (0 : UInt32)).map wrd) := ⟨rfl⟩
instance : FoldC [.val (.int .u8 0), .val (.int .u8 0), .val (.int .u8 0), .val (.int .u8 0), .val (.int .u8 0), .val (.int .u8 0), .val (.int .u8 0), .val (.int .u8 0), .val (.int .u8 0), .val (.int .u8 0), .val (.int .u8 0), .val (.int .u8 0), .val (.int .u8 0), .val (.int .u8 0), .val (.int .u8 0), .val (.int .u8 0), .val (.int .u8 0), .val (.int .u8 0), .val (.int .u8 0), .val (.int .u8 0), .val (.int .u8 0), .val (.int .u8 0), .val (.int .u8 0), .val (.int .u8 0), .val (.int .u8 0), .val (.int .u8 0), .val (.int .u8 0), .val (.int .u8 0), .val (.int .u8 0), .val (.int .u8 0), .val (.int .u8 0), .val (.int .u8 0)] ((List.replicate 32 (0 : UInt8)).map byt) := ⟨rfl⟩
def sum_words.mark : Mark := ⟨fun t => false, fun t => false, fun t => false, fun t => false, fun t => false⟩
def sum_words.ann : Ann := ⟨fun n => [], fun n => none, fun n => none⟩
/-- 'marlstone/sum.words' -/
def sum_words.sh (σ : Store) (Q : AEnd → Store → Prop) : Prop :=
  aNewVar 148 ((List.replicate 64 (.val (.int .u32 0)))) σ fun t0 σ =>
  Do (aLit ((List.replicate 64 (.val (.int .u32 0)))) ((List.range 64).map fun i => (i * 1, 1)) ([(0, (W32 1116352408)), (1, (W32 1899447441)), (2, (W32 3049323471)), (3, (W32 3921009573)), (4, (W32 961987163)), (5, (W32 1508970993)), (6, (W32 2453635748)), (7, (W32 2870763221)), (8, (W32 3624381080)), (9, (W32 310598401)), (10, (W32 607225278)), (11, (W32 1426881987)), (12, (W32 1925078388)), (13, (W32 2162078206)), (14, (W32 2614888103)), (15, (W32 3248222580)), (16, (W32 3835390401)), (17, (W32 4022224774)), (18, (W32 264347078)), (19, (W32 604807628)), (20, (W32 770255983)), (21, (W32 1249150122)), (22, (W32 1555081692)), (23, (W32 1996064986)), (24, (W32 2554220882)), (25, (W32 2821834349)), (26, (W32 2952996808)), (27, (W32 3210313671)), (28, (W32 3336571891)), (29, (W32 3584528711)), (30, (W32 113926993)), (31, (W32 338241895))] ++ ([(32, (W32 666307205)), (33, (W32 773529912)), (34, (W32 1294757372)), (35, (W32 1396182291)), (36, (W32 1695183700)), (37, (W32 1986661051)), (38, (W32 2177026350)), (39, (W32 2456956037)), (40, (W32 2730485921)), (41, (W32 2820302411)), (42, (W32 3259730800)), (43, (W32 3345764771)), (44, (W32 3516065817)), (45, (W32 3600352804)), (46, (W32 4094571909)), (47, (W32 275423344)), (48, (W32 430227734)), (49, (W32 506948616)), (50, (W32 659060556)), (51, (W32 883997877)), (52, (W32 958139571)), (53, (W32 1322822218)), (54, (W32 1537002063)), (55, (W32 1747873779)), (56, (W32 1955562222)), (57, (W32 2024104815)), (58, (W32 2227730452)), (59, (W32 2361852424)), (60, (W32 2428436474)), (61, (W32 2756734187)), (62, (W32 3204031479)), (63, (W32 3329325298))]))) fun t1 =>
  storeA 64 t0 t1 σ fun u σ_1 =>
  Do (loadA true 64 t0 σ_1) fun r0 => Q (.ret r0) σ_1
theorem sum_words.eq (σ : Store) (Q : AEnd → Store → Prop) : vc (semOf Go.Proofs.Try.prog sum_words.mark) Go.Proofs.Try.f116.ntmps sum_words.ann (bodyOf Go.Proofs.Try.f116) (endK [.cell 0 true 64] Q) (argFr []) σ = sum_words.sh  σ Q := by kernel_rfl
theorem sum_words.go {σ : Store} {Q : AEnd → Store → Prop} (h : sum_words.sh  σ Q) : ACalls Go.Proofs.Try.prog 116 [] σ Q :=
  acalls_of_eq [.cell 0 true 64] Go.Proofs.Try.func116 (by kernel_rfl) (by kernel_rfl) (by kernel_rfl) (by kernel_rfl) (sum_words.eq  σ Q) h
theorem words_ok : aPure Go.Proofs.Try.prog 116 [] (.agg (shaK.map wrd)) := by
  refine ACalls.fin (sum_words.go ?_)
  unfold sum_words.sh
  repeat' (first | with_reducible apply Stp.go | with_reducible refine imp fun _ => ?_ | (with_reducible refine hyp ?_ ?_; first | assumption | exact leftT_mem (by assumption)) | (with_reducible refine need ?_ ?_; first | trivial | omega | exact ⟨by assumption, by omega⟩ | (simp only [List.length_append, List.length_cons, List.length_nil, List.length_map, List.length_take, List.length_drop, List.length_replicate, List.length_set]; omega)) | (with_reducible refine fact ?_ ?_; first | trivial | exact ⟨rfl, rfl⟩ | kernel_rfl) | with_reducible refine choT (by assumption) ?_ | with_reducible refine choF (by assumption) ?_ | with_reducible refine choF' (by assumption) ?_ | (with_reducible refine altT ?_ ?_; first | omega | (simp only [List.length_append, List.length_cons, List.length_nil, List.length_map, List.length_take, List.length_drop, List.length_replicate, List.length_set]; omega)) | with_reducible refine altF ?_ | with_reducible refine all fun _ => ?_ | with_reducible refine both ?_ ?_ | (with_reducible refine choT ?_ ?_; omega) | (with_reducible refine choF ?_ ?_; omega) | with_reducible refine cho (fun _ => ?_) (fun _ => ?_))
  refine ⟨.agg (shaK.map wrd), ⟨by unfold partsOne; decide +kernel, shaK.map wrd, by kernel_rfl, rfl⟩, ?_⟩
  repeat' (first | with_reducible apply Stp.go | with_reducible refine imp fun _ => ?_ | (with_reducible refine hyp ?_ ?_; first | assumption | exact leftT_mem (by assumption)) | (with_reducible refine need ?_ ?_; first | trivial | omega | exact ⟨by assumption, by omega⟩ | (simp only [List.length_append, List.length_cons, List.length_nil, List.length_map, List.length_take, List.length_drop, List.length_replicate, List.length_set]; omega)) | (with_reducible refine fact ?_ ?_; first | trivial | exact ⟨rfl, rfl⟩ | kernel_rfl) | with_reducible refine choT (by assumption) ?_ | with_reducible refine choF (by assumption) ?_ | with_reducible refine choF' (by assumption) ?_ | (with_reducible refine altT ?_ ?_; first | omega | (simp only [List.length_append, List.length_cons, List.length_nil, List.length_map, List.length_take, List.length_drop, List.length_replicate, List.length_set]; omega)) | with_reducible refine altF ?_ | with_reducible refine all fun _ => ?_ | with_reducible refine both ?_ ?_ | (with_reducible refine choT ?_ ?_; omega) | (with_reducible refine choF ?_ ?_; omega) | with_reducible refine cho (fun _ => ?_) (fun _ => ?_))
  refine ⟨_, _, _, rfl, Sub.app_nil _, rfl, rfl⟩
instance : PC Go.Proofs.Try.prog 116 [] True (.agg (shaK.map wrd)) := ⟨fun _ => PC.of words_ok⟩
/-- What sums: its words, the constants, the part of a block that is held. -/
def hsCs (h k : List UInt32) (p : List UInt8) (q : Nat) (s : UInt64) : List AV := h.map wrd ++ (k.map wrd ++ (p.map byt ++ [I .i64 (q : Nat), W64 s]))
section hs
variable {h k : List UInt32} {p : List UInt8} {q : Nat} {s : UInt64} {o a b : Nat}
def hsOk (h k : List UInt32) (p : List UInt8) : Prop := h.length = 8 ∧ k.length = 64 ∧ p.length = 64
theorem hs_len (hh : hsOk h k p) : (hsCs h k p q s).length = 138 := by
  obtain ⟨h1, h2, h3⟩ := hh
  simp [hsCs, h1, h2, h3]
theorem hs_drop8 (hh : hsOk h k p) : (hsCs h k p q s).drop 8 = k.map wrd ++ (p.map byt ++ [I .i64 (q : Nat), W64 s]) := by
  rw [hsCs, show 8 = (h.map wrd).length by simp [hh.1], List.drop_left]
theorem hs_drop72 (hh : hsOk h k p) : (hsCs h k p q s).drop 72 = p.map byt ++ [I .i64 (q : Nat), W64 s] := by
  rw [show 72 = 8 + 64 from rfl, ← List.drop_drop, hs_drop8 hh, show 64 = (k.map wrd).length by simp [hh.2.1], List.drop_left]
theorem hs_drop136 (hh : hsOk h k p) : (hsCs h k p q s).drop 136 = [I .i64 (q : Nat), W64 s] := by
  rw [show 136 = 72 + 64 from rfl, ← List.drop_drop, hs_drop72 hh, show 64 = (p.map byt).length by simp [hh.2.2], List.drop_left]
instance (priority := 900) : ElemAt (hsCs h k p q s) o (hsOk h k p ∧ o < 8) (W32 (h.getD o default)) := ⟨fun ⟨hh, ho⟩ => ⟨by rw [hs_len hh]; omega, by
  have h1 := hh.1
  rw [hsCs, List.drop_append_of_le_length (by simp; omega), List.take_append_of_le_length (by simp; omega), drop_one (inferInstance : EncOne wrd) (by omega)]; rfl⟩⟩
instance (priority := 1100) : ElemAt (hsCs h k p q s) (8 + a) (hsOk h k p ∧ a < 64) (W32 (k.getD a default)) := ⟨fun ⟨hh, ho⟩ => ⟨by rw [hs_len hh]; omega, by
  have h1 := hh.2.1
  rw [← List.drop_drop, hs_drop8 hh, List.drop_append_of_le_length (by simp; omega), List.take_append_of_le_length (by simp; omega), drop_one (inferInstance : EncOne wrd) (by omega)]; rfl⟩⟩
instance (priority := 1100) : ElemAt (hsCs h k p q s) (72 + a) (hsOk h k p ∧ a < 64) (W8 (p.getD a default)) := ⟨fun ⟨hh, ho⟩ => ⟨by rw [hs_len hh]; omega, by
  have h1 := hh.2.2
  rw [← List.drop_drop, hs_drop72 hh, List.drop_append_of_le_length (by simp; omega), List.take_append_of_le_length (by simp; omega), drop_one (inferInstance : EncOne byt) (by omega)]; rfl⟩⟩
instance (priority := 1200) : ElemAt (hsCs h k p q s) 136 (hsOk h k p) (I .i64 (q : Nat)) := ⟨fun hh => ⟨by rw [hs_len hh]; omega, by rw [hs_drop136 hh]; rfl⟩⟩
instance (priority := 1200) : ElemAt (hsCs h k p q s) 137 (hsOk h k p) (W64 s) := ⟨fun hh => ⟨by rw [hs_len hh]; omega, by rw [show 137 = 136 + 1 from rfl, ← List.drop_drop, hs_drop136 hh]; rfl⟩⟩
theorem splice_at {cs pre post : List AV} {o : Nat} {x y : AV} (e : cs = pre ++ x :: post) (ho : o = pre.length) : splice cs o [y] = pre ++ y :: post := by
  subst e; subst ho
  simp [splice, List.drop_append]
theorem hs_136 (hh : hsOk h k p) : hsCs h k p q s = (h.map wrd ++ (k.map wrd ++ p.map byt)) ++ I .i64 (q : Nat) :: [W64 s] := by simp [hsCs]
instance (priority := 1200) {x : Int} {n : Nat} [hx : NatOf x n] : SetAt (hsCs h k p q s) 136 (.val (.int .i64 x)) (hsOk h k p) (hsCs h k p n s) := ⟨fun hh => ⟨by rw [hs_len hh]; omega, by
  rw [splice_at (hs_136 hh) (by simp [hh.1, hh.2.1, hh.2.2]), hx.eq]
  simp [hsCs]⟩, rfl, rfl⟩
instance (priority := 1200) {x : Int} {w : UInt64} [hx : U64Of x w] : SetAt (hsCs h k p q s) 137 (.val (.int .u64 x)) (hsOk h k p) (hsCs h k p q w) := ⟨fun hh => ⟨by rw [hs_len hh]; omega, by
  rw [splice_at (pre := h.map wrd ++ (k.map wrd ++ (p.map byt ++ [I .i64 (q : Nat)]))) (x := W64 s) (post := []) (by simp [hsCs]) (by simp [hh.1, hh.2.1, hh.2.2]), hx.eq]
  simp [hsCs]⟩, rfl, rfl⟩
instance (priority := 900) {x : Int} {w : UInt32} [hx : U32Of x w] : SetAt (hsCs h k p q s) o (.val (.int .u32 x)) (hsOk h k p ∧ o < 8) (hsCs (h.set o w) k p q s) := ⟨fun ⟨hh, ho⟩ => ⟨by rw [hs_len hh]; omega, by
  have h1 := hh.1
  have e := splice_map (f := wrd) (l := h) (o := o) (by omega) w
  have e2 : wrd w = .val (.int .u32 x) := by rw [hx.eq]; rfl
  rw [e2] at e
  rw [hsCs, hsCs, ← e]
  unfold splice
  rw [List.take_append_of_le_length (by simp; omega), List.drop_append_of_le_length (by simp; omega)]
  simp⟩, rfl, rfl⟩
instance (priority := 65) ldHs {t : TypeId} {σ rest : Store} {put : Ent → Store} {K : AV → Prop} [hv : VarAt b σ t (hsCs h k p q s) put rest] : Stp (Do (loadA true 8 (ptrAt b 0) σ) K) (Need (hsOk h k p) (K (.agg (h.map wrd)))) := ⟨fun ⟨hh, hK⟩ => by
  obtain ⟨σ1, σ2, e, _⟩ := hv.at_
  refine ⟨_, ⟨by decide, fun h => by (cases h), rfl, t, _, by rw [e]; exact List.mem_append.2 (.inr (List.mem_cons_self ..)), by rw [hs_len hh]; exact Nat.le_of_ble_eq_true rfl, ?_⟩, hK⟩
  have h1 := hh.1
  show _ = mkV true (((hsCs h k p q s).drop 0).take 8)
  rw [List.drop_zero, hsCs, show 8 = (h.map wrd).length by simp [h1], List.take_left]
  rfl⟩
end hs
def sum_Hash_block.mark : Mark := ⟨fun t => Nat.beq t 70 || Nat.beq t 72 || Nat.beq t 78 || Nat.beq t 80 || Nat.beq t 114 || Nat.beq t 116 || Nat.beq t 119 || Nat.beq t 145 || Nat.beq t 147 || Nat.beq t 150, fun t => false, fun t => false, fun t => false, fun t => false⟩
def sum_Hash_block.ann : Ann := ⟨fun n => bif Nat.beq n 2 then [0, 1, 4, 18] else bif Nat.beq n 7 then [0, 4, 6] else bif Nat.beq n 15 then [0, 4, 11, 104] else bif Nat.beq n 23 then [0, 11, 187] else [], fun n => none, fun n => none⟩
/-- '(*marlstone/sum.Hash).block' -/
def sum_Hash_block.sh (a0 a1 : AV) (σ : Store) (Q : AEnd → Store → Prop) : Prop :=
  aNewVar 148 ((List.replicate 64 (.val (.int .u32 0)))) σ fun t4 σ =>
  aLoop (fun go vs σ_1 =>
    At vs 0 fun s0 => At vs 1 fun s1 => At vs 2 fun s4 => At vs 3 fun s18 => Do (aBin Go.Proofs.Try.prog .lss 3 s18 (.val (.int .i64 16))) fun t19 =>
    aCond t19
      (Do (aBin Go.Proofs.Try.prog .mul 3 (.val (.int .i64 4)) s18) fun t24 =>
    Do (aIndexAddr .slice 1 s1 t24) fun t25 =>
    Do (loadA false 1 t25 σ_1) fun t26 =>
    Do (fun x => aConvN 5 73 t26 x Go.Proofs.Try.prog) fun t27 =>
    Do (aBin Go.Proofs.Try.prog .shl 73 t27 (W64 24)) fun t28 =>
    Do (aBin Go.Proofs.Try.prog .mul 3 (.val (.int .i64 4)) s18) fun t31 =>
    Do (aBin Go.Proofs.Try.prog .add 3 t31 (.val (.int .i64 1))) fun t32 =>
    Do (aIndexAddr .slice 1 s1 t32) fun t33 =>
    Do (loadA false 1 t33 σ_1) fun t34 =>
    Do (fun x => aConvN 5 73 t34 x Go.Proofs.Try.prog) fun t35 =>
    Do (aBin Go.Proofs.Try.prog .shl 73 t35 (W64 16)) fun t36 =>
    Do (aBin Go.Proofs.Try.prog .or 73 t28 t36) fun t37 =>
    Do (aBin Go.Proofs.Try.prog .mul 3 (.val (.int .i64 4)) s18) fun t40 =>
    Do (aBin Go.Proofs.Try.prog .add 3 t40 (.val (.int .i64 2))) fun t41 =>
    Do (aIndexAddr .slice 1 s1 t41) fun t42 =>
    Do (loadA false 1 t42 σ_1) fun t43 =>
    Do (fun x => aConvN 5 73 t43 x Go.Proofs.Try.prog) fun t44 =>
    Do (aBin Go.Proofs.Try.prog .shl 73 t44 (W64 8)) fun t45 =>
    Do (aBin Go.Proofs.Try.prog .or 73 t37 t45) fun t46 =>
    Do (aBin Go.Proofs.Try.prog .mul 3 (.val (.int .i64 4)) s18) fun t49 =>
    Do (aBin Go.Proofs.Try.prog .add 3 t49 (.val (.int .i64 3))) fun t50 =>
    Do (aIndexAddr .slice 1 s1 t50) fun t51 =>
    Do (loadA false 1 t51 σ_1) fun t52 =>
    Do (fun x => aConvN 5 73 t52 x Go.Proofs.Try.prog) fun t53 =>
    Do (aBin Go.Proofs.Try.prog .or 73 t46 t53) fun t54 =>
    Do (aIndexAddr (.array 64) 1 s4 s18) fun t55 =>
    storeA 1 t55 t54 σ_1 fun u σ_2 =>
    Do (aBin Go.Proofs.Try.prog .add 3 s18 (.val (.int .i64 1))) fun t56 =>
    go [s0, s1, s4, t56] σ_2)
      (aLoop (fun go_1 vs_1 σ_3 =>
    At vs_1 0 fun s0_1 => At vs_1 1 fun s4_1 => At vs_1 2 fun s6 => Do (aBin Go.Proofs.Try.prog .lss 3 s6 (.val (.int .i64 64))) fun t58 =>
    aCond t58
      (Do (aBin Go.Proofs.Try.prog .sub 3 s6 (.val (.int .i64 15))) fun t62 =>
    Do (aIndexAddr (.array 64) 1 s4_1 t62) fun t63 =>
    Do (loadA false 1 t63 σ_3) fun t64 =>
    Do (aBin Go.Proofs.Try.prog .sub 3 s6 (.val (.int .i64 2))) fun t66 =>
    Do (aIndexAddr (.array 64) 1 s4_1 t66) fun t67 =>
    Do (loadA false 1 t67 σ_3) fun t68 =>
    Do (aPureC Go.Proofs.Try.prog 123 [t64, (.val (.int .i64 (-7)))]) fun t70 =>
    Do (aPureC Go.Proofs.Try.prog 123 [t64, (.val (.int .i64 (-18)))]) fun t72 =>
    Do (aBin Go.Proofs.Try.prog .xor 73 t70 t72) fun t73 =>
    Do (aBin Go.Proofs.Try.prog .shr 73 t64 (W64 3)) fun t75 =>
    Do (aBin Go.Proofs.Try.prog .xor 73 t73 t75) fun t76 =>
    Do (aPureC Go.Proofs.Try.prog 123 [t68, (.val (.int .i64 (-17)))]) fun t78 =>
    Do (aPureC Go.Proofs.Try.prog 123 [t68, (.val (.int .i64 (-19)))]) fun t80 =>
    Do (aBin Go.Proofs.Try.prog .xor 73 t78 t80) fun t81 =>
    Do (aBin Go.Proofs.Try.prog .shr 73 t68 (W64 10)) fun t83 =>
    Do (aBin Go.Proofs.Try.prog .xor 73 t81 t83) fun t84 =>
    Do (aBin Go.Proofs.Try.prog .sub 3 s6 (.val (.int .i64 7))) fun t88 =>
    Do (aIndexAddr (.array 64) 1 s4_1 t88) fun t89 =>
    Do (loadA false 1 t89 σ_3) fun t90 =>
    Do (aBin Go.Proofs.Try.prog .add 73 t84 t90) fun t91 =>
    Do (aBin Go.Proofs.Try.prog .add 73 t91 t76) fun t93 =>
    Do (aBin Go.Proofs.Try.prog .sub 3 s6 (.val (.int .i64 16))) fun t95 =>
    Do (aIndexAddr (.array 64) 1 s4_1 t95) fun t96 =>
    Do (loadA false 1 t96 σ_3) fun t97 =>
    Do (aBin Go.Proofs.Try.prog .add 73 t93 t97) fun t98 =>
    Do (aIndexAddr (.array 64) 1 s4_1 s6) fun t99 =>
    storeA 1 t99 t98 σ_3 fun u_1 σ_4 =>
    Do (aBin Go.Proofs.Try.prog .add 3 s6 (.val (.int .i64 1))) fun t60 =>
    go_1 [s0_1, s4_1, t60] σ_4)
      (Do (aNil s0_1) fun t101 =>
  Do (aFieldAddr 0 8 t101) fun t102 =>
  Do (loadA true 8 t102 σ_3) fun t103 =>
  aNewVar 147 [.val (.int .u32 0), .val (.int .u32 0), .val (.int .u32 0), .val (.int .u32 0), .val (.int .u32 0), .val (.int .u32 0), .val (.int .u32 0), .val (.int .u32 0)] σ_3 fun t11 σ_5 =>
  storeA 8 t11 t103 σ_5 fun u_2 σ_6 =>
  aLoop (fun go_2 vs_2 σ_7 =>
    At vs_2 0 fun s0_2 => At vs_2 1 fun s4_2 => At vs_2 2 fun s11 => At vs_2 3 fun s104 => Do (aBin Go.Proofs.Try.prog .lss 3 s104 (.val (.int .i64 64))) fun t105 =>
    aCond t105
      (Do (aIndexAddr (.array 8) 1 s11 (.val (.int .i64 0))) fun t107 =>
    Do (loadA false 1 t107 σ_7) fun t108 =>
    Do (aIndexAddr (.array 8) 1 s11 (.val (.int .i64 4))) fun t109 =>
    Do (loadA false 1 t109 σ_7) fun t110 =>
    Do (aIndexAddr (.array 8) 1 s11 (.val (.int .i64 7))) fun t111 =>
    Do (loadA false 1 t111 σ_7) fun t112 =>
    Do (aPureC Go.Proofs.Try.prog 123 [t110, (.val (.int .i64 (-6)))]) fun t114 =>
    Do (aPureC Go.Proofs.Try.prog 123 [t110, (.val (.int .i64 (-11)))]) fun t116 =>
    Do (aBin Go.Proofs.Try.prog .xor 73 t114 t116) fun t117 =>
    Do (aPureC Go.Proofs.Try.prog 123 [t110, (.val (.int .i64 (-25)))]) fun t119 =>
    Do (aBin Go.Proofs.Try.prog .xor 73 t117 t119) fun t120 =>
    Do (aBin Go.Proofs.Try.prog .add 73 t112 t120) fun t121 =>
    Do (aIndexAddr (.array 8) 1 s11 (.val (.int .i64 5))) fun t123 =>
    Do (loadA false 1 t123 σ_7) fun t124 =>
    Do (aBin Go.Proofs.Try.prog .and 73 t110 t124) fun t125 =>
    Do (aUn Go.Proofs.Try.prog .xor t110) fun t127 =>
    Do (aIndexAddr (.array 8) 1 s11 (.val (.int .i64 6))) fun t128 =>
    Do (loadA false 1 t128 σ_7) fun t129 =>
    Do (aBin Go.Proofs.Try.prog .and 73 t127 t129) fun t130 =>
    Do (aBin Go.Proofs.Try.prog .xor 73 t125 t130) fun t131 =>
    Do (aBin Go.Proofs.Try.prog .add 73 t121 t131) fun t132 =>
    Do (aNil s0_2) fun t135 =>
    Do (aFieldAddr 8 64 t135) fun t136 =>
    Do (aIndexAddr (.array 64) 1 t136 s104) fun t137 =>
    Do (loadA false 1 t137 σ_7) fun t138 =>
    Do (aBin Go.Proofs.Try.prog .add 73 t132 t138) fun t139 =>
    Do (aIndexAddr (.array 64) 1 s4_2 s104) fun t141 =>
    Do (loadA false 1 t141 σ_7) fun t142 =>
    Do (aBin Go.Proofs.Try.prog .add 73 t139 t142) fun t143 =>
    Do (aPureC Go.Proofs.Try.prog 123 [t108, (.val (.int .i64 (-2)))]) fun t145 =>
    Do (aPureC Go.Proofs.Try.prog 123 [t108, (.val (.int .i64 (-13)))]) fun t147 =>
    Do (aBin Go.Proofs.Try.prog .xor 73 t145 t147) fun t148 =>
    Do (aPureC Go.Proofs.Try.prog 123 [t108, (.val (.int .i64 (-22)))]) fun t150 =>
    Do (aBin Go.Proofs.Try.prog .xor 73 t148 t150) fun t151 =>
    Do (aIndexAddr (.array 8) 1 s11 (.val (.int .i64 1))) fun t153 =>
    Do (loadA false 1 t153 σ_7) fun t154 =>
    Do (aBin Go.Proofs.Try.prog .and 73 t108 t154) fun t155 =>
    Do (aIndexAddr (.array 8) 1 s11 (.val (.int .i64 2))) fun t157 =>
    Do (loadA false 1 t157 σ_7) fun t158 =>
    Do (aBin Go.Proofs.Try.prog .and 73 t108 t158) fun t159 =>
    Do (aBin Go.Proofs.Try.prog .xor 73 t155 t159) fun t160 =>
    Do (aIndexAddr (.array 8) 1 s11 (.val (.int .i64 1))) fun t161 =>
    Do (loadA false 1 t161 σ_7) fun t162 =>
    Do (aIndexAddr (.array 8) 1 s11 (.val (.int .i64 2))) fun t163 =>
    Do (loadA false 1 t163 σ_7) fun t164 =>
    Do (aBin Go.Proofs.Try.prog .and 73 t162 t164) fun t165 =>
    Do (aBin Go.Proofs.Try.prog .xor 73 t160 t165) fun t166 =>
    Do (aBin Go.Proofs.Try.prog .add 73 t151 t166) fun t167 =>
    Do (aBin Go.Proofs.Try.prog .add 73 t143 t167) fun t170 =>
    Do (aIndexAddr (.array 8) 1 s11 (.val (.int .i64 1))) fun t172 =>
    Do (loadA false 1 t172 σ_7) fun t173 =>
    Do (aIndexAddr (.array 8) 1 s11 (.val (.int .i64 2))) fun t174 =>
    Do (loadA false 1 t174 σ_7) fun t175 =>
    Do (aIndexAddr (.array 8) 1 s11 (.val (.int .i64 3))) fun t176 =>
    Do (loadA false 1 t176 σ_7) fun t177 =>
    Do (aBin Go.Proofs.Try.prog .add 73 t177 t143) fun t179 =>
    Do (aIndexAddr (.array 8) 1 s11 (.val (.int .i64 5))) fun t181 =>
    Do (loadA false 1 t181 σ_7) fun t182 =>
    Do (aIndexAddr (.array 8) 1 s11 (.val (.int .i64 6))) fun t183 =>
    Do (loadA false 1 t183 σ_7) fun t184 =>
    Do (aLit [.val (.int .u32 0), .val (.int .u32 0), .val (.int .u32 0), .val (.int .u32 0), .val (.int .u32 0), .val (.int .u32 0), .val (.int .u32 0), .val (.int .u32 0)] [(0, 1), (1, 1), (2, 1), (3, 1), (4, 1), (5, 1), (6, 1), (7, 1)] [(0, t170), (1, t108), (2, t173), (3, t175), (4, t179), (5, t110), (6, t182), (7, t184)]) fun t185 =>
    storeA 8 s11 t185 σ_7 fun u_3 σ_8 =>
    Do (aBin Go.Proofs.Try.prog .add 3 s104 (.val (.int .i64 1))) fun t186 =>
    go_2 [s0_2, s4_2, s11, t186] σ_8)
      (aLoop (fun go_3 vs_3 σ_9 =>
    At vs_3 0 fun s0_3 => At vs_3 1 fun s11_1 => At vs_3 2 fun s187 => Do (aBin Go.Proofs.Try.prog .lss 3 s187 (.val (.int .i64 8))) fun t188 =>
    aCond t188
      (Do (aNil s0_3) fun t192 =>
    Do (aFieldAddr 0 8 t192) fun t193 =>
    Do (aIndexAddr (.array 8) 1 t193 s187) fun t194 =>
    Do (loadA false 1 t194 σ_9) fun t195 =>
    Do (aIndexAddr (.array 8) 1 s11_1 s187) fun t197 =>
    Do (loadA false 1 t197 σ_9) fun t198 =>
    Do (aBin Go.Proofs.Try.prog .add 73 t195 t198) fun t199 =>
    Do (aNil s0_3) fun t200 =>
    Do (aFieldAddr 0 8 t200) fun t201 =>
    Do (aIndexAddr (.array 8) 1 t201 s187) fun t202 =>
    storeA 1 t202 t199 σ_9 fun u_4 σ_10 =>
    Do (aBin Go.Proofs.Try.prog .add 3 s187 (.val (.int .i64 1))) fun t203 =>
    go_3 [s0_3, s11_1, t203] σ_10)
      (Q (.ret (.tuple [])) σ_9))
    [s0_2, s11, (.val (.int .i64 0))] σ_7))
    [s0_1, s4_1, t11, (.val (.int .i64 0))] σ_6))
    [s0, s4, (.val (.int .i64 16))] σ_1))
    [a0, a1, t4, (.val (.int .i64 0))] σ
theorem sum_Hash_block.eq (a0 a1 : AV) (σ : Store) (Q : AEnd → Store → Prop) : vc (semOf Go.Proofs.Try.prog sum_Hash_block.mark) Go.Proofs.Try.f117.ntmps sum_Hash_block.ann (bodyOf Go.Proofs.Try.f117) (endK [] Q) (argFr [a0, a1]) σ = sum_Hash_block.sh a0 a1 σ Q := by kernel_rfl
theorem sum_Hash_block.go {a0 a1 : AV} {σ : Store} {Q : AEnd → Store → Prop} (h : sum_Hash_block.sh a0 a1 σ Q) : ACalls Go.Proofs.Try.prog 117 [a0, a1] σ Q :=
  acalls_of_eq [] Go.Proofs.Try.func117 (by kernel_rfl) (by kernel_rfl) (by kernel_rfl) (by kernel_rfl) (sum_Hash_block.eq a0 a1 σ Q) h
theorem set_sched {b : List UInt8} {t n : Nat} (h : t < n) (x : UInt32) (hx : x = (sched b (t + 1)).getD t 0) : (sched b t ++ List.replicate (n - t) 0).set t x = sched b (t + 1) ++ List.replicate (n - (t + 1)) 0 := by
  obtain ⟨m, hm⟩ : ∃ m, n - t = m + 1 := ⟨n - t - 1, by omega⟩
  rw [hm, show n - (t + 1) = m by omega, List.set_append_right _ _ (by rw [sched_length]; omega), sched_length, Nat.sub_self, List.replicate_succ, List.set_cons_zero]
  have e : sched b (t + 1) = sched b t ++ [x] := by
    rw [hx]
    conv => lhs; rw [sched]
    conv => rhs; rw [sched]
    rw [getD_app_r _ _ _ _ (by rw [sched_length]; omega), sched_length, Nat.sub_self]
    rfl
  rw [e]
  simp
theorem get_sched {b : List UInt8} {t j : Nat} (r : List UInt32) (h : j < t) : (sched b t ++ r).getD j default = (sched b t).getD j 0 := by
  rw [getD_app_l _ _ _ _ (by rw [sched_length]; exact h)]
  rfl
theorem sched_at (b : List UInt8) (t : Nat) : (sched b (t + 1)).getD t 0 = if t < 16 then be32 (b.getD (4 * t) 0) (b.getD (4 * t + 1) 0) (b.getD (4 * t + 2) 0) (b.getD (4 * t + 3) 0) else wNext (sched b t) := by
  conv => lhs; rw [sched]
  rw [getD_app_r _ _ _ _ (by rw [sched_length]; omega), sched_length, Nat.sub_self]
  rfl
/-- Words added, so far. -/
def addTo (h S : List UInt32) (i : Nat) : List UInt32 := addW (h.take i) (S.take i) ++ h.drop i
theorem addTo_length {h S : List UInt32} (hh : h.length = 8) (hS : S.length = 8) {i : Nat} (hi : i ≤ 8) : (addTo h S i).length = 8 := by
  simp [addTo, addW, hh, hS]; omega
theorem addTo_get {h S : List UInt32} (hh : h.length = 8) (hS : S.length = 8) {i : Nat} (hi : i < 8) : (addTo h S i).getD i default = h.getD i default := by
  have e : (addW (h.take i) (S.take i)).length = i := by simp [addW, hh, hS]; omega
  rw [addTo, getD_app_r _ _ _ _ (by omega), e, Nat.sub_self, drop_cons_d (by omega)]
  rfl
theorem addTo_set {h S : List UInt32} (hh : h.length = 8) (hS : S.length = 8) {i : Nat} (hi : i < 8) : (addTo h S i).set i ((addTo h S i).getD i default + S.getD i default) = addTo h S (i + 1) := by
  have e : (addW (h.take i) (S.take i)).length = i := by simp [addW, hh, hS]; omega
  rw [addTo_get hh hS hi, addTo, List.set_append_right _ _ (by omega), e, Nat.sub_self, drop_cons_d (show i < h.length by omega), List.set_cons_zero]
  rw [addTo, take_succ_d (show i < h.length by omega), take_succ_d (show i < S.length by omega)]
  unfold addW
  rw [List.zipWith_append (by simp [hh, hS])]
  simp
theorem addTo_all {h S : List UInt32} (hh : h.length = 8) (hS : S.length = 8) : addTo h S 8 = addW h S := by
  rw [addTo, List.take_of_length_le (by omega), List.take_of_length_le (by omega), List.drop_of_length_le (by omega), List.append_nil]
abbrev HT : TypeId := 152
set_option maxHeartbeats 1000000 in
theorem block_ok (b : Nat) (h : List UInt32) (p : List UInt8) (q : Nat) (s : UInt64) (hh : hsOk h shaK p) : ACalls Go.Proofs.Try.prog 117 [ptrAt b 0, .val (.slice (some ⟨b, 72, none⟩) 64 64)] [.var b HT (hsCs h shaK p q s)]
    fun x σ' => x = .ret (.tuple []) ∧ σ' = [.var b HT (hsCs (shaBlock h p) shaK p q s)] := by
  have h8 := hh.1
  refine ACalls.fin (sum_Hash_block.go ?_)
  unfold sum_Hash_block.sh
  repeat' (first | with_reducible apply Stp.go | with_reducible refine imp fun _ => ?_ | (with_reducible refine hyp ?_ ?_; first | assumption | exact leftT_mem (by assumption)) | (with_reducible refine need ?_ ?_; first | trivial | omega | exact ⟨by assumption, by omega⟩ | (simp only [List.length_append, List.length_cons, List.length_nil, List.length_map, List.length_take, List.length_drop, List.length_replicate, List.length_set]; omega)) | (with_reducible refine fact ?_ ?_; first | trivial | exact ⟨rfl, rfl⟩ | kernel_rfl) | with_reducible refine choT (by assumption) ?_ | with_reducible refine choF (by assumption) ?_ | with_reducible refine choF' (by assumption) ?_ | (with_reducible refine altT ?_ ?_; first | omega | (simp only [List.length_append, List.length_cons, List.length_nil, List.length_map, List.length_take, List.length_drop, List.length_replicate, List.length_set]; omega)) | with_reducible refine altF ?_ | with_reducible refine all fun _ => ?_ | with_reducible refine both ?_ ?_ | (with_reducible refine choT ?_ ?_; omega) | (with_reducible refine choF ?_ ?_; omega) | with_reducible refine cho (fun _ => ?_) (fun _ => ?_))
  rename_i w
  refine loopI (β := Nat) (fun t => t ≤ 16) (fun t => [ptrAt b 0, .val (.slice (some ⟨b, 72, none⟩) 64 64), ptrAt w 0, I .i64 (t : Nat)]) (fun t => [.var w 148 ((sched p t ++ List.replicate (64 - t) 0).map wrd), .var b HT (hsCs h shaK p q s)]) (fun t => 16 - t) 0 (Nat.zero_le _) (Sub.refl _ _) ?_
  intro t ht
  by_cases hlt : t < 16
  · have hlen : (sched p t ++ List.replicate (64 - t) 0).length = 64 := by simp [sched_length]; omega
    repeat' (first | with_reducible apply Stp.go | with_reducible refine imp fun _ => ?_ | (with_reducible refine hyp ?_ ?_; first | assumption | exact leftT_mem (by assumption)) | (with_reducible refine need ?_ ?_; first | trivial | omega | exact ⟨by assumption, by omega⟩ | (simp only [List.length_append, List.length_cons, List.length_nil, List.length_map, List.length_take, List.length_drop, List.length_replicate, List.length_set]; omega)) | (with_reducible refine fact ?_ ?_; first | trivial | exact ⟨rfl, rfl⟩ | kernel_rfl) | with_reducible refine choT (by assumption) ?_ | with_reducible refine choF (by assumption) ?_ | with_reducible refine choF' (by assumption) ?_ | (with_reducible refine altT ?_ ?_; first | omega | (simp only [List.length_append, List.length_cons, List.length_nil, List.length_map, List.length_take, List.length_drop, List.length_replicate, List.length_set]; omega)) | with_reducible refine altF ?_ | with_reducible refine all fun _ => ?_ | with_reducible refine both ?_ ?_ | (with_reducible refine choT ?_ ?_; omega) | (with_reducible refine choF ?_ ?_; omega) | with_reducible refine cho (fun _ => ?_) (fun _ => ?_))
    refine again (t + 1) (by omega) (by omega) ?_
    rw [set_sched (n := 64) (by omega) _ (by rw [sched_at, if_pos hlt]; exact be32_or _ _ _ _)]
    exact Sub.refl _ _
  · have e : t = 16 := by omega
    subst e
    repeat' (first | with_reducible apply Stp.go | with_reducible refine imp fun _ => ?_ | (with_reducible refine hyp ?_ ?_; first | assumption | exact leftT_mem (by assumption)) | (with_reducible refine need ?_ ?_; first | trivial | omega | exact ⟨by assumption, by omega⟩ | (simp only [List.length_append, List.length_cons, List.length_nil, List.length_map, List.length_take, List.length_drop, List.length_replicate, List.length_set]; omega)) | (with_reducible refine fact ?_ ?_; first | trivial | exact ⟨rfl, rfl⟩ | kernel_rfl) | with_reducible refine choT (by assumption) ?_ | with_reducible refine choF (by assumption) ?_ | with_reducible refine choF' (by assumption) ?_ | (with_reducible refine altT ?_ ?_; first | omega | (simp only [List.length_append, List.length_cons, List.length_nil, List.length_map, List.length_take, List.length_drop, List.length_replicate, List.length_set]; omega)) | with_reducible refine altF ?_ | with_reducible refine all fun _ => ?_ | with_reducible refine both ?_ ?_ | (with_reducible refine choT ?_ ?_; omega) | (with_reducible refine choF ?_ ?_; omega) | with_reducible refine cho (fun _ => ?_) (fun _ => ?_))
    refine loopI (β := Nat) (fun t => 16 ≤ t ∧ t ≤ 64) (fun t => [ptrAt b 0, ptrAt w 0, I .i64 (t : Nat)]) (fun t => [.var w 148 ((sched p t ++ List.replicate (64 - t) 0).map wrd), .var b HT (hsCs h shaK p q s)]) (fun t => 64 - t) 16 (by decide) (Sub.refl _ _) ?_
    rintro t ⟨ht0, ht1⟩
    by_cases hlt : t < 64
    · have hlen : (sched p t ++ List.replicate (64 - t) 0).length = 64 := by simp [sched_length]; omega
      repeat' (first | with_reducible apply Stp.go | with_reducible refine imp fun _ => ?_ | (with_reducible refine hyp ?_ ?_; first | assumption | exact leftT_mem (by assumption)) | (with_reducible refine need ?_ ?_; first | trivial | omega | exact ⟨by assumption, by omega⟩ | (simp only [List.length_append, List.length_cons, List.length_nil, List.length_map, List.length_take, List.length_drop, List.length_replicate, List.length_set]; omega)) | (with_reducible refine fact ?_ ?_; first | trivial | exact ⟨rfl, rfl⟩ | kernel_rfl) | with_reducible refine choT (by assumption) ?_ | with_reducible refine choF (by assumption) ?_ | with_reducible refine choF' (by assumption) ?_ | (with_reducible refine altT ?_ ?_; first | omega | (simp only [List.length_append, List.length_cons, List.length_nil, List.length_map, List.length_take, List.length_drop, List.length_replicate, List.length_set]; omega)) | with_reducible refine altF ?_ | with_reducible refine all fun _ => ?_ | with_reducible refine both ?_ ?_ | (with_reducible refine choT ?_ ?_; omega) | (with_reducible refine choF ?_ ?_; omega) | with_reducible refine cho (fun _ => ?_) (fun _ => ?_))
      refine again (t + 1) (by omega) ⟨by omega, by omega⟩ ?_
      rw [get_sched _ (show t - 15 < t by omega), get_sched _ (show t - 2 < t by omega), get_sched _ (show t - 7 < t by omega), get_sched _ (show t - 16 < t by omega)]
      rw [set_sched (n := 64) (by omega) _ (by
        rw [sched_at, if_neg (by omega)]
        unfold wNext
        rw [sched_length])]
      exact Sub.refl _ _
    · have e : t = 64 := by omega
      subst e
      have e : sched p 64 ++ List.replicate (64 - 64) 0 = sched p 64 := by simp
      rw [e]
      have hl64 : (sched p 64).length = 64 := sched_length _ _
      obtain ⟨W, hW⟩ : ∃ W, W = sched p 64 := ⟨_, rfl⟩
      rw [← hW] at hl64 ⊢
      repeat' (first | with_reducible apply Stp.go | with_reducible refine imp fun _ => ?_ | (with_reducible refine hyp ?_ ?_; first | assumption | exact leftT_mem (by assumption)) | (with_reducible refine need ?_ ?_; first | trivial | omega | exact ⟨by assumption, by omega⟩ | (simp only [List.length_append, List.length_cons, List.length_nil, List.length_map, List.length_take, List.length_drop, List.length_replicate, List.length_set]; omega)) | (with_reducible refine fact ?_ ?_; first | trivial | exact ⟨rfl, rfl⟩ | kernel_rfl) | with_reducible refine choT (by assumption) ?_ | with_reducible refine choF (by assumption) ?_ | with_reducible refine choF' (by assumption) ?_ | (with_reducible refine altT ?_ ?_; first | omega | (simp only [List.length_append, List.length_cons, List.length_nil, List.length_map, List.length_take, List.length_drop, List.length_replicate, List.length_set]; omega)) | with_reducible refine altF ?_ | with_reducible refine all fun _ => ?_ | with_reducible refine both ?_ ?_ | (with_reducible refine choT ?_ ?_; omega) | (with_reducible refine choF ?_ ?_; omega) | with_reducible refine cho (fun _ => ?_) (fun _ => ?_))
      rename_i v
      refine loopI (β := Nat) (fun t => t ≤ 64) (fun t => [ptrAt b 0, ptrAt w 0, ptrAt v 0, I .i64 (t : Nat)]) (fun t => [.var v 147 ((shaRounds W h t).map wrd), .var w 148 (W.map wrd), .var b HT (hsCs h shaK p q s)]) (fun t => 64 - t) 0 (Nat.zero_le _) (Sub.refl _ _) ?_
      intro t ht
      have hr8 := shaRounds_length W hh.1 t
      by_cases hlt : t < 64
      · repeat' (first | with_reducible apply Stp.go | with_reducible refine imp fun _ => ?_ | (with_reducible refine hyp ?_ ?_; first | assumption | exact leftT_mem (by assumption)) | (with_reducible refine need ?_ ?_; first | trivial | omega | exact ⟨by assumption, by omega⟩ | (simp only [List.length_append, List.length_cons, List.length_nil, List.length_map, List.length_take, List.length_drop, List.length_replicate, List.length_set]; omega)) | (with_reducible refine fact ?_ ?_; first | trivial | exact ⟨rfl, rfl⟩ | kernel_rfl) | with_reducible refine choT (by assumption) ?_ | with_reducible refine choF (by assumption) ?_ | with_reducible refine choF' (by assumption) ?_ | (with_reducible refine altT ?_ ?_; first | omega | (simp only [List.length_append, List.length_cons, List.length_nil, List.length_map, List.length_take, List.length_drop, List.length_replicate, List.length_set]; omega)) | with_reducible refine altF ?_ | with_reducible refine all fun _ => ?_ | with_reducible refine both ?_ ?_ | (with_reducible refine choT ?_ ?_; omega) | (with_reducible refine choF ?_ ?_; omega) | with_reducible refine cho (fun _ => ?_) (fun _ => ?_))
        refine need ⟨hr8, rfl⟩ ?_
        repeat' (first | with_reducible apply Stp.go | with_reducible refine imp fun _ => ?_ | (with_reducible refine hyp ?_ ?_; first | assumption | exact leftT_mem (by assumption)) | (with_reducible refine need ?_ ?_; first | trivial | omega | exact ⟨by assumption, by omega⟩ | (simp only [List.length_append, List.length_cons, List.length_nil, List.length_map, List.length_take, List.length_drop, List.length_replicate, List.length_set]; omega)) | (with_reducible refine fact ?_ ?_; first | trivial | exact ⟨rfl, rfl⟩ | kernel_rfl) | with_reducible refine choT (by assumption) ?_ | with_reducible refine choF (by assumption) ?_ | with_reducible refine choF' (by assumption) ?_ | (with_reducible refine altT ?_ ?_; first | omega | (simp only [List.length_append, List.length_cons, List.length_nil, List.length_map, List.length_take, List.length_drop, List.length_replicate, List.length_set]; omega)) | with_reducible refine altF ?_ | with_reducible refine all fun _ => ?_ | with_reducible refine both ?_ ?_ | (with_reducible refine choT ?_ ?_; omega) | (with_reducible refine choF ?_ ?_; omega) | with_reducible refine cho (fun _ => ?_) (fun _ => ?_))
        refine again (t + 1) (by omega) (by omega) ?_
        exact Sub.refl _ _
      · have e : t = 64 := by omega
        subst e
        obtain ⟨S, hS⟩ : ∃ S, S = shaRounds W h 64 := ⟨_, rfl⟩
        rw [← hS] at hr8 ⊢
        repeat' (first | with_reducible apply Stp.go | with_reducible refine imp fun _ => ?_ | (with_reducible refine hyp ?_ ?_; first | assumption | exact leftT_mem (by assumption)) | (with_reducible refine need ?_ ?_; first | trivial | omega | exact ⟨by assumption, by omega⟩ | (simp only [List.length_append, List.length_cons, List.length_nil, List.length_map, List.length_take, List.length_drop, List.length_replicate, List.length_set]; omega)) | (with_reducible refine fact ?_ ?_; first | trivial | exact ⟨rfl, rfl⟩ | kernel_rfl) | with_reducible refine choT (by assumption) ?_ | with_reducible refine choF (by assumption) ?_ | with_reducible refine choF' (by assumption) ?_ | (with_reducible refine altT ?_ ?_; first | omega | (simp only [List.length_append, List.length_cons, List.length_nil, List.length_map, List.length_take, List.length_drop, List.length_replicate, List.length_set]; omega)) | with_reducible refine altF ?_ | with_reducible refine all fun _ => ?_ | with_reducible refine both ?_ ?_ | (with_reducible refine choT ?_ ?_; omega) | (with_reducible refine choF ?_ ?_; omega) | with_reducible refine cho (fun _ => ?_) (fun _ => ?_))
        refine loopI (β := Nat) (fun i => i ≤ 8) (fun i => [ptrAt b 0, ptrAt v 0, I .i64 (i : Nat)]) (fun i => [.var v 147 (S.map wrd), .var w 148 (W.map wrd), .var b HT (hsCs (addTo h S i) shaK p q s)]) (fun i => 8 - i) 0 (Nat.zero_le _) (Sub.refl _ _) ?_
        intro i hi
        have hh2 : hsOk (addTo h S i) shaK p := ⟨addTo_length hh.1 hr8 hi, hh.2⟩
        by_cases hlt : i < 8
        · repeat' (first | with_reducible apply Stp.go | with_reducible refine imp fun _ => ?_ | (with_reducible refine hyp ?_ ?_; first | assumption | exact leftT_mem (by assumption)) | (with_reducible refine need ?_ ?_; first | trivial | omega | exact ⟨by assumption, by omega⟩ | (simp only [List.length_append, List.length_cons, List.length_nil, List.length_map, List.length_take, List.length_drop, List.length_replicate, List.length_set]; omega)) | (with_reducible refine fact ?_ ?_; first | trivial | exact ⟨rfl, rfl⟩ | kernel_rfl) | with_reducible refine choT (by assumption) ?_ | with_reducible refine choF (by assumption) ?_ | with_reducible refine choF' (by assumption) ?_ | (with_reducible refine altT ?_ ?_; first | omega | (simp only [List.length_append, List.length_cons, List.length_nil, List.length_map, List.length_take, List.length_drop, List.length_replicate, List.length_set]; omega)) | with_reducible refine altF ?_ | with_reducible refine all fun _ => ?_ | with_reducible refine both ?_ ?_ | (with_reducible refine choT ?_ ?_; omega) | (with_reducible refine choF ?_ ?_; omega) | with_reducible refine cho (fun _ => ?_) (fun _ => ?_))
          refine again (i + 1) (by omega) (by omega) ?_
          rw [addTo_set hh.1 hr8 hlt]
          exact Sub.refl _ _
        · have e : i = 8 := by omega
          subst e
          repeat' (first | with_reducible apply Stp.go | with_reducible refine imp fun _ => ?_ | (with_reducible refine hyp ?_ ?_; first | assumption | exact leftT_mem (by assumption)) | (with_reducible refine need ?_ ?_; first | trivial | omega | exact ⟨by assumption, by omega⟩ | (simp only [List.length_append, List.length_cons, List.length_nil, List.length_map, List.length_take, List.length_drop, List.length_replicate, List.length_set]; omega)) | (with_reducible refine fact ?_ ?_; first | trivial | exact ⟨rfl, rfl⟩ | kernel_rfl) | with_reducible refine choT (by assumption) ?_ | with_reducible refine choF (by assumption) ?_ | with_reducible refine choF' (by assumption) ?_ | (with_reducible refine altT ?_ ?_; first | omega | (simp only [List.length_append, List.length_cons, List.length_nil, List.length_map, List.length_take, List.length_drop, List.length_replicate, List.length_set]; omega)) | with_reducible refine altF ?_ | with_reducible refine all fun _ => ?_ | with_reducible refine both ?_ ?_ | (with_reducible refine choT ?_ ?_; omega) | (with_reducible refine choF ?_ ?_; omega) | with_reducible refine cho (fun _ => ?_) (fun _ => ?_))
          refine ⟨_, _, _, rfl, subS (τ := [.var b HT (hsCs (addTo h S 8) shaK p q s)]) _, rfl, ?_⟩
          rw [addTo_all hh.1 hr8, hS, hW]
          rfl
end Go.Ab
