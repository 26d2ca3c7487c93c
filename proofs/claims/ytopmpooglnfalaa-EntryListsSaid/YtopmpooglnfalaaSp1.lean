/- What the functions of layers 1 to 4 compute, as plain functions on lists of bytes and entries. No program in sight. -/
import Derived.Test.YtopmpooglnfalaaAb16
set_option linter.unusedVariables false
set_option linter.unusedSimpArgs false
namespace Go.Ab

/-- An entry. -/
structure En where
  key : List UInt8
  val : List UInt8
  del : Bool
  seq : Int
  deriving DecidableEq, Inhabited
def En.cs (e : En) : List AV := [S e.key, S e.val, B e.del, I .i64 e.seq]
def En.av (e : En) : AV := .agg e.cs
theorem told_En : Told En.av 4 := fun e => ⟨rfl, fun c hc => by
  simp only [En.av, AV.cells, En.cs, List.mem_cons, List.not_mem_nil, or_false] at hc
  rcases hc with rfl | rfl | rfl | rfl <;> rfl⟩

variable {P : Program}
theorem s_ldEn {e : En} {σ : Store} {K : AV → Prop} (hK : K e.av) : ∃ u, loadA true 4 (.rptr e.av.cells) σ u ∧ K u := s_loadA (by decide) (by exact Nat.le_of_ble_eq_true rfl) hK
theorem s_faE0 {e : En} {K : AV → Prop} (hK : K (.rptr [S e.key])) : ∃ u, aFieldAddr 0 1 (.rptr e.av.cells) u ∧ K u := s_fa0 hK
theorem s_faE1 {e : En} {K : AV → Prop} (hK : K (.rptr [S e.val])) : ∃ u, aFieldAddr 1 1 (.rptr e.av.cells) u ∧ K u := s_fa1 hK
theorem s_faE2 {e : En} {K : AV → Prop} (hK : K (.rptr [B e.del])) : ∃ u, aFieldAddr 2 1 (.rptr e.av.cells) u ∧ K u := s_fa2 hK
theorem s_faE3 {e : En} {K : AV → Prop} (hK : K (.rptr [I .i64 e.seq])) : ∃ u, aFieldAddr 3 1 (.rptr e.av.cells) u ∧ K u := s_fa3 hK
theorem s_frE {e : En} {K : AV → Prop} (hK : K (.rptr e.av.cells)) : ∃ u, aFreeze e.av.cells u ∧ K u := s_freeze (told_En e).2 hK

def right (e : En) : Bool := decide (e.key ≠ []) && decide ((e.key.length : Int) ≤ 128) && decide ((e.val.length : Int) ≤ 1024) && !(e.del && decide (e.val ≠ [])) && decide (1 ≤ e.seq) && decide (e.seq ≤ 1099511627776)


/-- A number's bytes. -/
def put (v : Nat) : List UInt8 := if h : v < 128 then [UInt8.ofNat v] else UInt8.ofNat (v % 128 + 128) :: put (v / 128)
theorem put_small {v : Nat} (h : v < 128) : put v = [UInt8.ofNat v] := by rw [put]; simp [h]
theorem put_more {v : Nat} (h : ¬ v < 128) : put v = UInt8.ofNat (v % 128 + 128) :: put (v / 128) := by rw [put]; simp [h]
theorem or_128 (v : Nat) : (v % 256) ||| 128 = v % 128 + 128 := by
  have : ∀ a : Fin 256, (a.val ||| 128) = a.val % 128 + 128 := by decide +kernel
  have := this ⟨v % 256, Nat.mod_lt _ (by decide)⟩
  simp only at this
  rw [this]
  omega
theorem put_length (v : Nat) : ∀ n, v < 128 ^ n → 0 < n → (put v).length ≤ n := by
  intro n
  induction n generalizing v with
  | zero => intro _ h; omega
  | succ n ih =>
    intro hv _
    by_cases h : v < 128
    · rw [put_small h]; simp
    · rw [put_more h]
      have h1 : v / 128 < 128 ^ n := by
        rw [Nat.pow_succ] at hv
        exact Nat.div_lt_of_lt_mul (by rw [Nat.mul_comm]; exact hv)
      have h2 : 0 < n := by
        rcases Nat.eq_zero_or_pos n with e | e
        · subst e; simp at h1; omega
        · exact e
      have := ih _ h1 h2
      simp only [List.length_cons]
      omega
theorem put_len64 {v : Nat} (h : v < 18446744073709551616) : (put v).length ≤ 10 := put_length v 10 (Nat.lt_of_lt_of_le h (by decide)) (by decide)

theorem take_min {α : Type} (l : List α) (k : Nat) : l.take (min (l.length : Int) k).toNat = l.take k := by
  rcases Nat.le_total l.length k with h | h
  · rw [List.take_of_length_le (show l.length ≤ (min (l.length : Int) k).toNat by omega), List.take_of_length_le h]
  · congr 1; omega
theorem take_succ_d {α : Type} [Inhabited α] {l : List α} {i : Nat} (h : i < l.length) : l.take (i + 1) = l.take i ++ [l.getD i default] := by
  rw [List.take_succ_eq_append_getElem h, List.getD_eq_getElem?_getD, List.getElem?_eq_getElem h]
  rfl
theorem toNat_succ (i : Nat) : ((i : Int) + 1).toNat = i + 1 := by omega
theorem drop_cons {α : Type} [Inhabited α] {l : List α} {i : Nat} (h : i < l.length) : l.drop i = l.getD i default :: l.drop (i + 1) := by
  rw [List.drop_eq_getElem_cons h, List.getD_eq_getElem?_getD, List.getElem?_eq_getElem h]
  rfl
/-- Order of keys. -/
abbrev lt (a b : List UInt8) : Bool := Op.bytesLess a b
def sorted : List En → Bool
  | a :: b :: l => lt a.key b.key && sorted (b :: l)
  | _ => true
/-- May a list have a block. -/
def fit (l : List En) : Bool := decide (0 < l.length) && decide (l.length ≤ 64) && sorted l && l.all right
/-- How many bytes two keys have in common at the front. -/
def common : List UInt8 → List UInt8 → Nat
  | a :: as, b :: bs => if a = b then common as bs + 1 else 0
  | _, _ => 0
theorem common_le : ∀ (a b : List UInt8), common a b ≤ a.length ∧ common a b ≤ b.length
  | [], b => by simp [common]
  | a :: as, [] => by simp [common]
  | a :: as, b :: bs => by
    have := common_le as bs
    simp only [common]
    split <;> simp <;> omega
theorem common_take : ∀ (n : Nat) (a b : List UInt8), n ≤ a.length → (b.take n = a.take n ↔ n ≤ common a b)
  | 0, a, b, _ => by simp
  | n + 1, [], b, h => by simp at h
  | n + 1, a :: as, [], h => by simp [common]
  | n + 1, a :: as, b :: bs, h => by
    have := common_take n as bs (by simpa using h)
    simp only [List.take_succ_cons, List.cons.injEq, common, this]
    constructor
    · rintro ⟨rfl, h'⟩; simp; exact h'
    · intro h
      split at h
      · rename_i e; exact ⟨e.symm, by omega⟩
      · omega
theorem common_get {a b : List UInt8} {n : Nat} (h : n ≤ common a b) (ha : n < a.length) (hb : n < b.length) : a.getD n 0 = b.getD n 0 ↔ n + 1 ≤ common a b := by
  have h0 := (common_take n a b (by omega)).2 h
  have e1 : a.getD n 0 = a[n] := by simp [List.getD_eq_getElem?_getD, ha]
  have e2 : b.getD n 0 = b[n] := by simp [List.getD_eq_getElem?_getD, hb]
  rw [e1, e2, ← common_take (n + 1) a b (by omega), List.take_succ_eq_append_getElem hb, List.take_succ_eq_append_getElem ha, h0, List.append_right_inj]
  simp only [List.cons.injEq, and_true]
  exact eq_comm

theorem sorted_step {l : List En} {i : Nat} (h : i + 1 < l.length) : sorted (l.drop i) = (lt (l.getD i default).key (l.getD (i + 1) default).key && sorted (l.drop (i + 1))) := by
  rw [drop_cons (show i < l.length by omega), drop_cons h]
  rfl
theorem sorted_end {l : List En} {i : Nat} (h : l.length ≤ i + 1) : sorted (l.drop i) = true := by
  rcases Nat.lt_or_ge i l.length with hi | hi
  · rw [drop_cons hi, List.drop_of_length_le h]; rfl
  · rw [List.drop_of_length_le hi]; rfl
theorem lt_irrefl : ∀ a : List UInt8, lt a a = false
  | [] => rfl
  | a :: as => by
    have := lt_irrefl as
    simp only [lt, Op.bytesLess] at this ⊢
    simp [this]
/-- Keys held against one another. -/
def cmpK (a b : List UInt8) : Int := if lt a b = true then -1 else if a = b then 0 else 1
theorem cmpK_neg (a b : List UInt8) : 0 ≤ cmpK a b ↔ lt a b = false := by
  unfold cmpK
  split
  · rename_i h; simp [h]
  · split <;> simp_all
/-- The first place at which something holds. -/
def idx (p : En → Bool) : List En → Int
  | [] => -1
  | a :: l => if p a = true then 0 else if idx p l < 0 then -1 else idx p l + 1
theorem idx_any (p : En → Bool) : ∀ l : List En, 0 ≤ idx p l ↔ l.any p = true
  | [] => by simp [idx]
  | a :: l => by
    have := idx_any p l
    simp only [idx, List.any_cons, Bool.or_eq_true]
    split
    · rename_i h; simp [h]
    · rename_i h
      have e : (p a = true ∨ l.any p = true) ↔ 0 ≤ idx p l := by rw [this]; simp [h]
      rw [e]
      split
      · rename_i h2; constructor
        · intro h3; exact absurd h3 (by decide)
        · intro h3; omega
      · constructor <;> intro h3 <;> omega
theorem idx_lt (p : En → Bool) : ∀ l : List En, -1 ≤ idx p l ∧ idx p l < l.length
  | [] => by simp [idx]
  | a :: l => by
    have := idx_lt p l
    simp only [idx, List.length_cons]
    split
    · omega
    · split <;> omega

/-- Four bytes. -/
def fixed (v : Nat) : List UInt8 := [UInt8.ofNat (v / 16777216 % 256), UInt8.ofNat (v / 65536 % 256), UInt8.ofNat (v / 256 % 256), UInt8.ofNat (v % 256)]
/-- An entry's bytes in a block, n bytes of its key shared. -/
def encE (n : Nat) (e : En) : List UInt8 := put n ++ (put (e.key.drop n).length ++ e.key.drop n) ++ [if e.del = true then 1 else 0] ++ put e.seq.toNat ++ (if e.del = true then [] else put e.val.length ++ e.val)
/-- How many bytes are shared with the entry ahead. -/
def sharedAt (l : List En) (i : Nat) : Nat := if i % 8 = 0 then 0 else common (l.getD (i - 1) default).key (l.getD i default).key
/-- The bytes of the first entries, and of their places. -/
def blk (l : List En) : Nat → List UInt8 × List UInt8
  | 0 => ([], [])
  | i + 1 => ((blk l i).1 ++ encE (sharedAt l i) (l.getD i default), (blk l i).2 ++ if i % 8 = 0 then fixed (blk l i).1.length else [])
def blockBytes (l : List En) : List UInt8 := (blk l l.length).1 ++ (blk l l.length).2 ++ fixed ((blk l l.length).2.length / 4)
theorem fit_right {l : List En} (h : fit l = true) : l.length ≤ 64 ∧ 0 < l.length ∧ sorted l = true ∧ ∀ i, i < l.length → right (l.getD i default) = true := by
  simp only [fit, Bool.and_eq_true, decide_eq_true_eq, List.all_eq_true] at h
  obtain ⟨⟨⟨h1, h2⟩, h3⟩, h4⟩ := h
  refine ⟨h2, h1, h3, fun i hi => h4 _ ?_⟩
  rw [List.getD_eq_getElem?_getD, List.getElem?_eq_getElem hi]
  exact List.getElem_mem _
theorem right_bounds {e : En} (h : right e = true) : e.key ≠ [] ∧ e.key.length ≤ 128 ∧ e.val.length ≤ 1024 ∧ 1 ≤ e.seq ∧ e.seq ≤ 1099511627776 ∧ (e.del = true → e.val = []) := by
  simp only [right, Bool.and_eq_true, decide_eq_true_eq, Bool.not_eq_true', Bool.and_eq_false_iff, decide_eq_false_iff_not] at h
  obtain ⟨⟨⟨⟨⟨h1, h2⟩, h3⟩, h4⟩, h5⟩, h6⟩ := h
  refine ⟨h1, by omega, by omega, h5, h6, fun hd => ?_⟩
  rcases h4 with h4 | h4
  · rw [hd] at h4; cases h4
  · exact Classical.not_not.1 h4
theorem sharedAt_le (l : List En) (i : Nat) : sharedAt l i ≤ (l.getD i default).key.length := by
  unfold sharedAt
  split
  · omega
  · exact (common_le _ _).2
theorem encE_length {n : Nat} {e : En} (h : right e = true) (hn : n ≤ 128) : (encE n e).length ≤ 1200 := by
  obtain ⟨h1, h2, h3, h4, h5, h6⟩ := right_bounds h
  have a1 := put_len64 (v := n) (by omega)
  have a2 := put_len64 (v := (e.key.drop n).length) (by simp; omega)
  have a3 := put_len64 (v := e.seq.toNat) (by omega)
  have a4 := put_len64 (v := e.val.length) (by omega)
  unfold encE
  simp only [List.length_append, List.length_cons, List.length_nil, List.length_drop] at a2 ⊢
  split <;> simp only [List.length_append, List.length_nil] <;> omega
theorem blk_length {l : List En} (h : ∀ i, i < l.length → right (l.getD i default) = true) : ∀ i, i ≤ l.length → (blk l i).1.length ≤ 1200 * i ∧ (blk l i).2.length ≤ 4 * i ∧ (blk l i).2.length % 4 = 0
  | 0, _ => by simp [blk]
  | i + 1, hi => by
    have := blk_length h i (by omega)
    have hr := h i (by omega)
    have he := encE_length (n := sharedAt l i) hr (by have := sharedAt_le l i; have := (right_bounds hr).2.1; omega)
    simp only [blk, List.length_append]
    refine ⟨by omega, ?_, ?_⟩
    · split <;> simp [fixed] <;> omega
    · split <;> simp [fixed] <;> omega

end Go.Ab
