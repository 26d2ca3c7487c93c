/- A logic over abstract states (part 16): literals of slices, append, bits: steps through a printed condition. -/
import Derived.Test.YtopmpooglnfalaaAb15
set_option linter.unusedVariables false
set_option linter.unusedSimpArgs false
namespace Go.Ab
variable {P : Program}

/-! ### Literals of slices -/
theorem splice_mid {pre zs new : List AV} {off : Nat} (h : pre.length = off) (hl : new.length ≤ zs.length) : splice (pre ++ zs) off new = (pre ++ new) ++ zs.drop new.length := by
  unfold splice
  rw [List.take_append_of_le_length (by omega), List.take_of_length_le (by omega), List.drop_append, List.drop_of_length_le (by omega)]
  simp [h, List.append_assoc]
theorem fillA_row (sz : Nat) : ∀ (ps : List AV) (j : Nat) (pre zs : List AV), (∀ p ∈ ps, (p : AV).cells.length = sz) → pre.length = j * sz → zs.length = ps.length * sz →
    fillA (fun i => some (i * sz, sz)) (pre ++ zs) ((ps.zipIdx j).map fun p => (p.2, p.1)) = some (pre ++ flat ps)
  | [], j, pre, zs, hp, hj, hz => by
    simp at hz
    subst hz
    simp [fillA, flat]
  | p :: ps, j, pre, zs, hp, hj, hz => by
    have h1 : p.cells.length = sz := hp p (by simp)
    simp only [List.length_cons, Nat.add_mul, Nat.one_mul] at hz
    have hle : j * sz + sz ≤ (pre ++ zs).length := by rw [List.length_append]; omega
    simp only [List.zipIdx_cons, List.map_cons, fillA, h1, hle, and_self, if_true]
    rw [splice_mid hj (by omega)]
    have := fillA_row sz ps (j + 1) (pre ++ p.cells) (zs.drop p.cells.length) (fun q hq => hp q (by simp [hq])) (by rw [List.length_append, hj, h1, Nat.add_mul, Nat.one_mul]) (by rw [List.length_drop]; omega)
    rw [this]
    simp [flat, List.append_assoc]
theorem s_lit {z : AV} {sz n : Nat} {parts : List (Nat × AV)} {K : AV → Prop} (ps : List AV) (hz : z.cells.length = sz) (hn : ps.length = n) (he : parts = (ps.zipIdx 0).map fun p => (p.2, p.1)) (hp : ∀ p ∈ ps, (p : AV).cells.length = sz) (hone : ∀ p ∈ ps, ∀ c ∈ (p : AV).cells, c.one = true)
    (hK : K (.lst sz ps .full)) : ∃ u, aSlLit z sz n parts u ∧ K u := by
  refine ⟨.lst sz ps .full, ⟨?_, ⟨ps, hn, hp, ?_, rfl⟩, ?_⟩, hK⟩
  · intro p hp' c hc
    rw [he] at hp'
    simp only [List.mem_map] at hp'
    obtain ⟨q, hq, rfl⟩ := hp'
    have := List.mem_zipIdx hq
    refine hone q.1 ?_ c hc
    rw [this.2.2]
    exact List.getElem_mem _
  · rw [he]
    have := fillA_row sz ps 0 [] ((List.replicate n z.cells).flatten) hp (by simp) (by simp [hz, hn])
    simpa using this
  · intro l hl c hc
    cases hl
    unfold flat at hc
    obtain ⟨p, hp', hc⟩ := List.mem_flatMap.1 hc
    exact hone p hp' c hc

/-! ### Things told by a function -/
/-- Each is told in so many cells. -/
def Told {α : Type} (f : α → AV) (sz : Nat) : Prop := ∀ a, (f a).cells.length = sz ∧ ∀ c ∈ (f a).cells, c.one = true
theorem told_byt : Told byt 1 := fun a => ⟨rfl, fun c hc => by simp [byt, AV.cells] at hc; subst hc; rfl⟩
theorem told_len {α : Type} {f : α → AV} {sz : Nat} (h : Told f sz) (l : List α) : ∀ c ∈ l.map f, (c : AV).cells.length = sz := fun c hc => by
  obtain ⟨a, _, rfl⟩ := List.mem_map.1 hc
  exact (h a).1
/-- A byte that was reckoned. -/
theorem byt_of {x : Int} (h0 : 0 ≤ x) (h1 : x < 256) : (.val (.int .u8 x) : AV) = byt (UInt8.ofNat x.toNat) := by
  unfold byt
  have : (UInt8.ofNat x.toNat).toNat = x.toNat := by simp; omega
  rw [this]
  congr 2
  omega
theorem s_lit1b {x : Int} {K : AV → Prop} (h0 : 0 ≤ x) (h1 : x < 256) (hK : K (.lst 1 ([UInt8.ofNat x.toNat].map byt) .full)) : ∃ u, aSlLit (mkE [.val (.int .u8 0)]) 1 1 [(0, .val (.int .u8 x))] u ∧ K u :=
  s_lit [.val (.int .u8 x)] rfl rfl rfl (by simp [AV.cells]) (by simp [AV.cells, AV.one, Value.oneCell']) (by rw [byt_of h0 h1]; exact hK)
theorem s_lit4b {x y z w : Int} {K : AV → Prop} (h0 : 0 ≤ x) (h1 : x < 256) (h2 : 0 ≤ y) (h3 : y < 256) (h4 : 0 ≤ z) (h5 : z < 256) (h6 : 0 ≤ w) (h7 : w < 256) (hK : K (.lst 1 ([UInt8.ofNat x.toNat, UInt8.ofNat y.toNat, UInt8.ofNat z.toNat, UInt8.ofNat w.toNat].map byt) .full)) :
    ∃ u, aSlLit (mkE [.val (.int .u8 0)]) 1 4 [(0, .val (.int .u8 x)), (1, .val (.int .u8 y)), (2, .val (.int .u8 z)), (3, .val (.int .u8 w))] u ∧ K u :=
  s_lit [.val (.int .u8 x), .val (.int .u8 y), .val (.int .u8 z), .val (.int .u8 w)] rfl rfl rfl (by simp [AV.cells]) (by simp [AV.cells, AV.one, Value.oneCell']) (by rw [byt_of h0 h1, byt_of h2 h3, byt_of h4 h5, byt_of h6 h7]; exact hK)

/-! ### append -/
def Src {α : Type} (f : α → AV) (sz : Nat) (σ : Store) (x : AV) (ys : List α) : Prop := srcA sz σ x (ys.map f) ∧ (sz = 1 → ∀ c ∈ ys.map f, (c : AV).cells.length = 1)

theorem src_lst {α : Type} {f : α → AV} {sz : Nat} (hf : Told f sz) {ys : List α} {m : SM} {σ : Store} : Src f sz σ (.lst sz (ys.map f) m) ys :=
  ⟨⟨rfl, rfl⟩, fun h c hc => by rw [told_len hf ys c hc, h]⟩
theorem src_S {ys : List UInt8} {σ : Store} : Src byt 1 σ (.val (.string ⟨ys.toArray⟩)) ys :=
  ⟨⟨rfl, by simp⟩, fun h c hc => by rw [told_len told_byt ys c hc]⟩
theorem src_own {α : Type} {f : α → AV} {sz : Nat} (hf : Told f sz) {ys : List α} {v : Value} {n : Nat} {E : TypeId} {fl : Nat} {σ : Store} (hm : Ent.row v E sz (ys.map f) fl ∈ σ) : Src f sz σ (.own v n) ys :=
  ⟨⟨E, _, fl, hm, rfl⟩, fun h c hc => by rw [told_len hf ys c hc, h]⟩
theorem src_nil {sz : Nat} {σ : Store} {α : Type} {f : α → AV} : Src f sz σ (.val (.slice none 0 0)) ([] : List α) := ⟨rfl, fun _ => by simp⟩

theorem s_app_full {α : Type} {f : α → AV} {E : TypeId} {sz by_ : Nat} {l ys : List α} {x : AV} {σ : Store} {k : AV → Store → Prop} (hs : Src f sz σ x ys) (hy : ys ≠ []) (hb : (l.length + ys.length) * by_ ≤ 140737488355328) (hm : l.length + ys.length ≤ 9223372036854775807)
    (hk : ∀ v, k (.own v (l ++ ys).length) (.row v E sz ((l ++ ys).map f) 0 :: σ)) : aAppend E sz by_ (.lst sz (l.map f) .full) x σ k := by
  refine ⟨ys.map f, hs.1, hs.2, .inr ?_⟩
  refine ⟨rfl, by simpa using hy, by simpa using hb, by simp [maxLen]; omega, fun v => ?_⟩
  have := hk v
  simpa using this
theorem s_app_nil {α : Type} {f : α → AV} {E : TypeId} {sz by_ : Nat} {ys : List α} {x : AV} {σ : Store} {k : AV → Store → Prop} (hs : Src f sz σ x ys) (hb : ys.length * by_ ≤ 140737488355328) (hm : ys.length ≤ 9223372036854775807)
    (hk : ∀ v, k (.own v ys.length) (.row v E sz (ys.map f) 0 :: σ)) : aAppend E sz by_ (.val (.slice none 0 0)) x σ k := by
  refine ⟨ys.map f, hs.1, hs.2, .inr ?_⟩
  refine ⟨by simpa using hb, by simp [maxLen]; omega, fun v => ?_⟩
  have := hk v
  simpa using this
theorem s_app_own {α : Type} {f : α → AV} {E : TypeId} {sz by_ : Nat} {l ys : List α} {x : AV} {v : Value} {n fl : Nat} {σ1 σ2 : Store} {k : AV → Store → Prop} (hs : Src f sz (σ1 ++ .row v E sz (l.map f) fl :: σ2) x ys) (hb : (l.length + ys.length) * by_ ≤ 140737488355328) (hm : l.length + ys.length ≤ 9223372036854775807)
    (hk : ∀ v, k (.own v (l ++ ys).length) (σ1 ++ .row v E sz ((l ++ ys).map f) fl :: σ2)) : aAppend E sz by_ (.own v n) x (σ1 ++ .row v E sz (l.map f) fl :: σ2) k := by
  refine ⟨ys.map f, hs.1, hs.2, .inr ?_⟩
  refine ⟨σ1, σ2, l.map f, fl, rfl, by simpa using hb, by simp [maxLen]; omega, fun v => ?_⟩
  have := hk v
  simpa using this
theorem s_app_own0 {α : Type} {f : α → AV} {E : TypeId} {sz by_ : Nat} {l ys : List α} {x : AV} {v : Value} {n fl : Nat} {σ : Store} {k : AV → Store → Prop} (hs : Src f sz (.row v E sz (l.map f) fl :: σ) x ys) (hb : (l.length + ys.length) * by_ ≤ 140737488355328) (hm : l.length + ys.length ≤ 9223372036854775807)
    (hk : ∀ v, k (.own v (l ++ ys).length) (.row v E sz ((l ++ ys).map f) fl :: σ)) : aAppend E sz by_ (.own v n) x (.row v E sz (l.map f) fl :: σ) k :=
  s_app_own (σ1 := []) hs hb hm hk

theorem s_app_none {α : Type} {f : α → AV} {E : TypeId} {sz by_ z : Nat} {l : List AV} {m : SM} {x : AV} {σ : Store} {k : AV → Store → Prop} (hs : Src f sz σ x ([] : List α)) (hk : k (.lst z l m) σ) : aAppend E sz by_ (.lst z l m) x σ k :=
  ⟨[], hs.1, fun _ => by simp, .inl ⟨z, l, m, rfl, rfl, hk⟩⟩
theorem s_keep {k : AV → Store → Prop} {u : AV} {σ : Store} (h : k u σ) : subK k u σ := ⟨u, σ, Sub.refl _ _, h⟩

/-! ### Bits -/
theorem bv_nat {n : Nat} {x : Int} (h0 : 0 ≤ x) (h1 : x < 2 ^ n) : (BitVec.ofInt n x) = BitVec.ofNat n x.toNat := by
  obtain ⟨m, rfl⟩ := Int.eq_ofNat_of_zero_le h0
  simp [BitVec.ofInt_natCast]
theorem g_or {t : TypeId} {k : IntKind} {x y : Int} {K : AV → Prop} (hk : k.signed = false) (hx : 0 ≤ x) (hx' : x < 2 ^ k.bits) (hy : 0 ≤ y) (hy' : y < 2 ^ k.bits) (hK : K (.val (.int k ((x.toNat ||| y.toNat : Nat) : Int)))) : ∃ u, aBin P .or t (.val (.int k x)) (.val (.int k y)) u ∧ K u := by
  refine ⟨_, ?_, hK⟩
  refine (aBin_val fun _ _ w => ?_).2 rfl
  obtain ⟨a, rfl⟩ := Int.eq_ofNat_of_zero_le hx
  obtain ⟨b, rfl⟩ := Int.eq_ofNat_of_zero_le hy
  have ha : a < 2 ^ k.bits := by exact_mod_cast hx'
  have hb : b < 2 ^ k.bits := by exact_mod_cast hy'
  have e : (a ||| b) < 2 ^ k.bits := Nat.or_lt_two_pow ha hb
  have hw : k.wrap ((a ||| b : Nat) : Int) = ((a ||| b : Nat) : Int) := by
    simp only [IntKind.wrap, hk, Bool.false_and]
    rw [if_neg (by simp)]
    exact_mod_cast Nat.mod_eq_of_lt e
  simp [eqGuard, binOp, Op.intBits, BitVec.ofInt_natCast, Nat.mod_eq_of_lt ha, Nat.mod_eq_of_lt hb, hw]
theorem g_and {t : TypeId} {k : IntKind} {x y : Int} {K : AV → Prop} (hk : k.signed = false) (hx : 0 ≤ x) (hx' : x < 2 ^ k.bits) (hy : 0 ≤ y) (hy' : y < 2 ^ k.bits) (hK : K (.val (.int k ((x.toNat &&& y.toNat : Nat) : Int)))) : ∃ u, aBin P .and t (.val (.int k x)) (.val (.int k y)) u ∧ K u := by
  refine ⟨_, ?_, hK⟩
  refine (aBin_val fun _ _ w => ?_).2 rfl
  obtain ⟨a, rfl⟩ := Int.eq_ofNat_of_zero_le hx
  obtain ⟨b, rfl⟩ := Int.eq_ofNat_of_zero_le hy
  have ha : a < 2 ^ k.bits := by exact_mod_cast hx'
  have hb : b < 2 ^ k.bits := by exact_mod_cast hy'
  have e : (a &&& b) < 2 ^ k.bits := Nat.and_lt_two_pow a hb
  have hw : k.wrap ((a &&& b : Nat) : Int) = ((a &&& b : Nat) : Int) := by
    simp only [IntKind.wrap, hk, Bool.false_and]
    rw [if_neg (by simp)]
    exact_mod_cast Nat.mod_eq_of_lt e
  simp [eqGuard, binOp, Op.intBits, BitVec.ofInt_natCast, Nat.mod_eq_of_lt ha, Nat.mod_eq_of_lt hb, hw]
theorem s_or_u8 {t : TypeId} {x y : Int} {K : AV → Prop} (hx : 0 ≤ x) (hx' : x < 256) (hy : 0 ≤ y) (hy' : y < 256) (hK : ∀ z : Nat, z = x.toNat ||| y.toNat → z < 256 → K (.val (.int .u8 z))) : ∃ u, aBin P .or t (.val (.int .u8 x)) (.val (.int .u8 y)) u ∧ K u :=
  g_or rfl hx (by simp only [IntKind.bits]; omega) hy (by simp only [IntKind.bits]; omega) (hK _ rfl (Nat.or_lt_two_pow (n := 8) (by omega) (by omega)))
theorem s_or_u32 {t : TypeId} {x y : Int} {K : AV → Prop} (hx : 0 ≤ x) (hx' : x < 4294967296) (hy : 0 ≤ y) (hy' : y < 4294967296) (hK : ∀ z : Nat, z = x.toNat ||| y.toNat → z < 4294967296 → K (.val (.int .u32 z))) : ∃ u, aBin P .or t (.val (.int .u32 x)) (.val (.int .u32 y)) u ∧ K u :=
  g_or rfl hx (by simp only [IntKind.bits]; omega) hy (by simp only [IntKind.bits]; omega) (hK _ rfl (Nat.or_lt_two_pow (n := 32) (by omega) (by omega)))
theorem s_or_u64 {t : TypeId} {x y : Int} {K : AV → Prop} (hx : 0 ≤ x) (hx' : x < 18446744073709551616) (hy : 0 ≤ y) (hy' : y < 18446744073709551616) (hK : ∀ z : Nat, z = x.toNat ||| y.toNat → z < 18446744073709551616 → K (.val (.int .u64 z))) : ∃ u, aBin P .or t (.val (.int .u64 x)) (.val (.int .u64 y)) u ∧ K u :=
  g_or rfl hx (by simp only [IntKind.bits]; omega) hy (by simp only [IntKind.bits]; omega) (hK _ rfl (Nat.or_lt_two_pow (n := 64) (by omega) (by omega)))
theorem s_and_u8 {t : TypeId} {x y : Int} {K : AV → Prop} (hx : 0 ≤ x) (hx' : x < 256) (hy : 0 ≤ y) (hy' : y < 256) (hK : ∀ z : Nat, z = x.toNat &&& y.toNat → z < 256 → K (.val (.int .u8 z))) : ∃ u, aBin P .and t (.val (.int .u8 x)) (.val (.int .u8 y)) u ∧ K u :=
  g_and rfl hx (by simp only [IntKind.bits]; omega) hy (by simp only [IntKind.bits]; omega) (hK _ rfl (Nat.and_lt_two_pow (n := 8) _ (by omega)))
theorem s_and_u32 {t : TypeId} {x y : Int} {K : AV → Prop} (hx : 0 ≤ x) (hx' : x < 4294967296) (hy : 0 ≤ y) (hy' : y < 4294967296) (hK : ∀ z : Nat, z = x.toNat &&& y.toNat → z < 4294967296 → K (.val (.int .u32 z))) : ∃ u, aBin P .and t (.val (.int .u32 x)) (.val (.int .u32 y)) u ∧ K u :=
  g_and rfl hx (by simp only [IntKind.bits]; omega) hy (by simp only [IntKind.bits]; omega) (hK _ rfl (Nat.and_lt_two_pow (n := 32) _ (by omega)))
theorem s_and_u64 {t : TypeId} {x y : Int} {K : AV → Prop} (hx : 0 ≤ x) (hx' : x < 18446744073709551616) (hy : 0 ≤ y) (hy' : y < 18446744073709551616) (hK : ∀ z : Nat, z = x.toNat &&& y.toNat → z < 18446744073709551616 → K (.val (.int .u64 z))) : ∃ u, aBin P .and t (.val (.int .u64 x)) (.val (.int .u64 y)) u ∧ K u :=
  g_and rfl hx (by simp only [IntKind.bits]; omega) hy (by simp only [IntKind.bits]; omega) (hK _ rfl (Nat.and_lt_two_pow (n := 64) _ (by omega)))
theorem shr_nat (n c : Nat) : (n : Int).fdiv (2 ^ c) = ((n / 2 ^ c : Nat) : Int) := by
  rw [Int.fdiv_eq_ediv_of_nonneg _ (Int.pow_nonneg (by decide))]
  rw [Int.natCast_ediv, Int.natCast_pow]
  rfl

/-! ### Shifts, quotients, sums of unsigned numbers -/
theorem s_shrz {t : TypeId} {k k' : IntKind} {x y : Int} {K : AV → Prop} (hx : 0 ≤ x) (h0 : 0 ≤ y) (h1 : y.toNat < k.bits) (hK : ∀ z : Int, z = x / 2 ^ y.toNat → 0 ≤ z → z ≤ x → K (.val (.int k z))) : ∃ u, aBin P .shr t (.val (.int k x)) (.val (.int k' y)) u ∧ K u := by
  refine s_shr h0 ?_
  rw [Nat.min_eq_left (Nat.le_of_lt h1)]
  have hp : (0 : Int) < 2 ^ y.toNat := Int.pow_pos (by decide)
  have e : x.fdiv (2 ^ y.toNat) = x / 2 ^ y.toNat := Int.fdiv_eq_ediv_of_nonneg _ (Int.le_of_lt hp)
  rw [e]
  refine hK _ rfl (Int.ediv_nonneg hx (Int.le_of_lt hp)) (Int.ediv_le_self _ hx)
theorem s_remz {t : TypeId} {k : IntKind} {x y : Int} {K : AV → Prop} (hx : 0 ≤ x) (hy : 0 < y) (hK : K (.val (.int k (x % y)))) : ∃ u, aBin P .rem t (.val (.int k x)) (.val (.int k y)) u ∧ K u := s_rem (by omega) (by rw [Int.tmod_eq_emod_of_nonneg hx]; exact hK)
theorem s_quo_u64 {t : TypeId} {x y : Int} {K : AV → Prop} (hx : 0 ≤ x) (hx' : x < 18446744073709551616) (hy : 0 < y) (hK : K (.val (.int .u64 (x / y)))) : ∃ u, aBin P .quo t (.val (.int .u64 x)) (.val (.int .u64 y)) u ∧ K u := s_quo (by omega) (by
  rw [Int.tdiv_eq_ediv_of_nonneg hx, wrap_u64 (Int.ediv_nonneg hx (by omega)) (by have := Int.ediv_le_self y hx; omega)]; exact hK)
theorem s_quo_i64 {t : TypeId} {x y : Int} {K : AV → Prop} (hx : 0 ≤ x) (hx' : x ≤ 9223372036854775807) (hy : 0 < y) (hK : K (.val (.int .i64 (x / y)))) : ∃ u, aBin P .quo t (.val (.int .i64 x)) (.val (.int .i64 y)) u ∧ K u := s_quo (by omega) (by
  rw [Int.tdiv_eq_ediv_of_nonneg hx, wrap_i64 (by have := Int.ediv_nonneg hx (show 0 ≤ y by omega); omega) (by have := Int.ediv_le_self y hx; omega)]; exact hK)
theorem s_add_u8 {t : TypeId} {x y : Int} {K : AV → Prop} (h1 : 0 ≤ x + y) (h2 : x + y < 256) (hK : K (.val (.int .u8 (x + y)))) : ∃ u, aBin P .add t (.val (.int .u8 x)) (.val (.int .u8 y)) u ∧ K u := s_add (by rw [wrap_u8 h1 h2]; exact hK)
theorem s_sub_u8 {t : TypeId} {x y : Int} {K : AV → Prop} (h1 : 0 ≤ x - y) (h2 : x - y < 256) (hK : K (.val (.int .u8 (x - y)))) : ∃ u, aBin P .sub t (.val (.int .u8 x)) (.val (.int .u8 y)) u ∧ K u := s_sub (by rw [wrap_u8 h1 h2]; exact hK)
theorem s_mul_u8 {t : TypeId} {x y : Int} {K : AV → Prop} (h1 : 0 ≤ x * y) (h2 : x * y < 256) (hK : K (.val (.int .u8 (x * y)))) : ∃ u, aBin P .mul t (.val (.int .u8 x)) (.val (.int .u8 y)) u ∧ K u := s_mul (by rw [wrap_u8 h1 h2]; exact hK)
theorem s_add_u32 {t : TypeId} {x y : Int} {K : AV → Prop} (h1 : 0 ≤ x + y) (h2 : x + y < 4294967296) (hK : K (.val (.int .u32 (x + y)))) : ∃ u, aBin P .add t (.val (.int .u32 x)) (.val (.int .u32 y)) u ∧ K u := s_add (by rw [wrap_u32 h1 h2]; exact hK)
theorem s_sub_u32 {t : TypeId} {x y : Int} {K : AV → Prop} (h1 : 0 ≤ x - y) (h2 : x - y < 4294967296) (hK : K (.val (.int .u32 (x - y)))) : ∃ u, aBin P .sub t (.val (.int .u32 x)) (.val (.int .u32 y)) u ∧ K u := s_sub (by rw [wrap_u32 h1 h2]; exact hK)
theorem s_mul_u32 {t : TypeId} {x y : Int} {K : AV → Prop} (h1 : 0 ≤ x * y) (h2 : x * y < 4294967296) (hK : K (.val (.int .u32 (x * y)))) : ∃ u, aBin P .mul t (.val (.int .u32 x)) (.val (.int .u32 y)) u ∧ K u := s_mul (by rw [wrap_u32 h1 h2]; exact hK)
theorem s_add_u64 {t : TypeId} {x y : Int} {K : AV → Prop} (h1 : 0 ≤ x + y) (h2 : x + y < 18446744073709551616) (hK : K (.val (.int .u64 (x + y)))) : ∃ u, aBin P .add t (.val (.int .u64 x)) (.val (.int .u64 y)) u ∧ K u := s_add (by rw [wrap_u64 h1 h2]; exact hK)
theorem s_sub_u64 {t : TypeId} {x y : Int} {K : AV → Prop} (h1 : 0 ≤ x - y) (h2 : x - y < 18446744073709551616) (hK : K (.val (.int .u64 (x - y)))) : ∃ u, aBin P .sub t (.val (.int .u64 x)) (.val (.int .u64 y)) u ∧ K u := s_sub (by rw [wrap_u64 h1 h2]; exact hK)
theorem s_mul_u64 {t : TypeId} {x y : Int} {K : AV → Prop} (h1 : 0 ≤ x * y) (h2 : x * y < 18446744073709551616) (hK : K (.val (.int .u64 (x * y)))) : ∃ u, aBin P .mul t (.val (.int .u64 x)) (.val (.int .u64 y)) u ∧ K u := s_mul (by rw [wrap_u64 h1 h2]; exact hK)

/-! ### Bytes and texts -/
theorem s_convBS {bs : List UInt8} {z : Nat} {m : SM} {K : AV → Prop} (hK : K (.val (.string ⟨bs.toArray⟩))) : ∃ u, aConvBS (.lst z (bs.map byt) m) u ∧ K u := ⟨_, ⟨bs, rfl, rfl⟩, hK⟩
theorem s_convSB {l : List UInt8} {K : AV → Prop} (h : l.length ≤ 9223372036854775807) (hK : K (.lst 1 (l.map byt) .ro)) : ∃ u, aConvSB (.val (.string ⟨l.toArray⟩)) u ∧ K u :=
  ⟨_, ⟨by rw [ba_size]; simpa [maxLen] using h, by simp⟩, hK⟩

/-! ### Calls of functions told by their arguments alone -/
theorem s_call {f : FuncId} {args : List AV} {v : AV} {K : AV → Prop} (h : aPure P f args v) (hK : K v) : ∃ u, aPureC P f args u ∧ K u := ⟨v, .inl ⟨args, SubVs.refl _, h⟩, hK⟩
theorem s_callV {f : FuncId} {args args1 : List AV} {v : AV} {K : AV → Prop} (hs : SubVs args args1) (h : aPure P f args1 v) (hK : K v) : ∃ u, aPureC P f args u ∧ K u := ⟨v, .inl ⟨args1, hs, h⟩, hK⟩
theorem s_callF {f : FuncId} {args : List AV} {v : AV} {K : AV → Prop} (h : aPure P f args v) (hK : K v) : ∃ u, aPureV P (.val (.func (.func f) #[] #[])) args u ∧ K u := by
  refine ⟨v, .inl ⟨args, ?_, h⟩, hK⟩
  show SubVs ([] ++ args ++ []) args
  rw [List.nil_append, List.append_nil]
  exact SubVs.refl _
theorem s_callW {g : AV} {args : List AV} {v : AV} {K : AV → Prop} (h : aPureV P g args v) (hK : K v) : ∃ u, aPureV P g args u ∧ K u := ⟨v, h, hK⟩
theorem pureF {f : FuncId} {args : List AV} {v : AV} (h : aPure P f args v) : aPureV P (.val (.func (.func f) #[] #[])) args v := by
  refine .inl ⟨args, ?_, h⟩
  show SubVs ([] ++ args ++ []) args
  rw [List.nil_append, List.append_nil]
  exact SubVs.refl _
/-- A call with a store of its own. -/
theorem s_acall {f : FuncId} {args : List AV} {σ : Store} {k kp : AV → Store → Prop} {Q : AEnd → Store → Prop} (h : ACalls P f args σ Q) (hk : ∀ x σ', Q x σ' → onEnd k kp x σ') : aCall P f args σ k kp := ⟨σ, args, Sub.refl _ _, h.mono hk⟩
theorem s_acallS {f : FuncId} {args args1 : List AV} {σ σ1 : Store} {k kp : AV → Store → Prop} {Q : AEnd → Store → Prop} (hs : Sub σ args σ1 args1) (h : ACalls P f args1 σ1 Q) (hk : ∀ x σ', Q x σ' → onEnd k kp x σ') : aCall P f args σ k kp := ⟨σ1, args1, hs, h.mono hk⟩
end Go.Ab
