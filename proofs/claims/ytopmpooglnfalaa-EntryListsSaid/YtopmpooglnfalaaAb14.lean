/- A logic over abstract states (part 14): what operations give on plain numbers, truth values and texts. -/
import Derived.Test.YtopmpooglnfalaaAb13
import Derived.Laws.Strings
set_option linter.unusedVariables false
set_option linter.unusedSimpArgs false
namespace Go.Ab
variable {P : Program}

abbrev I (k : IntKind) (n : Int) : AV := .val (.int k n)
abbrev B (b : Bool) : AV := .val (.bool b)
abbrev S (l : List UInt8) : AV := .val (.string ⟨l.toArray⟩)

def world0 : World := { heap := #[], os := default, tape := default, output := default, drawn := 0 }
theorem aBin_plain {op : BinOp} {t : TypeId} {x y : AV} {a b v : Value} {u : AV} (hx : plainV x = some a) (hy : plainV y = some b) (h : ∀ (xo yo : Operand) (w : World), (do eqGuard op t xo yo a b; binOp op t a b : Sem Value).run P w = .ok v w) : aBin P op t x y u ↔ u = .val v := by
  unfold aBin
  rw [hx, hy]
  constructor
  · rintro ⟨v', hu, hr⟩
    have h1 := hr (.tmp 0) (.tmp 0) world0
    have h2 := h (.tmp 0) (.tmp 0) world0
    rw [h1] at h2
    cases h2
    exact hu
  · intro hu
    exact ⟨v, hu, h⟩
theorem aBin_val {op : BinOp} {t : TypeId} {a b v : Value} {u : AV} (h : ∀ (xo yo : Operand) (w : World), (do eqGuard op t xo yo a b; binOp op t a b : Sem Value).run P w = .ok v w) : aBin P op t (.val a) (.val b) u ↔ u = .val v := aBin_plain rfl rfl h

/-! ### Numbers -/
theorem r_add {t : TypeId} {k : IntKind} {x y : Int} {u : AV} : aBin P .add t (.val (.int k x)) (.val (.int k y)) u ↔ u = .val (.int k (k.wrap (x + y))) := aBin_val fun _ _ w => by simp [eqGuard, binOp, Op.intArith]
theorem r_sub {t : TypeId} {k : IntKind} {x y : Int} {u : AV} : aBin P .sub t (.val (.int k x)) (.val (.int k y)) u ↔ u = .val (.int k (k.wrap (x - y))) := aBin_val fun _ _ w => by simp [eqGuard, binOp, Op.intArith]
theorem r_mul {t : TypeId} {k : IntKind} {x y : Int} {u : AV} : aBin P .mul t (.val (.int k x)) (.val (.int k y)) u ↔ u = .val (.int k (k.wrap (x * y))) := aBin_val fun _ _ w => by simp [eqGuard, binOp, Op.intArith]
theorem r_quo {t : TypeId} {k : IntKind} {x y : Int} {u : AV} (h : y ≠ 0) : aBin P .quo t (.val (.int k x)) (.val (.int k y)) u ↔ u = .val (.int k (k.wrap (x.tdiv y))) := aBin_val fun _ _ w => by simp [eqGuard, binOp, Op.intDiv, h]
theorem r_rem {t : TypeId} {k : IntKind} {x y : Int} {u : AV} (h : y ≠ 0) : aBin P .rem t (.val (.int k x)) (.val (.int k y)) u ↔ u = .val (.int k (x.tmod y)) := aBin_val fun _ _ w => by simp [eqGuard, binOp, Op.intDiv, h]
theorem r_eql {t : TypeId} {k : IntKind} {x y : Int} {u : AV} : aBin P .eql t (.val (.int k x)) (.val (.int k y)) u ↔ u = .val (.bool (decide (x = y))) := aBin_val fun _ _ w => by simp [eqGuard, binOp, Op.intCmp]; rfl
theorem r_neq {t : TypeId} {k : IntKind} {x y : Int} {u : AV} : aBin P .neq t (.val (.int k x)) (.val (.int k y)) u ↔ u = .val (.bool (decide (x ≠ y))) := aBin_val fun _ _ w => by simp [eqGuard, binOp, Op.intCmp, bne]; rfl
theorem r_lss {t : TypeId} {k : IntKind} {x y : Int} {u : AV} : aBin P .lss t (.val (.int k x)) (.val (.int k y)) u ↔ u = .val (.bool (decide (x < y))) := aBin_val fun _ _ w => by simp [eqGuard, binOp, Op.intCmp]
theorem r_leq {t : TypeId} {k : IntKind} {x y : Int} {u : AV} : aBin P .leq t (.val (.int k x)) (.val (.int k y)) u ↔ u = .val (.bool (decide (x ≤ y))) := aBin_val fun _ _ w => by simp [eqGuard, binOp, Op.intCmp]
theorem r_gtr {t : TypeId} {k : IntKind} {x y : Int} {u : AV} : aBin P .gtr t (.val (.int k x)) (.val (.int k y)) u ↔ u = .val (.bool (decide (y < x))) := aBin_val fun _ _ w => by simp [eqGuard, binOp, Op.intCmp]
theorem r_geq {t : TypeId} {k : IntKind} {x y : Int} {u : AV} : aBin P .geq t (.val (.int k x)) (.val (.int k y)) u ↔ u = .val (.bool (decide (y ≤ x))) := aBin_val fun _ _ w => by simp [eqGuard, binOp, Op.intCmp]
theorem r_shl {t : TypeId} {k k' : IntKind} {x y : Int} {u : AV} (h : 0 ≤ y) : aBin P .shl t (.val (.int k x)) (.val (.int k' y)) u ↔ u = .val (.int k (k.wrap (x * 2 ^ (min y.toNat k.bits)))) := aBin_val fun _ _ w => by
  have : ¬ y < 0 := by omega
  simp [eqGuard, binOp, Op.shift, this]
theorem r_shr {t : TypeId} {k k' : IntKind} {x y : Int} {u : AV} (h : 0 ≤ y) : aBin P .shr t (.val (.int k x)) (.val (.int k' y)) u ↔ u = .val (.int k (x.fdiv (2 ^ (min y.toNat k.bits)))) := aBin_val fun _ _ w => by
  have : ¬ y < 0 := by omega
  simp [eqGuard, binOp, Op.shift, this]
theorem r_conv {s d : TypeId} {k k' : IntKind} {x : Int} {u : AV} (hd : P.underlying d = some (.int k')) (hs : P.underlying s = some (.int k)) : aConvN s d (.val (.int k x)) u P ↔ u = .val (.int k' (k'.wrap x)) := by
  have run : ∀ w : World, (convert s d (.int k x)).run P w = .ok (.int k' (k'.wrap x)) w := by
    intro w
    simp [convert, run_underlying hd, run_underlying hs, Conv.intToInt]
  unfold aConvN
  constructor
  · rintro ⟨v, hu, hr⟩
    have := hr world0
    rw [run] at this
    cases this
    exact hu
  · intro hu; exact ⟨_, hu, run⟩

theorem wrap_i64 {x : Int} (h1 : -9223372036854775808 ≤ x) (h2 : x ≤ 9223372036854775807) : IntKind.wrap .i64 x = x := by
  simp only [IntKind.wrap, IntKind.bits, IntKind.signed]
  simp
  split <;> omega
theorem wrap_u64 {x : Int} (h1 : 0 ≤ x) (h2 : x < 18446744073709551616) : IntKind.wrap .u64 x = x := by
  simp only [IntKind.wrap, IntKind.bits, IntKind.signed]; simp; omega
theorem wrap_u32 {x : Int} (h1 : 0 ≤ x) (h2 : x < 4294967296) : IntKind.wrap .u32 x = x := by
  simp only [IntKind.wrap, IntKind.bits, IntKind.signed]; simp; omega
theorem wrap_u8 {x : Int} (h1 : 0 ≤ x) (h2 : x < 256) : IntKind.wrap .u8 x = x := by
  simp only [IntKind.wrap, IntKind.bits, IntKind.signed]; simp; omega
theorem wrap_u8' (x : Int) : IntKind.wrap .u8 x = x % 256 := by simp only [IntKind.wrap, IntKind.bits, IntKind.signed]; simp
theorem wrap_u32' (x : Int) : IntKind.wrap .u32 x = x % 4294967296 := by simp only [IntKind.wrap, IntKind.bits, IntKind.signed]; simp
theorem wrap_u64' (x : Int) : IntKind.wrap .u64 x = x % 18446744073709551616 := by simp only [IntKind.wrap, IntKind.bits, IntKind.signed]; simp

/-! ### Truth values -/
theorem r_not {b : Bool} {u : AV} : aUn P .not (.val (.bool b)) u ↔ u = .val (.bool (!b)) := by
  unfold aUn
  constructor
  · rintro ⟨v, hu, hr⟩
    have := hr world0
    simp [Op.unary] at this
    rw [hu, this]
  · intro hu; exact ⟨_, hu, fun w => by simp [Op.unary]⟩
theorem r_pick {b : Bool} {x y u : AV} : aPick (.val (.bool b)) x y u ↔ u = if b = true then x else y := Iff.rfl
theorem r_guard {b w : Bool} {X : AV → Prop} {u : AV} : aGuard (.val (.bool b)) w X u ↔ if b = w then X u else u = .val Go.undef := by
  unfold aGuard wantedA
  cases b <;> cases w <;> simp
theorem ex_guard {b w : Bool} {X K : AV → Prop} : (∃ u, aGuard (.val (.bool b)) w X u ∧ K u) ↔ (b = w → ∃ u, X u ∧ K u) ∧ (b = !w → K (.val Go.undef)) := by
  simp only [r_guard]
  cases b <;> cases w <;> simp
theorem ex_guardU {w : Bool} {X K : AV → Prop} (hK : K (.val Go.undef)) : ∃ u, aGuard (.val Go.undef) w X u ∧ K u := ⟨.val Go.undef, ⟨false, rfl, rfl⟩, hK⟩
theorem r_cond {b : Bool} {x y : Prop} : aCond (.val (.bool b)) x y ↔ (b = true → x) ∧ (b = false → y) := by
  unfold aCond
  cases b <;> simp
theorem r_ext {us : List AV} {i : Nat} {u : AV} : aExt (.tuple us) i u ↔ us[i]? = some u := Iff.rfl

/-! ### Texts -/
theorem ba_size (l : List UInt8) : (ByteArray.mk l.toArray).size = l.length := by
  show l.toArray.size = _; simp
theorem bdec (a b : List UInt8) : (a == b) = decide (a = b) := by by_cases h : a = b <;> simp [h]
theorem r_s_eql {t : TypeId} {a b : List UInt8} {u : AV} : aBin P .eql t (.val (.string ⟨a.toArray⟩)) (.val (.string ⟨b.toArray⟩)) u ↔ u = .val (.bool (decide (a = b))) := aBin_val fun _ _ w => by simp [eqGuard, binOp, Op.stringOp, bdec, bne]
theorem r_s_neq {t : TypeId} {a b : List UInt8} {u : AV} : aBin P .neq t (.val (.string ⟨a.toArray⟩)) (.val (.string ⟨b.toArray⟩)) u ↔ u = .val (.bool (decide (a ≠ b))) := aBin_val fun _ _ w => by simp [eqGuard, binOp, Op.stringOp, bdec, bne]
theorem r_s_lss {t : TypeId} {a b : List UInt8} {u : AV} : aBin P .lss t (.val (.string ⟨a.toArray⟩)) (.val (.string ⟨b.toArray⟩)) u ↔ u = .val (.bool (Op.bytesLess a b)) := aBin_val fun _ _ w => by simp [eqGuard, binOp, Op.stringOp]
theorem r_s_geq {t : TypeId} {a b : List UInt8} {u : AV} : aBin P .geq t (.val (.string ⟨a.toArray⟩)) (.val (.string ⟨b.toArray⟩)) u ↔ u = .val (.bool (!Op.bytesLess a b)) := aBin_val fun _ _ w => by simp [eqGuard, binOp, Op.stringOp]
theorem r_s_leq {t : TypeId} {a b : List UInt8} {u : AV} : aBin P .leq t (.val (.string ⟨a.toArray⟩)) (.val (.string ⟨b.toArray⟩)) u ↔ u = .val (.bool (Op.bytesLess a b || decide (a = b))) := aBin_val fun _ _ w => by simp [eqGuard, binOp, Op.stringOp, bdec, bne]
theorem r_s_gtr {t : TypeId} {a b : List UInt8} {u : AV} : aBin P .gtr t (.val (.string ⟨a.toArray⟩)) (.val (.string ⟨b.toArray⟩)) u ↔ u = .val (.bool (!(Op.bytesLess a b || decide (a = b)))) := aBin_val fun _ _ w => by simp [eqGuard, binOp, Op.stringOp, bdec, bne]
theorem r_s_add {t : TypeId} {a b : List UInt8} {u : AV} (h : a.length + b.length ≤ 9223372036854775807) : aBin P .add t (.val (.string ⟨a.toArray⟩)) (.val (.string ⟨b.toArray⟩)) u ↔ u = .val (.string ⟨(a ++ b).toArray⟩) := aBin_val fun _ _ w => by
  have e : (ByteArray.mk a.toArray ++ ByteArray.mk b.toArray) = ByteArray.mk (a ++ b).toArray := by
    apply ByteArray.ext
    simp
  have hs : ¬ (((ByteArray.mk a.toArray).size + (ByteArray.mk b.toArray).size : Nat) : Int) > IntKind.i64.max := by
    rw [ba_size, ba_size]
    simp only [IntKind.max, IntKind.signed, IntKind.bits]
    simp; omega
  simp only [eqGuard, binOp, Op.stringOp, e, if_neg hs, Sem.run_bind]
  rfl
def isSl (P : Program) (t : TypeId) : Bool := match P.underlying t with
  | some (.slice _) => true
  | _ => false
theorem isSl_run {t : TypeId} (h : isSl P t = true) : ∃ d, P.underlying t = some (.slice d) := by
  unfold isSl at h
  split at h
  · rename_i d hd; exact ⟨d, hd⟩
  · cases h
theorem r_len_lst {t : TypeId} (h : isSl P t = true) {z : Nat} {l : List AV} {m : SM} {u : AV} : aBuiltin P .len #[t] [.lst z l m] u ↔ u = .val (.int .i64 l.length) := by
  unfold aBuiltin
  exact ⟨fun h => h.2, fun hu => ⟨⟨t, rfl, isSl_run h⟩, hu⟩⟩
theorem r_len_own {t : TypeId} (h : isSl P t = true) {v : Value} {n : Nat} {u : AV} : aBuiltin P .len #[t] [.own v n] u ↔ u = .val (.int .i64 n) := by
  unfold aBuiltin
  exact ⟨fun h => h.2, fun hu => ⟨⟨t, rfl, isSl_run h⟩, hu⟩⟩
def isLmm : Builtin → Prop
  | .len | .min | .max => True
  | _ => False
theorem isLmm_match : ∀ b : Builtin, isLmm b → (match b with | .len | .min | .max => True | _ => False : Prop) := fun b hb => by cases b <;> first | trivial | exact hb.elim
theorem aBuiltin_vals {b : Builtin} {ts : Array TypeId} {vs : List Value} {v : Value} {u : AV} (hb : isLmm b) (h : ∀ (ty : TypeId) (cs : Array Bool) (w : World), (builtin b ts ty cs vs.toArray).run P w = .ok (.value v) w) :
    aBuiltin P b ts (vs.map .val) u ↔ u = .val v := by
  have ha : ∀ vs : List Value, allVals (vs.map .val) = some vs := by
    intro vs
    induction vs with
    | nil => rfl
    | cons v vs ih => simp [allVals, ih]
  unfold aBuiltin
  split
  · rename_i h1; cases vs <;> simp at h1
  · rename_i h1; cases vs <;> simp at h1
  · rename_i h1; cases vs <;> simp at h1
  · constructor
    · rintro ⟨_, vs', v', h1, h2, h3⟩
      rw [ha] at h1
      cases h1
      have h4 := h3 0 #[] world0
      rw [h] at h4
      cases h4
      exact h2
    · intro hu
      exact ⟨isLmm_match _ hb, vs, v, ha vs, hu, h⟩
theorem r_len_S {t : TypeId} (h : P.underlying t = some .string) {l : List UInt8} {u : AV} : aBuiltin P .len #[t] [.val (.string ⟨l.toArray⟩)] u ↔ u = .val (.int .i64 l.length) :=
  aBuiltin_vals (vs := [_]) trivial fun ty cs w => by simp [builtin, run_len_string w t ty _ h, goInt, ba_size]
theorem r_len_nil {t : TypeId} (h : isSl P t = true) {u : AV} : aBuiltin P .len #[t] [.val (.slice none 0 0)] u ↔ u = .val (.int .i64 0) :=
  aBuiltin_vals (vs := [_]) trivial fun ty cs w => by
    obtain ⟨d, hd⟩ := isSl_run h
    simp [builtin, Builtin.len_, run_underlying hd, goInt]
theorem r_min {t t' : TypeId} {k : IntKind} {x y : Int} {u : AV} : aBuiltin P .min #[t, t'] [.val (.int k x), .val (.int k y)] u ↔ u = .val (.int k (min x y)) :=
  aBuiltin_vals (vs := [_, _]) trivial fun ty cs w => by
    have e : (if y < x then y else x) = min x y := by simp only [Int.min_def]; split <;> split <;> omega
    simp [builtin, Builtin.min_, Builtin.min2, e]
theorem r_max {t t' : TypeId} {k : IntKind} {x y : Int} {u : AV} : aBuiltin P .max #[t, t'] [.val (.int k x), .val (.int k y)] u ↔ u = .val (.int k (max x y)) :=
  aBuiltin_vals (vs := [_, _]) trivial fun ty cs w => by
    have e : (if y > x then y else x) = max x y := by simp only [Int.max_def]; split <;> split <;> omega
    simp [builtin, Builtin.max_, Builtin.max2, e]

/-! ### Cuts and places -/
theorem r_index_S {l : List UInt8} {k : IntKind} {i : Int} {u : AV} : aIndex .string false 1 (.val (.string ⟨l.toArray⟩)) (.val (.int k i)) u ↔ (0 ≤ i ∧ i < l.length) ∧ u = .val (.int .u8 (l.getD i.toNat 0).toNat) := by
  simp only [aIndex, ixOf]
  constructor
  · rintro ⟨h0, h1, hu⟩
    rw [ba_size] at h1
    refine ⟨⟨h0, by omega⟩, ?_⟩
    rw [hu]
    have e : l.getD i.toNat 0 = (ByteArray.mk l.toArray)[i.toNat]'(by rw [ba_size]; exact h1) := by
      show _ = (l.toArray)[i.toNat]
      rw [List.getElem_toArray, List.getD_eq_getElem?_getD, List.getElem?_eq_getElem h1]; rfl
    rw [e]
  · rintro ⟨⟨h0, h1⟩, hu⟩
    refine ⟨h0, by rw [ba_size]; omega, ?_⟩
    rw [hu]
    have h2 : i.toNat < l.length := by omega
    have e : l.getD i.toNat 0 = (ByteArray.mk l.toArray)[i.toNat]'(by rw [ba_size]; exact h2) := by
      show _ = (l.toArray)[i.toNat]
      rw [List.getElem_toArray, List.getD_eq_getElem?_getD, List.getElem?_eq_getElem h2]; rfl
    rw [e]
theorem ba_extract (l : List UInt8) (a b : Nat) : (ByteArray.mk l.toArray).extract a b = ByteArray.mk ((l.take b).drop a).toArray := by
  apply ByteArray.ext
  simp
  rw [List.drop_take]
theorem r_slice_S {l : List UInt8} {k k' : IntKind} {a b : Int} {u : AV} : aSlice .string 1 (.val (.string ⟨l.toArray⟩)) (some (.val (.int k a))) (some (.val (.int k' b))) none u ↔ (0 ≤ a ∧ a ≤ b ∧ b ≤ l.length) ∧ u = .val (.string ⟨((l.take b.toNat).drop a.toNat).toArray⟩) := by
  simp only [aSlice, bdOf, ixOf, ba_size, ba_extract, and_assoc]
theorem r_slice_S1 {l : List UInt8} {k : IntKind} {a : Int} {u : AV} : aSlice .string 1 (.val (.string ⟨l.toArray⟩)) (some (.val (.int k a))) none none u ↔ (0 ≤ a ∧ a ≤ l.length) ∧ u = .val (.string ⟨(l.drop a.toNat).toArray⟩) := by
  simp only [aSlice, bdOf, ixOf, ba_size, ba_extract, and_assoc]
  have e : List.take (l.length : Int).toNat l = l := by simp
  rw [e]
  constructor
  · rintro ⟨h1, h2, h3, h4⟩; exact ⟨h1, h2, h4⟩
  · rintro ⟨h1, h2, h4⟩; exact ⟨h1, h2, Int.le_refl _, h4⟩
theorem r_slice_S2 {l : List UInt8} {k' : IntKind} {b : Int} {u : AV} : aSlice .string 1 (.val (.string ⟨l.toArray⟩)) none (some (.val (.int k' b))) none u ↔ (0 ≤ b ∧ b ≤ l.length) ∧ u = .val (.string ⟨(l.take b.toNat).toArray⟩) := by
  simp only [aSlice, bdOf, ixOf, ba_size, ba_extract, and_assoc]
  simp
theorem r_slice {sz : Nat} {l : List AV} {m : SM} {k k' : IntKind} {a b : Int} {u : AV} : aSlice .slice sz (.lst sz l m) (some (.val (.int k a))) (some (.val (.int k' b))) none u ↔ (0 ≤ a ∧ a ≤ b ∧ b ≤ l.length) ∧ u = .lst sz ((l.take b.toNat).drop a.toNat) .ro := by
  simp [aSlice, bdOf, ixOf, and_assoc]
theorem r_slice1 {sz : Nat} {l : List AV} {m : SM} {k : IntKind} {a : Int} {u : AV} : aSlice .slice sz (.lst sz l m) (some (.val (.int k a))) none none u ↔ (0 ≤ a ∧ a ≤ l.length) ∧ u = .lst sz (l.drop a.toNat) .ro := by
  simp [aSlice, bdOf, ixOf, and_assoc]
theorem r_slice2 {sz : Nat} {l : List AV} {m : SM} {k' : IntKind} {b : Int} {u : AV} : aSlice .slice sz (.lst sz l m) none (some (.val (.int k' b))) none u ↔ (0 ≤ b ∧ b ≤ l.length) ∧ u = .lst sz (l.take b.toNat) .ro := by
  simp [aSlice, bdOf, ixOf, and_assoc]
theorem r_slice3 {sz : Nat} {l : List AV} {m : SM} {k k' : IntKind} {b c : Int} {u : AV} : aSlice .slice sz (.lst sz l m) none (some (.val (.int k b))) (some (.val (.int k' c))) u ↔ (0 ≤ b ∧ b ≤ l.length ∧ c = b) ∧ u = .lst sz (l.take b.toNat) .full := by
  simp [aSlice, bdOf, ixOf, and_assoc]
theorem r_ixa {sz : Nat} {l : List AV} {m : SM} {k : IntKind} {i : Int} {u : AV} : aIndexAddr .slice sz (.lst sz l m) (.val (.int k i)) u ↔ (0 ≤ i ∧ i < l.length) ∧ u = .rptr (l.getD i.toNat .undef).cells := by
  simp [aIndexAddr, ixOf, and_assoc]
theorem getD_map {α : Type} {f : α → AV} {l : List α} {n : Nat} (d : α) (h : n < l.length) : (l.map f).getD n .undef = f (l.getD n d) := by
  simp [List.getD_eq_getElem?_getD, h]
theorem r_fa {off s : Nat} {cs : List AV} {u : AV} : aFieldAddr off s (.rptr cs) u ↔ (0 < s ∧ off + s ≤ cs.length) ∧ u = .rptr ((cs.drop off).take s) := by
  simp [aFieldAddr, and_assoc]
theorem r_load1 {c : AV} {cs : List AV} {σ : Store} {u : AV} : loadA false 1 (.rptr (c :: cs)) σ u ↔ u = c := by
  simp [loadA, mkV]
theorem r_loadA {s : Nat} {cs : List AV} {σ : Store} {u : AV} : loadA true s (.rptr cs) σ u ↔ (0 < s ∧ s ≤ cs.length) ∧ u = .agg (cs.take s) := by
  simp [loadA, mkV, and_assoc]
theorem r_freeze {cs : List AV} {u : AV} : aFreeze cs u ↔ (∀ c ∈ cs, c.one = true) ∧ u = .rptr cs := Iff.rfl
end Go.Ab
