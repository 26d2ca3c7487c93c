/- A logic over abstract states (part 15): the rules of part 14 as steps through a printed condition. Made by wip/gen/xrules.py. -/
import Derived.Test.YtopmpooglnfalaaAb14
set_option linter.unusedVariables false
set_option linter.unusedSimpArgs false
namespace Go.Ab
variable {P : Program}
theorem s_add {t : TypeId} {k : IntKind} {x y : Int} {K : AV → Prop}  (hK : K (.val (.int k (k.wrap (x + y))))) : ∃ u, aBin P .add t (.val (.int k x)) (.val (.int k y)) u ∧ K u := ⟨_, (r_add).2 rfl, hK⟩
theorem s_sub {t : TypeId} {k : IntKind} {x y : Int} {K : AV → Prop}  (hK : K (.val (.int k (k.wrap (x - y))))) : ∃ u, aBin P .sub t (.val (.int k x)) (.val (.int k y)) u ∧ K u := ⟨_, (r_sub).2 rfl, hK⟩
theorem s_mul {t : TypeId} {k : IntKind} {x y : Int} {K : AV → Prop}  (hK : K (.val (.int k (k.wrap (x * y))))) : ∃ u, aBin P .mul t (.val (.int k x)) (.val (.int k y)) u ∧ K u := ⟨_, (r_mul).2 rfl, hK⟩
theorem s_quo {t : TypeId} {k : IntKind} {x y : Int}  (h : y ≠ 0) {K : AV → Prop}  (hK : K (.val (.int k (k.wrap (x.tdiv y))))) : ∃ u, aBin P .quo t (.val (.int k x)) (.val (.int k y)) u ∧ K u := ⟨_, (r_quo h).2 rfl, hK⟩
theorem s_rem {t : TypeId} {k : IntKind} {x y : Int}  (h : y ≠ 0) {K : AV → Prop}  (hK : K (.val (.int k (x.tmod y)))) : ∃ u, aBin P .rem t (.val (.int k x)) (.val (.int k y)) u ∧ K u := ⟨_, (r_rem h).2 rfl, hK⟩
theorem s_eql {t : TypeId} {k : IntKind} {x y : Int} {K : AV → Prop}  (hK : K (.val (.bool (decide (x = y))))) : ∃ u, aBin P .eql t (.val (.int k x)) (.val (.int k y)) u ∧ K u := ⟨_, (r_eql).2 rfl, hK⟩
theorem s_neq {t : TypeId} {k : IntKind} {x y : Int} {K : AV → Prop}  (hK : K (.val (.bool (decide (x ≠ y))))) : ∃ u, aBin P .neq t (.val (.int k x)) (.val (.int k y)) u ∧ K u := ⟨_, (r_neq).2 rfl, hK⟩
theorem s_lss {t : TypeId} {k : IntKind} {x y : Int} {K : AV → Prop}  (hK : K (.val (.bool (decide (x < y))))) : ∃ u, aBin P .lss t (.val (.int k x)) (.val (.int k y)) u ∧ K u := ⟨_, (r_lss).2 rfl, hK⟩
theorem s_leq {t : TypeId} {k : IntKind} {x y : Int} {K : AV → Prop}  (hK : K (.val (.bool (decide (x ≤ y))))) : ∃ u, aBin P .leq t (.val (.int k x)) (.val (.int k y)) u ∧ K u := ⟨_, (r_leq).2 rfl, hK⟩
theorem s_gtr {t : TypeId} {k : IntKind} {x y : Int} {K : AV → Prop}  (hK : K (.val (.bool (decide (y < x))))) : ∃ u, aBin P .gtr t (.val (.int k x)) (.val (.int k y)) u ∧ K u := ⟨_, (r_gtr).2 rfl, hK⟩
theorem s_geq {t : TypeId} {k : IntKind} {x y : Int} {K : AV → Prop}  (hK : K (.val (.bool (decide (y ≤ x))))) : ∃ u, aBin P .geq t (.val (.int k x)) (.val (.int k y)) u ∧ K u := ⟨_, (r_geq).2 rfl, hK⟩
theorem s_shl {t : TypeId} {k k' : IntKind} {x y : Int}  (h : 0 ≤ y) {K : AV → Prop}  (hK : K (.val (.int k (k.wrap (x * 2 ^ (min y.toNat k.bits)))))) : ∃ u, aBin P .shl t (.val (.int k x)) (.val (.int k' y)) u ∧ K u := ⟨_, (r_shl h).2 rfl, hK⟩
theorem s_shr {t : TypeId} {k k' : IntKind} {x y : Int}  (h : 0 ≤ y) {K : AV → Prop}  (hK : K (.val (.int k (x.fdiv (2 ^ (min y.toNat k.bits)))))) : ∃ u, aBin P .shr t (.val (.int k x)) (.val (.int k' y)) u ∧ K u := ⟨_, (r_shr h).2 rfl, hK⟩
theorem s_not {b : Bool} {K : AV → Prop}  (hK : K (.val (.bool (!b)))) : ∃ u, aUn P .not (.val (.bool b)) u ∧ K u := ⟨_, (r_not).2 rfl, hK⟩
theorem s_s_eql {t : TypeId} {a b : List UInt8} {K : AV → Prop}  (hK : K (.val (.bool (decide (a = b))))) : ∃ u, aBin P .eql t (.val (.string ⟨a.toArray⟩)) (.val (.string ⟨b.toArray⟩)) u ∧ K u := ⟨_, (r_s_eql).2 rfl, hK⟩
theorem s_s_neq {t : TypeId} {a b : List UInt8} {K : AV → Prop}  (hK : K (.val (.bool (decide (a ≠ b))))) : ∃ u, aBin P .neq t (.val (.string ⟨a.toArray⟩)) (.val (.string ⟨b.toArray⟩)) u ∧ K u := ⟨_, (r_s_neq).2 rfl, hK⟩
theorem s_s_lss {t : TypeId} {a b : List UInt8} {K : AV → Prop}  (hK : K (.val (.bool (Op.bytesLess a b)))) : ∃ u, aBin P .lss t (.val (.string ⟨a.toArray⟩)) (.val (.string ⟨b.toArray⟩)) u ∧ K u := ⟨_, (r_s_lss).2 rfl, hK⟩
theorem s_s_geq {t : TypeId} {a b : List UInt8} {K : AV → Prop}  (hK : K (.val (.bool (!Op.bytesLess a b)))) : ∃ u, aBin P .geq t (.val (.string ⟨a.toArray⟩)) (.val (.string ⟨b.toArray⟩)) u ∧ K u := ⟨_, (r_s_geq).2 rfl, hK⟩
theorem s_s_leq {t : TypeId} {a b : List UInt8} {K : AV → Prop}  (hK : K (.val (.bool (Op.bytesLess a b || decide (a = b))))) : ∃ u, aBin P .leq t (.val (.string ⟨a.toArray⟩)) (.val (.string ⟨b.toArray⟩)) u ∧ K u := ⟨_, (r_s_leq).2 rfl, hK⟩
theorem s_s_gtr {t : TypeId} {a b : List UInt8} {K : AV → Prop}  (hK : K (.val (.bool (!(Op.bytesLess a b || decide (a = b)))))) : ∃ u, aBin P .gtr t (.val (.string ⟨a.toArray⟩)) (.val (.string ⟨b.toArray⟩)) u ∧ K u := ⟨_, (r_s_gtr).2 rfl, hK⟩
theorem s_s_add {t : TypeId} {a b : List UInt8}  (h : a.length + b.length ≤ 9223372036854775807) {K : AV → Prop}  (hK : K (.val (.string ⟨(a ++ b).toArray⟩))) : ∃ u, aBin P .add t (.val (.string ⟨a.toArray⟩)) (.val (.string ⟨b.toArray⟩)) u ∧ K u := ⟨_, (r_s_add h).2 rfl, hK⟩
theorem s_len_lst {t : TypeId} (h : isSl P t = true) {z : Nat} {l : List AV} {m : SM} {K : AV → Prop}  (hK : K (.val (.int .i64 l.length))) : ∃ u, aBuiltin P .len #[t] [.lst z l m] u ∧ K u := ⟨_, (r_len_lst h).2 rfl, hK⟩
theorem s_len_own {t : TypeId} (h : isSl P t = true) {v : Value} {n : Nat} {K : AV → Prop}  (hK : K (.val (.int .i64 n))) : ∃ u, aBuiltin P .len #[t] [.own v n] u ∧ K u := ⟨_, (r_len_own h).2 rfl, hK⟩
theorem s_len_S {t : TypeId} (h : P.underlying t = some .string) {l : List UInt8} {K : AV → Prop}  (hK : K (.val (.int .i64 l.length))) : ∃ u, aBuiltin P .len #[t] [.val (.string ⟨l.toArray⟩)] u ∧ K u := ⟨_, (r_len_S h).2 rfl, hK⟩
theorem s_len_nil {t : TypeId} (h : isSl P t = true) {K : AV → Prop}  (hK : K (.val (.int .i64 0))) : ∃ u, aBuiltin P .len #[t] [.val (.slice none 0 0)] u ∧ K u := ⟨_, (r_len_nil h).2 rfl, hK⟩
theorem s_min {t t' : TypeId} {k : IntKind} {x y : Int} {K : AV → Prop}  (hK : K (.val (.int k (min x y)))) : ∃ u, aBuiltin P .min #[t, t'] [.val (.int k x), .val (.int k y)] u ∧ K u := ⟨_, (r_min).2 rfl, hK⟩
theorem s_max {t t' : TypeId} {k : IntKind} {x y : Int} {K : AV → Prop}  (hK : K (.val (.int k (max x y)))) : ∃ u, aBuiltin P .max #[t, t'] [.val (.int k x), .val (.int k y)] u ∧ K u := ⟨_, (r_max).2 rfl, hK⟩
theorem s_index_S {l : List UInt8} {k : IntKind} {i : Int} {K : AV → Prop} (q0 : 0 ≤ i) (q1 : i < l.length) (hK : K (.val (.int .u8 (l.getD i.toNat 0).toNat))) : ∃ u, aIndex .string false 1 (.val (.string ⟨l.toArray⟩)) (.val (.int k i)) u ∧ K u := ⟨_, (r_index_S).2 ⟨⟨q0, q1⟩, rfl⟩, hK⟩
theorem s_slice_S {l : List UInt8} {k k' : IntKind} {a b : Int} {K : AV → Prop} (q0 : 0 ≤ a) (q1 : a ≤ b) (q2 : b ≤ l.length) (hK : K (.val (.string ⟨((l.take b.toNat).drop a.toNat).toArray⟩))) : ∃ u, aSlice .string 1 (.val (.string ⟨l.toArray⟩)) (some (.val (.int k a))) (some (.val (.int k' b))) none u ∧ K u := ⟨_, (r_slice_S).2 ⟨⟨q0, q1, q2⟩, rfl⟩, hK⟩
theorem s_slice_S1 {l : List UInt8} {k : IntKind} {a : Int} {K : AV → Prop} (q0 : 0 ≤ a) (q1 : a ≤ l.length) (hK : K (.val (.string ⟨(l.drop a.toNat).toArray⟩))) : ∃ u, aSlice .string 1 (.val (.string ⟨l.toArray⟩)) (some (.val (.int k a))) none none u ∧ K u := ⟨_, (r_slice_S1).2 ⟨⟨q0, q1⟩, rfl⟩, hK⟩
theorem s_slice_S2 {l : List UInt8} {k' : IntKind} {b : Int} {K : AV → Prop} (q0 : 0 ≤ b) (q1 : b ≤ l.length) (hK : K (.val (.string ⟨(l.take b.toNat).toArray⟩))) : ∃ u, aSlice .string 1 (.val (.string ⟨l.toArray⟩)) none (some (.val (.int k' b))) none u ∧ K u := ⟨_, (r_slice_S2).2 ⟨⟨q0, q1⟩, rfl⟩, hK⟩
theorem s_slice {sz : Nat} {l : List AV} {m : SM} {k k' : IntKind} {a b : Int} {K : AV → Prop} (q0 : 0 ≤ a) (q1 : a ≤ b) (q2 : b ≤ l.length) (hK : K (.lst sz ((l.take b.toNat).drop a.toNat) .ro)) : ∃ u, aSlice .slice sz (.lst sz l m) (some (.val (.int k a))) (some (.val (.int k' b))) none u ∧ K u := ⟨_, (r_slice).2 ⟨⟨q0, q1, q2⟩, rfl⟩, hK⟩
theorem s_slice1 {sz : Nat} {l : List AV} {m : SM} {k : IntKind} {a : Int} {K : AV → Prop} (q0 : 0 ≤ a) (q1 : a ≤ l.length) (hK : K (.lst sz (l.drop a.toNat) .ro)) : ∃ u, aSlice .slice sz (.lst sz l m) (some (.val (.int k a))) none none u ∧ K u := ⟨_, (r_slice1).2 ⟨⟨q0, q1⟩, rfl⟩, hK⟩
theorem s_slice2 {sz : Nat} {l : List AV} {m : SM} {k' : IntKind} {b : Int} {K : AV → Prop} (q0 : 0 ≤ b) (q1 : b ≤ l.length) (hK : K (.lst sz (l.take b.toNat) .ro)) : ∃ u, aSlice .slice sz (.lst sz l m) none (some (.val (.int k' b))) none u ∧ K u := ⟨_, (r_slice2).2 ⟨⟨q0, q1⟩, rfl⟩, hK⟩
theorem s_slice3 {sz : Nat} {l : List AV} {m : SM} {k k' : IntKind} {b c : Int} {K : AV → Prop} (q0 : 0 ≤ b) (q1 : b ≤ l.length) (q2 : c = b) (hK : K (.lst sz (l.take b.toNat) .full)) : ∃ u, aSlice .slice sz (.lst sz l m) none (some (.val (.int k b))) (some (.val (.int k' c))) u ∧ K u := ⟨_, (r_slice3).2 ⟨⟨q0, q1, q2⟩, rfl⟩, hK⟩
theorem s_ixa {sz : Nat} {l : List AV} {m : SM} {k : IntKind} {i : Int} {K : AV → Prop} (q0 : 0 ≤ i) (q1 : i < l.length) (hK : K (.rptr (l.getD i.toNat .undef).cells)) : ∃ u, aIndexAddr .slice sz (.lst sz l m) (.val (.int k i)) u ∧ K u := ⟨_, (r_ixa).2 ⟨⟨q0, q1⟩, rfl⟩, hK⟩
theorem s_fa {off s : Nat} {cs : List AV} {K : AV → Prop} (q0 : 0 < s) (q1 : off + s ≤ cs.length) (hK : K (.rptr ((cs.drop off).take s))) : ∃ u, aFieldAddr off s (.rptr cs) u ∧ K u := ⟨_, (r_fa).2 ⟨⟨q0, q1⟩, rfl⟩, hK⟩
theorem s_load1 {c : AV} {cs : List AV} {σ : Store} {K : AV → Prop}  (hK : K (c)) : ∃ u, loadA false 1 (.rptr (c :: cs)) σ u ∧ K u := ⟨_, (r_load1).2 rfl, hK⟩
theorem s_loadA {s : Nat} {cs : List AV} {σ : Store} {K : AV → Prop} (q0 : 0 < s) (q1 : s ≤ cs.length) (hK : K (.agg (cs.take s))) : ∃ u, loadA true s (.rptr cs) σ u ∧ K u := ⟨_, (r_loadA).2 ⟨⟨q0, q1⟩, rfl⟩, hK⟩
theorem s_freeze {cs : List AV} {K : AV → Prop} (q0 : (∀ c ∈ cs, c.one = true)) (hK : K (.rptr cs)) : ∃ u, aFreeze cs u ∧ K u := ⟨_, (r_freeze).2 ⟨q0, rfl⟩, hK⟩

/-! wraps that turn nothing -/
theorem s_add64 {t : TypeId} {x y : Int} {K : AV → Prop} (h1 : -9223372036854775808 ≤ x + y) (h2 : x + y ≤ 9223372036854775807) (hK : K (.val (.int .i64 (x + y)))) : ∃ u, aBin P .add t (.val (.int .i64 x)) (.val (.int .i64 y)) u ∧ K u := s_add (by rw [wrap_i64 h1 h2]; exact hK)
theorem s_sub64 {t : TypeId} {x y : Int} {K : AV → Prop} (h1 : -9223372036854775808 ≤ x - y) (h2 : x - y ≤ 9223372036854775807) (hK : K (.val (.int .i64 (x - y)))) : ∃ u, aBin P .sub t (.val (.int .i64 x)) (.val (.int .i64 y)) u ∧ K u := s_sub (by rw [wrap_i64 h1 h2]; exact hK)
theorem s_mul64 {t : TypeId} {x y : Int} {K : AV → Prop} (h1 : -9223372036854775808 ≤ x * y) (h2 : x * y ≤ 9223372036854775807) (hK : K (.val (.int .i64 (x * y)))) : ∃ u, aBin P .mul t (.val (.int .i64 x)) (.val (.int .i64 y)) u ∧ K u := s_mul (by rw [wrap_i64 h1 h2]; exact hK)
/-! conversions of numbers -/
def kindOf (P : Program) (t : TypeId) : Option IntKind := match P.underlying t with
  | some (.int k) => some k
  | _ => none
theorem kindOf_run {t : TypeId} {k : IntKind} (h : kindOf P t = some k) : P.underlying t = some (.int k) := by
  unfold kindOf at h
  split at h
  · rename_i k' hk; cases h; exact hk
  · cases h
theorem s_conv {s d : TypeId} {k k' : IntKind} {x : Int} {K : AV → Prop} (hd : kindOf P d = some k') (hs : kindOf P s = some k) (hK : K (.val (.int k' (k'.wrap x)))) : ∃ u, aConvN s d (.val (.int k x)) u P ∧ K u := ⟨_, (r_conv (kindOf_run hd) (kindOf_run hs)).2 rfl, hK⟩
theorem s_fa0 {a : AV} {cs : List AV} {K : AV → Prop} (hK : K (.rptr [a])) : ∃ u, aFieldAddr 0 1 (.rptr (a :: cs)) u ∧ K u := s_fa (Nat.le_refl _) (by simp only [List.length_cons]; omega) hK
theorem s_fa1 {a b : AV} {cs : List AV} {K : AV → Prop} (hK : K (.rptr [b])) : ∃ u, aFieldAddr 1 1 (.rptr (a :: b :: cs)) u ∧ K u := s_fa (Nat.le_refl _) (by simp only [List.length_cons]; omega) hK
theorem s_fa2 {a b c : AV} {cs : List AV} {K : AV → Prop} (hK : K (.rptr [c])) : ∃ u, aFieldAddr 2 1 (.rptr (a :: b :: c :: cs)) u ∧ K u := s_fa (Nat.le_refl _) (by simp only [List.length_cons]; omega) hK
theorem s_fa3 {a b c d : AV} {cs : List AV} {K : AV → Prop} (hK : K (.rptr [d])) : ∃ u, aFieldAddr 3 1 (.rptr (a :: b :: c :: d :: cs)) u ∧ K u := s_fa (Nat.le_refl _) (by simp only [List.length_cons]; omega) hK
theorem s_slmf {α : Type} {sz : Nat} {f : α → AV} {l : List α} {m : SM} {k k' : IntKind} {K : AV → Prop} (hK : K (.lst sz (l.map f) .full)) : ∃ u, aSlice .slice sz (.lst sz (l.map f) m) none (some (.val (.int k l.length))) (some (.val (.int k' l.length))) u ∧ K u :=
  s_slice3 (by omega) (by simp) rfl (by rw [List.take_of_length_le (by simp)]; exact hK)
theorem s_slm {α : Type} {sz : Nat} {f : α → AV} {l : List α} {m : SM} {k k' : IntKind} {a b : Int} {K : AV → Prop} (h0 : 0 ≤ a) (h1 : a ≤ b) (h2 : b ≤ l.length) (hK : K (.lst sz (((l.take b.toNat).drop a.toNat).map f) .ro)) : ∃ u, aSlice .slice sz (.lst sz (l.map f) m) (some (.val (.int k a))) (some (.val (.int k' b))) none u ∧ K u :=
  s_slice h0 h1 (by simpa using h2) (by simpa using hK)
theorem s_slm1 {α : Type} {sz : Nat} {f : α → AV} {l : List α} {m : SM} {k : IntKind} {a : Int} {K : AV → Prop} (h0 : 0 ≤ a) (h1 : a ≤ l.length) (hK : K (.lst sz ((l.drop a.toNat).map f) .ro)) : ∃ u, aSlice .slice sz (.lst sz (l.map f) m) (some (.val (.int k a))) none none u ∧ K u :=
  s_slice1 h0 (by simpa using h1) (by simpa using hK)
theorem s_slm2 {α : Type} {sz : Nat} {f : α → AV} {l : List α} {m : SM} {k : IntKind} {b : Int} {K : AV → Prop} (h0 : 0 ≤ b) (h1 : b ≤ l.length) (hK : K (.lst sz ((l.take b.toNat).map f) .ro)) : ∃ u, aSlice .slice sz (.lst sz (l.map f) m) none (some (.val (.int k b))) none u ∧ K u :=
  s_slice2 h0 (by simpa using h1) (by simpa using hK)
theorem s_conv_i64 {s d : TypeId} {k : IntKind} {x : Int} {K : AV → Prop} (hd : kindOf P d = some .i64) (h1 : -9223372036854775808 ≤ x) (h2 : x ≤ 9223372036854775807) (hs : kindOf P s = some k) (hK : K (.val (.int .i64 x))) : ∃ u, aConvN s d (.val (.int k x)) u P ∧ K u := s_conv hd hs (by rw [wrap_i64 h1 h2]; exact hK)
theorem s_conv_u64 {s d : TypeId} {k : IntKind} {x : Int} {K : AV → Prop} (hd : kindOf P d = some .u64) (h1 : 0 ≤ x) (h2 : x < 18446744073709551616) (hs : kindOf P s = some k) (hK : K (.val (.int .u64 x))) : ∃ u, aConvN s d (.val (.int k x)) u P ∧ K u := s_conv hd hs (by rw [wrap_u64 h1 h2]; exact hK)
theorem s_conv_u32 {s d : TypeId} {k : IntKind} {x : Int} {K : AV → Prop} (hd : kindOf P d = some .u32) (h1 : 0 ≤ x) (h2 : x < 4294967296) (hs : kindOf P s = some k) (hK : K (.val (.int .u32 x))) : ∃ u, aConvN s d (.val (.int k x)) u P ∧ K u := s_conv hd hs (by rw [wrap_u32 h1 h2]; exact hK)
theorem s_conv_u8 {s d : TypeId} {k : IntKind} {x : Int} {K : AV → Prop} (hd : kindOf P d = some .u8) (h1 : 0 ≤ x) (h2 : x < 256) (hs : kindOf P s = some k) (hK : K (.val (.int .u8 x))) : ∃ u, aConvN s d (.val (.int k x)) u P ∧ K u := s_conv hd hs (by rw [wrap_u8 h1 h2]; exact hK)
theorem s_convm_u64 {s d : TypeId} {k : IntKind} {x : Int} {K : AV → Prop} (hd : kindOf P d = some .u64) (hs : kindOf P s = some k) (hK : K (.val (.int .u64 (x % 18446744073709551616)))) : ∃ u, aConvN s d (.val (.int k x)) u P ∧ K u := s_conv hd hs (by rw [wrap_u64']; exact hK)
theorem s_convm_u32 {s d : TypeId} {k : IntKind} {x : Int} {K : AV → Prop} (hd : kindOf P d = some .u32) (hs : kindOf P s = some k) (hK : K (.val (.int .u32 (x % 4294967296)))) : ∃ u, aConvN s d (.val (.int k x)) u P ∧ K u := s_conv hd hs (by rw [wrap_u32']; exact hK)
theorem s_convm_u8 {s d : TypeId} {k : IntKind} {x : Int} {K : AV → Prop} (hd : kindOf P d = some .u8) (hs : kindOf P s = some k) (hK : K (.val (.int .u8 (x % 256)))) : ∃ u, aConvN s d (.val (.int k x)) u P ∧ K u := s_conv hd hs (by rw [wrap_u8']; exact hK)
/-! guards, choices, tests -/
theorem s_gT {φ : Prop} [Decidable φ] {X K : AV → Prop} (h : φ) (hK : ∃ u, X u ∧ K u) : ∃ u, aGuard (.val (.bool (decide φ))) true X u ∧ K u := by
  rw [decide_eq_true h]; exact ex_guard.2 ⟨fun _ => hK, fun h => by cases h⟩
theorem s_gF {φ : Prop} [Decidable φ] {X K : AV → Prop} (h : ¬ φ) (hK : K (.val Go.undef)) : ∃ u, aGuard (.val (.bool (decide φ))) true X u ∧ K u := by
  rw [decide_eq_false h]; exact ex_guard.2 ⟨fun h => by (cases h), fun _ => hK⟩
theorem s_gS {φ : Prop} [Decidable φ] {X K : AV → Prop} (h1 : φ → ∃ u, X u ∧ K u) (h2 : ¬ φ → K (.val Go.undef)) : ∃ u, aGuard (.val (.bool (decide φ))) true X u ∧ K u := by
  by_cases h : φ
  · exact s_gT h (h1 h)
  · exact s_gF h (h2 h)
theorem s_gT' {φ : Prop} [Decidable φ] {X K : AV → Prop} (h : ¬ φ) (hK : ∃ u, X u ∧ K u) : ∃ u, aGuard (.val (.bool (decide φ))) false X u ∧ K u := by
  rw [decide_eq_false h]; exact ex_guard.2 ⟨fun _ => hK, fun h => by cases h⟩
theorem s_gF' {φ : Prop} [Decidable φ] {X K : AV → Prop} (h : φ) (hK : K (.val Go.undef)) : ∃ u, aGuard (.val (.bool (decide φ))) false X u ∧ K u := by
  rw [decide_eq_true h]; exact ex_guard.2 ⟨fun h => by (cases h), fun _ => hK⟩
theorem s_gS' {φ : Prop} [Decidable φ] {X K : AV → Prop} (h1 : ¬ φ → ∃ u, X u ∧ K u) (h2 : φ → K (.val Go.undef)) : ∃ u, aGuard (.val (.bool (decide φ))) false X u ∧ K u := by
  by_cases h : φ
  · exact s_gF' h (h2 h)
  · exact s_gT' h (h1 h)
theorem s_gbS {b : Bool} {X K : AV → Prop} (h1 : b = true → ∃ u, X u ∧ K u) (h2 : b = false → K (.val Go.undef)) : ∃ u, aGuard (.val (.bool b)) true X u ∧ K u := ex_guard.2 ⟨h1, h2⟩
theorem s_gbS' {b : Bool} {X K : AV → Prop} (h1 : b = false → ∃ u, X u ∧ K u) (h2 : b = true → K (.val Go.undef)) : ∃ u, aGuard (.val (.bool b)) false X u ∧ K u := ex_guard.2 ⟨h1, h2⟩
theorem s_gbT {b : Bool} {X K : AV → Prop} (h : b = true) (hK : ∃ u, X u ∧ K u) : ∃ u, aGuard (.val (.bool b)) true X u ∧ K u := ex_guard.2 ⟨fun _ => hK, fun h' => by rw [h] at h'; cases h'⟩
theorem s_gbF {b : Bool} {X K : AV → Prop} (h : b = false) (hK : K (.val Go.undef)) : ∃ u, aGuard (.val (.bool b)) true X u ∧ K u := ex_guard.2 ⟨fun h' => by (rw [h] at h'; cases h'), fun _ => hK⟩
theorem s_gbT' {b : Bool} {X K : AV → Prop} (h : b = false) (hK : ∃ u, X u ∧ K u) : ∃ u, aGuard (.val (.bool b)) false X u ∧ K u := ex_guard.2 ⟨fun _ => hK, fun h' => by rw [h] at h'; cases h'⟩
theorem s_gbF' {b : Bool} {X K : AV → Prop} (h : b = true) (hK : K (.val Go.undef)) : ∃ u, aGuard (.val (.bool b)) false X u ∧ K u := ex_guard.2 ⟨fun h' => by (rw [h] at h'; cases h'), fun _ => hK⟩
theorem s_pT {φ : Prop} [Decidable φ] {x y : AV} {K : AV → Prop} (h : φ) (hK : K x) : ∃ u, aPick (.val (.bool (decide φ))) x y u ∧ K u := by simp only [decide_eq_true h, aPick, if_true, exists_eq_left]; exact hK
theorem s_pF {φ : Prop} [Decidable φ] {x y : AV} {K : AV → Prop} (h : ¬ φ) (hK : K y) : ∃ u, aPick (.val (.bool (decide φ))) x y u ∧ K u := by simp only [decide_eq_false h, aPick, exists_eq_left]; exact hK
theorem s_pbT {b : Bool} {x y : AV} {K : AV → Prop} (h : b = true) (hK : K x) : ∃ u, aPick (.val (.bool b)) x y u ∧ K u := by subst h; simp only [aPick, if_true, exists_eq_left]; exact hK
theorem s_pbF {b : Bool} {x y : AV} {K : AV → Prop} (h : b = false) (hK : K y) : ∃ u, aPick (.val (.bool b)) x y u ∧ K u := by subst h; simp only [aPick, exists_eq_left]; exact hK
theorem s_pS {φ : Prop} [Decidable φ] {x y : AV} {K : AV → Prop} (h1 : φ → K x) (h2 : ¬ φ → K y) : ∃ u, aPick (.val (.bool (decide φ))) x y u ∧ K u := by
  by_cases h : φ
  · exact s_pT h (h1 h)
  · exact s_pF h (h2 h)
theorem s_pb {b : Bool} {x y : AV} {K : AV → Prop} (h1 : b = true → K x) (h2 : b = false → K y) : ∃ u, aPick (.val (.bool b)) x y u ∧ K u := by
  cases b
  · exact s_pbF rfl (h2 rfl)
  · exact s_pbT rfl (h1 rfl)
theorem s_cT {φ : Prop} [Decidable φ] {x y : Prop} (h : φ) (hx : x) : aCond (.val (.bool (decide φ))) x y := r_cond.2 ⟨fun _ => hx, fun h' => absurd h (of_decide_eq_false h')⟩
theorem s_cF {φ : Prop} [Decidable φ] {x y : Prop} (h : ¬ φ) (hy : y) : aCond (.val (.bool (decide φ))) x y := r_cond.2 ⟨fun h' => absurd (of_decide_eq_true h') h, fun _ => hy⟩
theorem s_cS {φ : Prop} [Decidable φ] {x y : Prop} (h1 : φ → x) (h2 : ¬ φ → y) : aCond (.val (.bool (decide φ))) x y := r_cond.2 ⟨fun h => h1 (of_decide_eq_true h), fun h => h2 (of_decide_eq_false h)⟩
theorem s_cbT {b : Bool} {x y : Prop} (h : b = true) (hx : x) : aCond (.val (.bool b)) x y := r_cond.2 ⟨fun _ => hx, fun h' => by rw [h] at h'; cases h'⟩
theorem s_cbF {b : Bool} {x y : Prop} (h : b = false) (hy : y) : aCond (.val (.bool b)) x y := r_cond.2 ⟨fun h' => by (rw [h] at h'; cases h'), fun _ => hy⟩
theorem s_cb {b : Bool} {x y : Prop} (h1 : b = true → x) (h2 : b = false → y) : aCond (.val (.bool b)) x y := r_cond.2 ⟨h1, h2⟩
theorem s_notd {φ : Prop} [Decidable φ] {K : AV → Prop} (hK : K (.val (.bool (decide (¬ φ))))) : ∃ u, aUn P .not (.val (.bool (decide φ))) u ∧ K u := s_not (by rw [← decide_not]; exact hK)
theorem s_eq {a : AV} {K : AV → Prop} (hK : K a) : ∃ u, u = a ∧ K u := ⟨_, rfl, hK⟩
theorem s_ext0 {a : AV} {us : List AV} {K : AV → Prop} (hK : K a) : ∃ u, aExt (.tuple (a :: us)) 0 u ∧ K u := ⟨a, rfl, hK⟩
theorem s_ext1 {a b : AV} {us : List AV} {K : AV → Prop} (hK : K b) : ∃ u, aExt (.tuple (a :: b :: us)) 1 u ∧ K u := ⟨b, rfl, hK⟩
theorem s_ext2 {a b c : AV} {us : List AV} {K : AV → Prop} (hK : K c) : ∃ u, aExt (.tuple (a :: b :: c :: us)) 2 u ∧ K u := ⟨c, rfl, hK⟩
theorem s_ext3 {a b c d : AV} {us : List AV} {K : AV → Prop} (hK : K d) : ∃ u, aExt (.tuple (a :: b :: c :: d :: us)) 3 u ∧ K u := ⟨d, rfl, hK⟩
/-- an element of a list of things that are told by a function -/
theorem s_ixm {α : Type} [Inhabited α] {sz : Nat} {f : α → AV} {l : List α} {m : SM} {k : IntKind} {i : Int} {K : AV → Prop} (h0 : 0 ≤ i) (h1 : i < l.length) (hK : K (.rptr (f (l.getD i.toNat default)).cells)) : ∃ u, aIndexAddr .slice sz (.lst sz (l.map f) m) (.val (.int k i)) u ∧ K u :=
  s_ixa h0 (by simpa using h1) (by rw [getD_map default (by omega)]; exact hK)
theorem s_ixmN {α : Type} [Inhabited α] {sz : Nat} {f : α → AV} {l : List α} {m : SM} {k : IntKind} {i : Nat} {K : AV → Prop} (h1 : (i : Int) < l.length) (hK : K (.rptr (f (l.getD i default)).cells)) : ∃ u, aIndexAddr .slice sz (.lst sz (l.map f) m) (.val (.int k i)) u ∧ K u :=
  s_ixm (by omega) h1 (by simpa using hK)
theorem s_slS1N {l : List UInt8} {k : IntKind} {a : Nat} {K : AV → Prop} (h1 : (a : Int) ≤ l.length) (hK : K (.val (.string ⟨(l.drop a).toArray⟩))) : ∃ u, aSlice .string 1 (.val (.string ⟨l.toArray⟩)) (some (.val (.int k a))) none none u ∧ K u := s_slice_S1 (by omega) h1 hK
theorem s_lenm {α : Type} {t : TypeId} (h : isSl P t = true) {z : Nat} {f : α → AV} {l : List α} {m : SM} {K : AV → Prop} (hK : K (.val (.int .i64 l.length))) : ∃ u, aBuiltin P .len #[t] [.lst z (l.map f) m] u ∧ K u := s_len_lst h (by simpa using hK)

theorem is_aBin {op : BinOp} {t : TypeId} {x y : AV} {K : AV → Prop} (h : ∃ u, aBin P op t x y u ∧ K u) : ∃ u, aBin P op t x y u ∧ K u := h
theorem is_loadA {ag : Bool} {s : Nat} {p : AV} {σ : Store} {K : AV → Prop} (h : ∃ u, loadA ag s p σ u ∧ K u) : ∃ u, loadA ag s p σ u ∧ K u := h
theorem is_aFieldAddr {off s : Nat} {x : AV} {K : AV → Prop} (h : ∃ u, aFieldAddr off s x u ∧ K u) : ∃ u, aFieldAddr off s x u ∧ K u := h
theorem is_aFreeze {l : List AV} {K : AV → Prop} (h : ∃ u, aFreeze l u ∧ K u) : ∃ u, aFreeze l u ∧ K u := h
theorem is_aConvBS {x : AV} {K : AV → Prop} (h : ∃ u, aConvBS x u ∧ K u) : ∃ u, aConvBS x u ∧ K u := h
theorem is_aConvSB {x : AV} {K : AV → Prop} (h : ∃ u, aConvSB x u ∧ K u) : ∃ u, aConvSB x u ∧ K u := h
theorem is_aGuard {g : AV} {w : Bool} {X : AV → Prop} {K : AV → Prop} (h : ∃ u, aGuard g w X u ∧ K u) : ∃ u, aGuard g w X u ∧ K u := h
theorem is_aPick {g x y : AV} {K : AV → Prop} (h : ∃ u, aPick g x y u ∧ K u) : ∃ u, aPick g x y u ∧ K u := h
theorem is_aCond {c : AV} {x y : Prop} (h : aCond c x y) : aCond c x y := h
theorem is_aUn {op : UnOp} {x : AV} {K : AV → Prop} (h : ∃ u, aUn P op x u ∧ K u) : ∃ u, aUn P op x u ∧ K u := h
theorem is_aConvN {s d : TypeId} {x : AV} {K : AV → Prop} (h : ∃ u, aConvN s d x u P ∧ K u) : ∃ u, aConvN s d x u P ∧ K u := h
theorem is_aExt {x : AV} {i : Nat} {K : AV → Prop} (h : ∃ u, aExt x i u ∧ K u) : ∃ u, aExt x i u ∧ K u := h
theorem is_aBuiltin {b : Builtin} {ts : Array TypeId} {l : List AV} {K : AV → Prop} (h : ∃ u, aBuiltin P b ts l u ∧ K u) : ∃ u, aBuiltin P b ts l u ∧ K u := h
theorem is_aIndexAddr {c : Con} {sz : Nat} {x i : AV} {K : AV → Prop} (h : ∃ u, aIndexAddr c sz x i u ∧ K u) : ∃ u, aIndexAddr c sz x i u ∧ K u := h
theorem is_aSlice {c : Con} {sz : Nat} {x : AV} {lo hi mx : Option AV} {K : AV → Prop} (h : ∃ u, aSlice c sz x lo hi mx u ∧ K u) : ∃ u, aSlice c sz x lo hi mx u ∧ K u := h
theorem is_aIndex {c : Con} {ag : Bool} {sz : Nat} {x i : AV} {K : AV → Prop} (h : ∃ u, aIndex c ag sz x i u ∧ K u) : ∃ u, aIndex c ag sz x i u ∧ K u := h
end Go.Ab
