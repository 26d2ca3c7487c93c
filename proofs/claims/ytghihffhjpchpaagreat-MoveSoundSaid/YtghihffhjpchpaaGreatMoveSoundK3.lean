/- The texts that this claim needs, part 3: a logic over abstract values, its steps, what the functions do. No condition of its own. -/
import Derived.Laws.StructEq
import Derived.Test.YtghihffhjpchpaaGreatMoveSoundK2
set_option linter.unusedVariables false
set_option linter.unusedSimpArgs false
namespace Go.Ab
variable {P : Program}
theorem s_add {t : TypeId} {k : IntKind} {x y : Int} {K : AV → Prop}  (hK : K (.val (.int k (k.wrap (x + y))))) : ∃ u, aBin P .add t (.val (.int k x)) (.val (.int k y)) u ∧ K u := ⟨_, (r_add).2 rfl, hK⟩
theorem s_sub {t : TypeId} {k : IntKind} {x y : Int} {K : AV → Prop}  (hK : K (.val (.int k (k.wrap (x - y))))) : ∃ u, aBin P .sub t (.val (.int k x)) (.val (.int k y)) u ∧ K u := ⟨_, (r_sub).2 rfl, hK⟩
theorem s_mul {t : TypeId} {k : IntKind} {x y : Int} {K : AV → Prop}  (hK : K (.val (.int k (k.wrap (x * y))))) : ∃ u, aBin P .mul t (.val (.int k x)) (.val (.int k y)) u ∧ K u := ⟨_, (r_mul).2 rfl, hK⟩
theorem s_quo {t : TypeId} {k : IntKind} {x y : Int}  (h : y ≠ 0) {K : AV → Prop}  (hK : K (.val (.int k (k.wrap (x.tdiv y))))) : ∃ u, aBin P .quo t (.val (.int k x)) (.val (.int k y)) u ∧ K u := ⟨_, (r_quo h).2 rfl, hK⟩
theorem s_rem {t : TypeId} {k : IntKind} {x y : Int}  (h : y ≠ 0) {K : AV → Prop}  (hK : K (.val (.int k (x.tmod y)))) : ∃ u, aBin P .rem t (.val (.int k x)) (.val (.int k y)) u ∧ K u := ⟨_, (r_rem h).2 rfl, hK⟩
theorem s_eql {t : TypeId} {k : IntKind} {x y : Int} {K : AV → Prop}  (hK : K (.val (.bool (decide (x = y))))) : ∃ u, aBin P .eql t (.val (.int k x)) (.val (.int k y)) u ∧ K u := ⟨_, (r_eql).2 rfl, hK⟩
theorem s_neq {t : TypeId} {k : IntKind} {x y : Int} {K : AV → Prop}  (hK : K (.val (.bool (decide (x ≠ y))))) : ∃ u, aBin P .neq t (.val (.int k x)) (.val (.int k y)) u ∧ K u := ⟨_, (r_neq).2 rfl, hK⟩
theorem s_lss {t : TypeId} {k : IntKind} {x y : Int} {K : AV → Prop}  (hK : K (.val (.bool (decide (x < y))))) : ∃ u, aBin P .lss t (.val (.int k x)) (.val (.int k y)) u ∧ K u := ⟨_, (r_lss).2 rfl, hK⟩
theorem s_leq {t : TypeId} {k : IntKind} {x y : Int} {K : AV → Prop}  (hK : K (.val (.bool (decide (x ≤ y))))) : ∃ u, aBin P .leq t (.val (.int k x)) (.val (.int k y)) u ∧ K u := ⟨_, (r_leq).2 rfl, hK⟩
theorem s_gtr {t : TypeId} {k : IntKind} {x y : Int} {K : AV → Prop}  (hK : K (.val (.bool (decide (y < x))))) : ∃ u, aBin P .gtr t (.val (.int k x)) (.val (.int k y)) u ∧ K u := ⟨_, (r_gtr).2 rfl, hK⟩
theorem s_geq {t : TypeId} {k : IntKind} {x y : Int} {K : AV → Prop}  (hK : K (.val (.bool (decide (y ≤ x))))) : ∃ u, aBin P .geq t (.val (.int k x)) (.val (.int k y)) u ∧ K u := ⟨_, (r_geq).2 rfl, hK⟩
theorem s_shl {t : TypeId} {k k' : IntKind} {x y : Int}  (h : 0 ≤ y) {K : AV → Prop}  (hK : K (.val (.int k (k.wrap (x * 2 ^ (min y.toNat k.bits)))))) : ∃ u, aBin P .shl t (.val (.int k x)) (.val (.int k' y)) u ∧ K u := ⟨_, (r_shl h).2 rfl, hK⟩
theorem s_shr {t : TypeId} {k k' : IntKind} {x y : Int}  (h : 0 ≤ y) {K : AV → Prop}  (hK : K (.val (.int k (x.fdiv (2 ^ (min y.toNat k.bits)))))) : ∃ u, aBin P .shr t (.val (.int k x)) (.val (.int k' y)) u ∧ K u := ⟨_, (r_shr h).2 rfl, hK⟩
theorem s_not {b : Bool} {K : AV → Prop}  (hK : K (.val (.bool (!b)))) : ∃ u, aUn P .not (.val (.bool b)) u ∧ K u := ⟨_, (r_not).2 rfl, hK⟩
theorem s_s_eql {t : TypeId} {a b : List UInt8} {K : AV → Prop}  (hK : K (.val (.bool (decide (a = b))))) : ∃ u, aBin P .eql t (.val (.string ⟨a.toArray⟩)) (.val (.string ⟨b.toArray⟩)) u ∧ K u := ⟨_, (r_s_eql).2 rfl, hK⟩
theorem s_s_neq {t : TypeId} {a b : List UInt8} {K : AV → Prop}  (hK : K (.val (.bool (decide (a ≠ b))))) : ∃ u, aBin P .neq t (.val (.string ⟨a.toArray⟩)) (.val (.string ⟨b.toArray⟩)) u ∧ K u := ⟨_, (r_s_neq).2 rfl, hK⟩
theorem s_s_lss {t : TypeId} {a b : List UInt8} {K : AV → Prop}  (hK : K (.val (.bool (Op.bytesLess a b)))) : ∃ u, aBin P .lss t (.val (.string ⟨a.toArray⟩)) (.val (.string ⟨b.toArray⟩)) u ∧ K u := ⟨_, (r_s_lss).2 rfl, hK⟩
theorem s_s_geq {t : TypeId} {a b : List UInt8} {K : AV → Prop}  (hK : K (.val (.bool (!Op.bytesLess a b)))) : ∃ u, aBin P .geq t (.val (.string ⟨a.toArray⟩)) (.val (.string ⟨b.toArray⟩)) u ∧ K u := ⟨_, (r_s_geq).2 rfl, hK⟩
theorem s_s_leq {t : TypeId} {a b : List UInt8} {K : AV → Prop}  (hK : K (.val (.bool (Op.bytesLess a b || decide (a = b))))) : ∃ u, aBin P .leq t (.val (.string ⟨a.toArray⟩)) (.val (.string ⟨b.toArray⟩)) u ∧ K u := ⟨_, (r_s_leq).2 rfl, hK⟩
theorem s_s_gtr {t : TypeId} {a b : List UInt8} {K : AV → Prop}  (hK : K (.val (.bool (!(Op.bytesLess a b || decide (a = b)))))) : ∃ u, aBin P .gtr t (.val (.string ⟨a.toArray⟩)) (.val (.string ⟨b.toArray⟩)) u ∧ K u := ⟨_, (r_s_gtr).2 rfl, hK⟩
theorem s_s_add {t : TypeId} {a b : List UInt8}  (h : a.length + b.length ≤ 9223372036854775807) {K : AV → Prop}  (hK : K (.val (.string ⟨(a ++ b).toArray⟩))) : ∃ u, aBin P .add t (.val (.string ⟨a.toArray⟩)) (.val (.string ⟨b.toArray⟩)) u ∧ K u := ⟨_, (r_s_add h).2 rfl, hK⟩
theorem s_len_lst {t : TypeId} (h : isSl P t = true) {z : Nat} {l : List AV} {m : SM} {K : AV → Prop}  (hK : K (.val (.int .i64 l.length))) : ∃ u, aBuiltin P .len #[t] [.lst z l m] u ∧ K u := ⟨_, (r_len_lst h).2 rfl, hK⟩
theorem s_len_own {t : TypeId} (h : isSl P t = true) {v : Value} {n : Nat} {K : AV → Prop}  (hK : K (.val (.int .i64 n))) : ∃ u, aBuiltin P .len #[t] [.own v n] u ∧ K u := ⟨_, (r_len_own h).2 rfl, hK⟩
theorem s_len_S {t : TypeId} (h : P.underlying t = some .string) {l : List UInt8} {K : AV → Prop}  (hK : K (.val (.int .i64 l.length))) : ∃ u, aBuiltin P .len #[t] [.val (.string ⟨l.toArray⟩)] u ∧ K u := ⟨_, (r_len_S h).2 rfl, hK⟩
theorem s_len_nil {t : TypeId} (h : isSl P t = true) {K : AV → Prop}  (hK : K (.val (.int .i64 0))) : ∃ u, aBuiltin P .len #[t] [.val (.slice none 0 0)] u ∧ K u := ⟨_, (r_len_nil h).2 rfl, hK⟩
theorem s_min {t t' : TypeId} {k : IntKind} {x y : Int} {K : AV → Prop}  (hK : K (.val (.int k (min x y)))) : ∃ u, aBuiltin P .min #[t, t'] [.val (.int k x), .val (.int k y)] u ∧ K u := ⟨_, (r_min).2 rfl, hK⟩
theorem s_max {t t' : TypeId} {k : IntKind} {x y : Int} {K : AV → Prop}  (hK : K (.val (.int k (max x y)))) : ∃ u, aBuiltin P .max #[t, t'] [.val (.int k x), .val (.int k y)] u ∧ K u := ⟨_, (r_max).2 rfl, hK⟩
theorem s_index_S {l : List UInt8} {k : IntKind} {i : Int} {K : AV → Prop} (q0 : 0 ≤ i) (q1 : i < l.length) (hK : K (.val (.int .u8 (l.getD i.toNat 0).toNat))) : ∃ u, aIndex .string false 1 (.val (.string ⟨l.toArray⟩)) (.val (.int k i)) u ∧ K u := ⟨_, (r_index_S).2 ⟨⟨q0, q1⟩, rfl⟩, hK⟩
theorem s_slice_S1 {l : List UInt8} {k : IntKind} {a : Int} {K : AV → Prop} (q0 : 0 ≤ a) (q1 : a ≤ l.length) (hK : K (.val (.string ⟨(l.drop a.toNat).toArray⟩))) : ∃ u, aSlice .string 1 (.val (.string ⟨l.toArray⟩)) (some (.val (.int k a))) none none u ∧ K u := ⟨_, (r_slice_S1).2 ⟨⟨q0, q1⟩, rfl⟩, hK⟩
theorem s_slice_S2 {l : List UInt8} {k' : IntKind} {b : Int} {K : AV → Prop} (q0 : 0 ≤ b) (q1 : b ≤ l.length) (hK : K (.val (.string ⟨(l.take b.toNat).toArray⟩))) : ∃ u, aSlice .string 1 (.val (.string ⟨l.toArray⟩)) none (some (.val (.int k' b))) none u ∧ K u := ⟨_, (r_slice_S2).2 ⟨⟨q0, q1⟩, rfl⟩, hK⟩
theorem s_slice1 {sz : Nat} {l : List AV} {m : SM} {k : IntKind} {a : Int} {K : AV → Prop} (q0 : 0 ≤ a) (q1 : a ≤ l.length) (hK : K (.lst sz (l.drop a.toNat) .ro)) : ∃ u, aSlice .slice sz (.lst sz l m) (some (.val (.int k a))) none none u ∧ K u := ⟨_, (r_slice1).2 ⟨⟨q0, q1⟩, rfl⟩, hK⟩
theorem s_slice2 {sz : Nat} {l : List AV} {m : SM} {k' : IntKind} {b : Int} {K : AV → Prop} (q0 : 0 ≤ b) (q1 : b ≤ l.length) (hK : K (.lst sz (l.take b.toNat) .ro)) : ∃ u, aSlice .slice sz (.lst sz l m) none (some (.val (.int k' b))) none u ∧ K u := ⟨_, (r_slice2).2 ⟨⟨q0, q1⟩, rfl⟩, hK⟩
theorem s_slice3 {sz : Nat} {l : List AV} {m : SM} {k k' : IntKind} {b c : Int} {K : AV → Prop} (q0 : 0 ≤ b) (q1 : b ≤ l.length) (q2 : c = b) (hK : K (.lst sz (l.take b.toNat) .full)) : ∃ u, aSlice .slice sz (.lst sz l m) none (some (.val (.int k b))) (some (.val (.int k' c))) u ∧ K u := ⟨_, (r_slice3).2 ⟨⟨q0, q1, q2⟩, rfl⟩, hK⟩
theorem s_ixa {sz : Nat} {l : List AV} {m : SM} {k : IntKind} {i : Int} {K : AV → Prop} (q0 : 0 ≤ i) (q1 : i < l.length) (hK : K (.rptr (l.getD i.toNat .undef).cells)) : ∃ u, aIndexAddr .slice sz (.lst sz l m) (.val (.int k i)) u ∧ K u := ⟨_, (r_ixa).2 ⟨⟨q0, q1⟩, rfl⟩, hK⟩
theorem s_add64 {t : TypeId} {x y : Int} {K : AV → Prop} (h1 : -9223372036854775808 ≤ x + y) (h2 : x + y ≤ 9223372036854775807) (hK : K (.val (.int .i64 (x + y)))) : ∃ u, aBin P .add t (.val (.int .i64 x)) (.val (.int .i64 y)) u ∧ K u := s_add (by rw [wrap_i64 h1 h2]; exact hK)
theorem s_sub64 {t : TypeId} {x y : Int} {K : AV → Prop} (h1 : -9223372036854775808 ≤ x - y) (h2 : x - y ≤ 9223372036854775807) (hK : K (.val (.int .i64 (x - y)))) : ∃ u, aBin P .sub t (.val (.int .i64 x)) (.val (.int .i64 y)) u ∧ K u := s_sub (by rw [wrap_i64 h1 h2]; exact hK)
theorem s_mul64 {t : TypeId} {x y : Int} {K : AV → Prop} (h1 : -9223372036854775808 ≤ x * y) (h2 : x * y ≤ 9223372036854775807) (hK : K (.val (.int .i64 (x * y)))) : ∃ u, aBin P .mul t (.val (.int .i64 x)) (.val (.int .i64 y)) u ∧ K u := s_mul (by rw [wrap_i64 h1 h2]; exact hK)
def kindOf (P : Program) (t : TypeId) : Option IntKind := match P.underlying t with
 | some (.int k) => some k
 | _ => none
theorem kindOf_run {t : TypeId} {k : IntKind} (h : kindOf P t = some k) : P.underlying t = some (.int k) := by
 unfold kindOf at h
 split at h
 ·rename_i k' hk; cases h; exact hk
 ·cases h
theorem s_conv {s d : TypeId} {k k' : IntKind} {x : Int} {K : AV → Prop} (hd : kindOf P d = some k') (hs : kindOf P s = some k) (hK : K (.val (.int k' (k'.wrap x)))) : ∃ u, aConvN s d (.val (.int k x)) u P ∧ K u := ⟨_, (r_conv (kindOf_run hd) (kindOf_run hs)).2 rfl, hK⟩
theorem s_slmf {α : Type} {sz : Nat} {f : α → AV} {l : List α} {m : SM} {k k' : IntKind} {K : AV → Prop} (hK : K (.lst sz (l.map f) .full)) : ∃ u, aSlice .slice sz (.lst sz (l.map f) m) none (some (.val (.int k l.length))) (some (.val (.int k' l.length))) u ∧ K u :=
 s_slice3 (by omega) (by simp) rfl (by rw [List.take_of_length_le (by simp)]; exact hK)
theorem s_slm1 {α : Type} {sz : Nat} {f : α → AV} {l : List α} {m : SM} {k : IntKind} {a : Int} {K : AV → Prop} (h0 : 0 ≤ a) (h1 : a ≤ l.length) (hK : K (.lst sz ((l.drop a.toNat).map f) .ro)) : ∃ u, aSlice .slice sz (.lst sz (l.map f) m) (some (.val (.int k a))) none none u ∧ K u :=
 s_slice1 h0 (by simpa using h1) (by simpa using hK)
theorem s_slm2 {α : Type} {sz : Nat} {f : α → AV} {l : List α} {m : SM} {k : IntKind} {b : Int} {K : AV → Prop} (h0 : 0 ≤ b) (h1 : b ≤ l.length) (hK : K (.lst sz ((l.take b.toNat).map f) .ro)) : ∃ u, aSlice .slice sz (.lst sz (l.map f) m) none (some (.val (.int k b))) none u ∧ K u :=
 s_slice2 h0 (by simpa using h1) (by simpa using hK)
theorem s_gT {φ : Prop} [Decidable φ] {X K : AV → Prop} (h : φ) (hK : ∃ u, X u ∧ K u) : ∃ u, aGuard (.val (.bool (decide φ))) true X u ∧ K u := by
 rw [decide_eq_true h]; exact ex_guard.2 ⟨fun _ => hK, fun h => by cases h⟩
theorem s_gF {φ : Prop} [Decidable φ] {X K : AV → Prop} (h : ¬ φ) (hK : K (.val Go.undef)) : ∃ u, aGuard (.val (.bool (decide φ))) true X u ∧ K u := by
 rw [decide_eq_false h]; exact ex_guard.2 ⟨fun h => by (cases h), fun _ => hK⟩
theorem s_gS {φ : Prop} [Decidable φ] {X K : AV → Prop} (h1 : φ → ∃ u, X u ∧ K u) (h2 : ¬ φ → K (.val Go.undef)) : ∃ u, aGuard (.val (.bool (decide φ))) true X u ∧ K u := by
 by_cases h : φ
 ·exact s_gT h (h1 h)
 ·exact s_gF h (h2 h)
theorem s_gT' {φ : Prop} [Decidable φ] {X K : AV → Prop} (h : ¬ φ) (hK : ∃ u, X u ∧ K u) : ∃ u, aGuard (.val (.bool (decide φ))) false X u ∧ K u := by
 rw [decide_eq_false h]; exact ex_guard.2 ⟨fun _ => hK, fun h => by cases h⟩
theorem s_gF' {φ : Prop} [Decidable φ] {X K : AV → Prop} (h : φ) (hK : K (.val Go.undef)) : ∃ u, aGuard (.val (.bool (decide φ))) false X u ∧ K u := by
 rw [decide_eq_true h]; exact ex_guard.2 ⟨fun h => by (cases h), fun _ => hK⟩
theorem s_gS' {φ : Prop} [Decidable φ] {X K : AV → Prop} (h1 : ¬ φ → ∃ u, X u ∧ K u) (h2 : φ → K (.val Go.undef)) : ∃ u, aGuard (.val (.bool (decide φ))) false X u ∧ K u := by
 by_cases h : φ
 ·exact s_gF' h (h2 h)
 ·exact s_gT' h (h1 h)
theorem s_gbS {b : Bool} {X K : AV → Prop} (h1 : b = true → ∃ u, X u ∧ K u) (h2 : b = false → K (.val Go.undef)) : ∃ u, aGuard (.val (.bool b)) true X u ∧ K u := ex_guard.2 ⟨h1, h2⟩
theorem s_gbS' {b : Bool} {X K : AV → Prop} (h1 : b = false → ∃ u, X u ∧ K u) (h2 : b = true → K (.val Go.undef)) : ∃ u, aGuard (.val (.bool b)) false X u ∧ K u := ex_guard.2 ⟨h1, h2⟩
theorem s_gbT {b : Bool} {X K : AV → Prop} (h : b = true) (hK : ∃ u, X u ∧ K u) : ∃ u, aGuard (.val (.bool b)) true X u ∧ K u := ex_guard.2 ⟨fun _ => hK, fun h' => by rw [h] at h'; cases h'⟩
theorem s_gbF {b : Bool} {X K : AV → Prop} (h : b = false) (hK : K (.val Go.undef)) : ∃ u, aGuard (.val (.bool b)) true X u ∧ K u := ex_guard.2 ⟨fun h' => by (rw [h] at h'; cases h'), fun _ => hK⟩
theorem s_gbT' {b : Bool} {X K : AV → Prop} (h : b = false) (hK : ∃ u, X u ∧ K u) : ∃ u, aGuard (.val (.bool b)) false X u ∧ K u := ex_guard.2 ⟨fun _ => hK, fun h' => by rw [h] at h'; cases h'⟩
theorem s_gbF' {b : Bool} {X K : AV → Prop} (h : b = true) (hK : K (.val Go.undef)) : ∃ u, aGuard (.val (.bool b)) false X u ∧ K u := ex_guard.2 ⟨fun h' => by (rw [h] at h'; cases h'), fun _ => hK⟩
theorem s_pT {φ : Prop} [Decidable φ] {x y : AV} {K : AV → Prop} (h : φ) (hK : K x) : ∃ u, aPick (.val (.bool (decide φ))) x y u ∧ K u := by simp only [decide_eq_true h, aPick, if_true, exists_eq_left]; exact hK
theorem s_pF {φ : Prop} [Decidable φ] {x y : AV} {K : AV → Prop} (h : ¬ φ) (hK : K y) : ∃ u, aPick (.val (.bool (decide φ))) x y u ∧ K u := by simp only [decide_eq_false h, aPick, exists_eq_left]; exact hK
theorem s_pbT {b : Bool} {x y : AV} {K : AV → Prop} (h : b = true) (hK : K x) : ∃ u, aPick (.val (.bool b)) x y u ∧ K u := by subst h; simp only [aPick, if_true, exists_eq_left]; exact hK
theorem s_pbF {b : Bool} {x y : AV} {K : AV → Prop} (h : b = false) (hK : K y) : ∃ u, aPick (.val (.bool b)) x y u ∧ K u := by subst h; simp only [aPick, exists_eq_left]; exact hK
theorem s_pS {φ : Prop} [Decidable φ] {x y : AV} {K : AV → Prop} (h1 : φ → K x) (h2 : ¬ φ → K y) : ∃ u, aPick (.val (.bool (decide φ))) x y u ∧ K u := by
 by_cases h : φ
 ·exact s_pT h (h1 h)
 ·exact s_pF h (h2 h)
theorem s_pb {b : Bool} {x y : AV} {K : AV → Prop} (h1 : b = true → K x) (h2 : b = false → K y) : ∃ u, aPick (.val (.bool b)) x y u ∧ K u := by
 cases b
 ·exact s_pbF rfl (h2 rfl)
 ·exact s_pbT rfl (h1 rfl)
theorem s_cT {φ : Prop} [Decidable φ] {x y : Prop} (h : φ) (hx : x) : aCond (.val (.bool (decide φ))) x y := r_cond.2 ⟨fun _ => hx, fun h' => absurd h (of_decide_eq_false h')⟩
theorem s_cF {φ : Prop} [Decidable φ] {x y : Prop} (h : ¬ φ) (hy : y) : aCond (.val (.bool (decide φ))) x y := r_cond.2 ⟨fun h' => absurd (of_decide_eq_true h') h, fun _ => hy⟩
theorem s_cS {φ : Prop} [Decidable φ] {x y : Prop} (h1 : φ → x) (h2 : ¬ φ → y) : aCond (.val (.bool (decide φ))) x y := r_cond.2 ⟨fun h => h1 (of_decide_eq_true h), fun h => h2 (of_decide_eq_false h)⟩
theorem s_cbT {b : Bool} {x y : Prop} (h : b = true) (hx : x) : aCond (.val (.bool b)) x y := r_cond.2 ⟨fun _ => hx, fun h' => by rw [h] at h'; cases h'⟩
theorem s_cbF {b : Bool} {x y : Prop} (h : b = false) (hy : y) : aCond (.val (.bool b)) x y := r_cond.2 ⟨fun h' => by (rw [h] at h'; cases h'), fun _ => hy⟩
theorem s_cb {b : Bool} {x y : Prop} (h1 : b = true → x) (h2 : b = false → y) : aCond (.val (.bool b)) x y := r_cond.2 ⟨h1, h2⟩
theorem s_notd {φ : Prop} [Decidable φ] {K : AV → Prop} (hK : K (.val (.bool (decide (¬ φ))))) : ∃ u, aUn P .not (.val (.bool (decide φ))) u ∧ K u := s_not (by rw [← decide_not]; exact hK)
theorem s_ext0 {a : AV} {us : List AV} {K : AV → Prop} (hK : K a) : ∃ u, aExt (.tuple (a :: us)) 0 u ∧ K u := ⟨a, rfl, hK⟩
theorem s_ext1 {a b : AV} {us : List AV} {K : AV → Prop} (hK : K b) : ∃ u, aExt (.tuple (a :: b :: us)) 1 u ∧ K u := ⟨b, rfl, hK⟩
theorem s_ext2 {a b c : AV} {us : List AV} {K : AV → Prop} (hK : K c) : ∃ u, aExt (.tuple (a :: b :: c :: us)) 2 u ∧ K u := ⟨c, rfl, hK⟩
theorem s_ixm {α : Type} [Inhabited α] {sz : Nat} {f : α → AV} {l : List α} {m : SM} {k : IntKind} {i : Int} {K : AV → Prop} (h0 : 0 ≤ i) (h1 : i < l.length) (hK : K (.rptr (f (l.getD i.toNat default)).cells)) : ∃ u, aIndexAddr .slice sz (.lst sz (l.map f) m) (.val (.int k i)) u ∧ K u :=
 s_ixa h0 (by simpa using h1) (by rw [getD_map default (by omega)]; exact hK)
theorem s_lenm {α : Type} {t : TypeId} (h : isSl P t = true) {z : Nat} {f : α → AV} {l : List α} {m : SM} {K : AV → Prop} (hK : K (.val (.int .i64 l.length))) : ∃ u, aBuiltin P .len #[t] [.lst z (l.map f) m] u ∧ K u := s_len_lst h (by simpa using hK)

end Go.Ab

namespace Go.Ab
variable {P : Program}

theorem splice_mid {pre zs new : List AV} {off : Nat} (h : pre.length = off) (hl : new.length ≤ zs.length) : splice (pre ++ zs) off new = (pre ++ new) ++ zs.drop new.length := by
 unfold splice
 rw [List.take_append_of_le_length (by omega), List.take_of_length_le (by omega), List.drop_append, List.drop_of_length_le (by omega)]
 simp [h, List.append_assoc]
theorem fillA_row (sz : Nat) : ∀ (ps : List AV) (j : Nat) (pre zs : List AV), (∀ p ∈ ps, (p : AV).cells.length = sz) → pre.length = j * sz → zs.length = ps.length * sz →
  fillA (fun i => some (i * sz, sz)) (pre ++ zs) ((ps.zipIdx j).map fun p => (p.2, p.1)) = some (pre ++ flat ps)
 | [], j, pre, zs, hp, hj, hz => by
  simp at hz
  subst hz
  simp [fillA, flat]
 | p :: ps, j, pre, zs, hp, hj, hz => by
  have h1 : p.cells.length = sz := hp p (by simp)
  simp only [List.length_cons, Nat.add_mul, Nat.one_mul] at hz
  have hle : j * sz + sz ≤ (pre ++ zs).length := by rw [List.length_append]; omega
  simp only [List.zipIdx_cons, List.map_cons, fillA, h1, hle, and_self, if_true]
  rw [splice_mid hj (by omega)]
  have := fillA_row sz ps (j + 1) (pre ++ p.cells) (zs.drop p.cells.length) (fun q hq => hp q (by simp [hq])) (by rw [List.length_append, hj, h1, Nat.add_mul, Nat.one_mul]) (by rw [List.length_drop]; omega)
  rw [this]
  simp [flat, List.append_assoc]
theorem s_lit {z : AV} {sz n : Nat} {parts : List (Nat × AV)} {K : AV → Prop} (ps : List AV) (hz : z.cells.length = sz) (hn : ps.length = n) (he : parts = (ps.zipIdx 0).map fun p => (p.2, p.1)) (hp : ∀ p ∈ ps, (p : AV).cells.length = sz) (hone : ∀ p ∈ ps, ∀ c ∈ (p : AV).cells, c.one = true)
  (hK : K (.lst sz ps .full)) : ∃ u, aSlLit z sz n parts u ∧ K u := by
 refine ⟨.lst sz ps .full, ⟨?_, ⟨ps, hn, hp, ?_, rfl⟩, ?_⟩, hK⟩
 ·intro p hp' c hc
  rw [he] at hp'
  simp only [List.mem_map] at hp'
  obtain ⟨q, hq, rfl⟩ := hp'
  have := List.mem_zipIdx hq
  refine hone q.1 ?_ c hc
  rw [this.2.2]
  exact List.getElem_mem _
 ·rw [he]
  have := fillA_row sz ps 0 [] ((List.replicate n z.cells).flatten) hp (by simp) (by simp [hz, hn])
  simpa using this
 ·intro l hl c hc
  cases hl
  unfold flat at hc
  obtain ⟨p, hp', hc⟩ := List.mem_flatMap.1 hc
  exact hone p hp' c hc

def Told {α : Type} (f : α → AV) (sz : Nat) : Prop := ∀ a, (f a).cells.length = sz ∧ ∀ c ∈ (f a).cells, c.one = true
theorem told_byt : Told byt 1 := fun a => ⟨rfl, fun c hc => by simp [byt, AV.cells] at hc; subst hc; rfl⟩
theorem told_len {α : Type} {f : α → AV} {sz : Nat} (h : Told f sz) (l : List α) : ∀ c ∈ l.map f, (c : AV).cells.length = sz := fun c hc => by
 obtain ⟨a, _, rfl⟩ := List.mem_map.1 hc
 exact (h a).1
def Src {α : Type} (f : α → AV) (sz : Nat) (σ : Store) (x : AV) (ys : List α) : Prop := srcA sz σ x (ys.map f) ∧ (sz = 1 → ∀ c ∈ ys.map f, (c : AV).cells.length = 1)

theorem src_lst {α : Type} {f : α → AV} {sz : Nat} (hf : Told f sz) {ys : List α} {m : SM} {σ : Store} : Src f sz σ (.lst sz (ys.map f) m) ys :=
 ⟨⟨rfl, rfl⟩, fun h c hc => by rw [told_len hf ys c hc, h]⟩
theorem src_S {ys : List UInt8} {σ : Store} : Src byt 1 σ (.val (.string ⟨ys.toArray⟩)) ys :=
 ⟨⟨rfl, by simp⟩, fun h c hc => by rw [told_len told_byt ys c hc]⟩
theorem src_own {α : Type} {f : α → AV} {sz : Nat} (hf : Told f sz) {ys : List α} {v : Value} {n : Nat} {E : TypeId} {fl : Nat} {σ : Store} (hm : Ent.row v E sz (ys.map f) fl ∈ σ) : Src f sz σ (.own v n) ys :=
 ⟨⟨E, _, fl, hm, rfl⟩, fun h c hc => by rw [told_len hf ys c hc, h]⟩
theorem src_nil {sz : Nat} {σ : Store} {α : Type} {f : α → AV} : Src f sz σ (.val (.slice none 0 0)) ([] : List α) := ⟨rfl, fun _ => by simp⟩

theorem s_app_full {α : Type} {f : α → AV} {E : TypeId} {sz by_ : Nat} {l ys : List α} {x : AV} {σ : Store} {k : AV → Store → Prop} (hs : Src f sz σ x ys) (hy : ys ≠ []) (hb : (l.length + ys.length) * by_ ≤ 140737488355328) (hm : l.length + ys.length ≤ 9223372036854775807)
  (hk : ∀ v, k (.own v (l ++ ys).length) (.row v E sz ((l ++ ys).map f) 0 :: σ)) : aAppend E sz by_ (.lst sz (l.map f) .full) x σ k := by
 refine ⟨ys.map f, hs.1, hs.2, .inr ?_⟩
 refine ⟨rfl, by simpa using hy, by simpa using hb, by simp [maxLen]; omega, fun v => ?_⟩
 have := hk v
 simpa using this
theorem s_app_own {α : Type} {f : α → AV} {E : TypeId} {sz by_ : Nat} {l ys : List α} {x : AV} {v : Value} {n fl : Nat} {σ1 σ2 : Store} {k : AV → Store → Prop} (hs : Src f sz (σ1 ++ .row v E sz (l.map f) fl :: σ2) x ys) (hb : (l.length + ys.length) * by_ ≤ 140737488355328) (hm : l.length + ys.length ≤ 9223372036854775807)
  (hk : ∀ v, k (.own v (l ++ ys).length) (σ1 ++ .row v E sz ((l ++ ys).map f) fl :: σ2)) : aAppend E sz by_ (.own v n) x (σ1 ++ .row v E sz (l.map f) fl :: σ2) k := by
 refine ⟨ys.map f, hs.1, hs.2, .inr ?_⟩
 refine ⟨σ1, σ2, l.map f, fl, rfl, by simpa using hb, by simp [maxLen]; omega, fun v => ?_⟩
 have := hk v
 simpa using this
theorem s_keep {k : AV → Store → Prop} {u : AV} {σ : Store} (h : k u σ) : subK k u σ := ⟨u, σ, Sub.refl _ _, h⟩

theorem g_or {t : TypeId} {k : IntKind} {x y : Int} {K : AV → Prop} (hk : k.signed = false) (hx : 0 ≤ x) (hx' : x < 2 ^ k.bits) (hy : 0 ≤ y) (hy' : y < 2 ^ k.bits) (hK : K (.val (.int k ((x.toNat ||| y.toNat : Nat) : Int)))) : ∃ u, aBin P .or t (.val (.int k x)) (.val (.int k y)) u ∧ K u := by
 refine ⟨_, ?_, hK⟩
 refine (aBin_val fun _ _ w => ?_).2 rfl
 obtain ⟨a, rfl⟩ := Int.eq_ofNat_of_zero_le hx
 obtain ⟨b, rfl⟩ := Int.eq_ofNat_of_zero_le hy
 have ha : a < 2 ^ k.bits := by exact_mod_cast hx'
 have hb : b < 2 ^ k.bits := by exact_mod_cast hy'
 have e : (a ||| b) < 2 ^ k.bits := Nat.or_lt_two_pow ha hb
 have hw : k.wrap ((a ||| b : Nat) : Int) = ((a ||| b : Nat) : Int) := by
  simp only [IntKind.wrap, hk, Bool.false_and]
  rw [if_neg (by simp)]
  exact_mod_cast Nat.mod_eq_of_lt e
 simp [eqGuard, binOp, Op.intBits, BitVec.ofInt_natCast, Nat.mod_eq_of_lt ha, Nat.mod_eq_of_lt hb, hw]
theorem g_and {t : TypeId} {k : IntKind} {x y : Int} {K : AV → Prop} (hk : k.signed = false) (hx : 0 ≤ x) (hx' : x < 2 ^ k.bits) (hy : 0 ≤ y) (hy' : y < 2 ^ k.bits) (hK : K (.val (.int k ((x.toNat &&& y.toNat : Nat) : Int)))) : ∃ u, aBin P .and t (.val (.int k x)) (.val (.int k y)) u ∧ K u := by
 refine ⟨_, ?_, hK⟩
 refine (aBin_val fun _ _ w => ?_).2 rfl
 obtain ⟨a, rfl⟩ := Int.eq_ofNat_of_zero_le hx
 obtain ⟨b, rfl⟩ := Int.eq_ofNat_of_zero_le hy
 have ha : a < 2 ^ k.bits := by exact_mod_cast hx'
 have hb : b < 2 ^ k.bits := by exact_mod_cast hy'
 have e : (a &&& b) < 2 ^ k.bits := Nat.and_lt_two_pow a hb
 have hw : k.wrap ((a &&& b : Nat) : Int) = ((a &&& b : Nat) : Int) := by
  simp only [IntKind.wrap, hk, Bool.false_and]
  rw [if_neg (by simp)]
  exact_mod_cast Nat.mod_eq_of_lt e
 simp [eqGuard, binOp, Op.intBits, BitVec.ofInt_natCast, Nat.mod_eq_of_lt ha, Nat.mod_eq_of_lt hb, hw]
theorem shr_nat (n c : Nat) : (n : Int).fdiv (2 ^ c) = ((n / 2 ^ c : Nat) : Int) := by
 rw [Int.fdiv_eq_ediv_of_nonneg _ (Int.pow_nonneg (by decide))]
 rw [Int.natCast_ediv, Int.natCast_pow]
 rfl

theorem s_shrz {t : TypeId} {k k' : IntKind} {x y : Int} {K : AV → Prop} (hx : 0 ≤ x) (h0 : 0 ≤ y) (h1 : y.toNat < k.bits) (hK : ∀ z : Int, z = x / 2 ^ y.toNat → 0 ≤ z → z ≤ x → K (.val (.int k z))) : ∃ u, aBin P .shr t (.val (.int k x)) (.val (.int k' y)) u ∧ K u := by
 refine s_shr h0 ?_
 rw [Nat.min_eq_left (Nat.le_of_lt h1)]
 have hp : (0 : Int) < 2 ^ y.toNat := Int.pow_pos (by decide)
 have e : x.fdiv (2 ^ y.toNat) = x / 2 ^ y.toNat := Int.fdiv_eq_ediv_of_nonneg _ (Int.le_of_lt hp)
 rw [e]
 refine hK _ rfl (Int.ediv_nonneg hx (Int.le_of_lt hp)) (Int.ediv_le_self _ hx)
theorem s_remz {t : TypeId} {k : IntKind} {x y : Int} {K : AV → Prop} (hx : 0 ≤ x) (hy : 0 < y) (hK : K (.val (.int k (x % y)))) : ∃ u, aBin P .rem t (.val (.int k x)) (.val (.int k y)) u ∧ K u := s_rem (by omega) (by rw [Int.tmod_eq_emod_of_nonneg hx]; exact hK)
theorem s_quo_u64 {t : TypeId} {x y : Int} {K : AV → Prop} (hx : 0 ≤ x) (hx' : x < 18446744073709551616) (hy : 0 < y) (hK : K (.val (.int .u64 (x / y)))) : ∃ u, aBin P .quo t (.val (.int .u64 x)) (.val (.int .u64 y)) u ∧ K u := s_quo (by omega) (by
 rw [Int.tdiv_eq_ediv_of_nonneg hx, wrap_u64 (Int.ediv_nonneg hx (by omega)) (by have := Int.ediv_le_self y hx; omega)]; exact hK)
theorem s_quo_i64 {t : TypeId} {x y : Int} {K : AV → Prop} (hx : 0 ≤ x) (hx' : x ≤ 9223372036854775807) (hy : 0 < y) (hK : K (.val (.int .i64 (x / y)))) : ∃ u, aBin P .quo t (.val (.int .i64 x)) (.val (.int .i64 y)) u ∧ K u := s_quo (by omega) (by
 rw [Int.tdiv_eq_ediv_of_nonneg hx, wrap_i64 (by have := Int.ediv_nonneg hx (show 0 ≤ y by omega); omega) (by have := Int.ediv_le_self y hx; omega)]; exact hK)
theorem s_convBS {bs : List UInt8} {z : Nat} {m : SM} {K : AV → Prop} (hK : K (.val (.string ⟨bs.toArray⟩))) : ∃ u, aConvBS (.lst z (bs.map byt) m) u ∧ K u := ⟨_, ⟨bs, rfl, rfl⟩, hK⟩
end Go.Ab

namespace Go.Ab
variable {P : Program}

theorem freeze_row {R : RO} {w : World} {σ1 σ2 : Store} {v : Value} {E : TypeId} {sz : Nat} {l : List AV} {fl : Nat} (hs : St R w (σ1 ++ .row v E sz l fl :: σ2)) :
  ∃ R' : RO, R.le R' ∧ St R' w (σ1 ++ σ2) ∧ Ext R w (σ1 ++ .row v E sz l fl :: σ2) R' w (σ1 ++ σ2) ∧ VR R' v (.lst sz l .ro) := by
 have hp := List.pairwise_append.1 hs.apart
 have hp2 := List.pairwise_cons.1 hp.2.1
 let R' : RO := fun a => if v.ownBlock = some a.block ∧ a.off < l.length * sz ∧ a.spot = none then w.cell? a else R a
 have hle : R.le R' := by
  intro a x ha
  show (if _ then _ else _) = _
  split
  ·exact hs.ro a x ha
  ·exact ha
 have hR : ∀ a x, R' a = some x → R a = some x ∨ v.ownBlock = some a.block := by
  intro a x ha
  by_cases h : v.ownBlock = some a.block ∧ a.off < l.length * sz ∧ a.spot = none
  ·exact .inr h.1
  ·have : R' a = R a := if_neg h
   rw [this] at ha
   exact .inl ha
 have hmem : (Ent.row v E sz l fl) ∈ σ1 ++ .row v E sz l fl :: σ2 := by simp
 refine ⟨R', hle, ⟨fun a x ha => ?_, fun e he => ?_, ?_⟩, ⟨hle, rfl, rfl, rfl, Nat.le_refl _, fun _ _ _ => rfl, fun k hk => .inl ?_, fun a x ha => ?_⟩, ?_⟩
 ·by_cases h : v.ownBlock = some a.block ∧ a.off < l.length * sz ∧ a.spot = none
  ·have : R' a = w.cell? a := if_pos h
   rw [← this]; exact ha
  ·have : R' a = R a := if_neg h
   rw [this] at ha
   exact hs.ro a x ha
 ·have hne : ∀ b, e.blk = some b → v.ownBlock ≠ some b := by
   intro b hb hvb
   rcases List.mem_append.1 he with he | he
   ·exact hp.2.2 e he _ (List.mem_cons_self ..) b hb hvb
   ·exact hp2.1 e he b hvb hb
  have he' : e ∈ σ1 ++ .row v E sz l fl :: σ2 := by
   rcases List.mem_append.1 he with he | he
   ·exact List.mem_append.2 (.inl he)
   ·exact List.mem_append.2 (.inr (List.mem_cons_of_mem _ he))
  refine (hs.ents e he').keep hle (fun _ _ => rfl) fun b hb a x ha hab => ?_
  rcases hR a x ha with h | h
  ·exact h
  ·exact absurd (hab ▸ h) (hne b hb)
 ·refine List.pairwise_append.2 ⟨hp.1, hp2.2, fun x hx y hy => hp.2.2 x hx y (List.mem_cons_of_mem _ hy)⟩
 ·rw [blks_append] at hk ⊢
  rcases List.mem_append.1 hk with hk | hk
  ·exact List.mem_append.2 (.inl hk)
  ·obtain ⟨e, he, hb⟩ := mem_blks.1 hk
   exact List.mem_append.2 (.inr (mem_blks.2 ⟨e, List.mem_cons_of_mem _ he, hb⟩))
 ·rcases hR a x ha with h | h
  ·exact .inl h
  ·exact .inr (.inr (mem_blks.2 ⟨_, hmem, h⟩))
 ·obtain ⟨h1, h2, ⟨vs, h3, h4, h5⟩, h6, h7⟩ := hs.ents _ hmem
  obtain ⟨hlen, hrow⟩ := h3
  have hcell : ∀ g n cap, v = .slice (some ⟨g, 0, none⟩) n cap → ∀ (j : Nat) (x : Value), vs[j]? = some x → R' ((⟨g, 0, none⟩ : Addr).add j) = some x := by
   intro g n cap hv j x hj
   have hc := rowM.cells (w := w) (v := v) (show rowM w 0 E sz v l.length vs from ⟨hlen, hrow⟩) (g := g) (by rw [hv]; rfl) j x hj
   have hjl : j < vs.length := (List.getElem?_eq_some_iff.1 hj).1
   have : R' ((⟨g, 0, none⟩ : Addr).add j) = w.cell? ((⟨g, 0, none⟩ : Addr).add j) := if_pos (by
    rw [addr_lit_add, Nat.zero_add]
    refine ⟨by rw [hv]; rfl, ?_, rfl⟩
    show j < _
    rw [← hlen]; exact hjl)
   rw [this]; exact hc
  rcases hrow with ⟨hv, hn⟩ | ⟨g, cap, cur, hv, hb, hg, hcap, hmax, r⟩
  ·have hl : l = [] := List.eq_nil_of_length_eq_zero hn
   subst hl
   rw [hv]
   refine .lst vs rfl h1 h2 h4.1 (h4.mono hle).2 (by simp) (by simp [SMok]) (Nat.zero_le _) h5
  ·rw [hv]
   exact .lst vs rfl h1 h2 h4.1 (h4.mono hle).2 (fun _ => ⟨_, rfl, hcell g _ _ hv⟩) hcap h6 h5

def Frzs (v : Value) (L : AV) : List AV → List AV → Prop
 | [], [] => True
 | u :: us, u' :: us' => (u' = u ∨ (∃ n, u = .own v n) ∧ u' = L) ∧ Frzs v L us us'
 | _, _ => False
theorem Frzs.rel {R R' : RO} (hle : R.le R') {v : Value} {L : AV} (hL : VR R' v L) : ∀ {us us' : List AV} {vs : List Value}, Frzs v L us us' → VRs R vs us → VRs R' vs us'
 | [], [], vs, _, h => h.mono hle
 | u :: us, u' :: us', vs, hf, h => by
  cases vs with
  | nil => have := h.1; simp at this
  | cons x xs =>
   have h1 := h.2 0 u x rfl rfl
   have h2 : VRs R xs us := ⟨by have := h.1; simpa using this, fun j y z hy hz => h.2 (j + 1) y z hy hz⟩
   refine VRs.cons ?_ (Frzs.rel hle hL hf.2 h2)
   rcases hf.1 with rfl | ⟨⟨n, rfl⟩, rfl⟩
   ·exact h1.mono hle
   ·rw [h1.own_inv.1]; exact hL
theorem Sub.freeze {σ1 σ2 : Store} {v : Value} {E : TypeId} {sz : Nat} {l : List AV} {fl : Nat} {args args' : List AV} (h : Frzs v (.lst sz l .ro) args args') : Sub (σ1 ++ .row v E sz l fl :: σ2) args (σ1 ++ σ2) args' := by
 intro R w vs hv hs
 obtain ⟨R', h1, h2, h3, h4⟩ := freeze_row hs
 exact ⟨R', h.rel h1 h4 hv, h2, h3⟩
theorem Sub.freeze0 {σ : Store} {v : Value} {E : TypeId} {sz : Nat} {l : List AV} {fl : Nat} {args args' : List AV} (h : Frzs v (.lst sz l .ro) args args') : Sub (.row v E sz l fl :: σ) args σ args' := Sub.freeze (σ1 := []) h
theorem Sub.vals {σ : Store} {args args' : List AV} (h : SubVs args args') : Sub σ args σ args' := fun R w vs hv hs => ⟨R, h.rel hv, hs, Ext.refl _ _ _⟩
theorem Sub.tuple {σ σ1 : Store} {us us1 : List AV} (h : Sub σ us σ1 us1) : Sub σ [.tuple us] σ1 [.tuple us1] := by
 intro R w vs hv hs
 obtain ⟨v, hv0, hr⟩ := hv.get (j := 0) rfl
 obtain ⟨xs, rfl, hx⟩ := hr.tuple_inv
 obtain ⟨R', h1, h2, h3⟩ := h R w xs hx hs
 refine ⟨R', ?_, h2, h3⟩
 have hl := hv.1
 cases vs with
 | nil => simp at hl
 | cons y ys =>
  cases ys with
  | cons _ _ => simp at hl
  | nil =>
   simp only [List.getElem?_cons_zero, Option.some.injEq] at hv0
   rw [hv0]
   exact VRs.cons (VR.tuple' h1) (VRs.nil R')

theorem ACalls.sub {f : FuncId} {args : List AV} {σ : Store} {Q Q' : AEnd → Store → Prop} (h : ACalls P f args σ Q) (hq : ∀ x σ', Q x σ' → ∃ u u1 σ1, x = .ret u ∧ Sub σ' [u] σ1 [u1] ∧ Q' (.ret u1) σ1) : ACalls P f args σ Q' := by
 refine ⟨h.1, fun R w vs hv hs => (h.2 R w vs hv hs).mono ?_⟩
 rintro e w' ⟨x, R', σ', h1, h2, h3, h4⟩
 obtain ⟨u, u1, σ1, rfl, hsub, hq'⟩ := hq x σ' h2
 cases e with
 | returned v =>
  obtain ⟨R1, g1, g2, g3⟩ := hsub R' w' [v] (VRs.cons h1 (VRs.nil R')) h3
  exact ⟨.ret u1, R1, σ1, g1.2 0 _ _ rfl rfl, hq', g2, h4.trans g3⟩
 | panicked chain => exact h1.elim
 | outgrown => exact h1.elim
end Go.Ab

namespace Go.Ab

structure En where
 key : List UInt8
 val : List UInt8
 del : Bool
 seq : Int
 deriving DecidableEq, Inhabited
def En.cs (e : En) : List AV := [S e.key, S e.val, B e.del, I .i64 e.seq]
def En.av (e : En) : AV := .agg e.cs
theorem told_En : Told En.av 4 := fun e => ⟨rfl, fun c hc => by
 simp only [En.av, AV.cells, En.cs, List.mem_cons, List.not_mem_nil, or_false] at hc
 rcases hc with rfl | rfl | rfl | rfl <;> rfl⟩

variable {P : Program}
def right (e : En) : Bool := decide (e.key ≠ []) && decide ((e.key.length : Int) ≤ 128) && decide ((e.val.length : Int) ≤ 1024) && !(e.del && decide (e.val ≠ [])) && decide (1 ≤ e.seq) && decide (e.seq ≤ 1099511627776)


def put (v : Nat) : List UInt8 := if h : v < 128 then [UInt8.ofNat v] else UInt8.ofNat (v % 128 + 128) :: put (v / 128)
theorem put_small {v : Nat} (h : v < 128) : put v = [UInt8.ofNat v] := by rw [put]; simp [h]
theorem put_more {v : Nat} (h : ¬ v < 128) : put v = UInt8.ofNat (v % 128 + 128) :: put (v / 128) := by rw [put]; simp [h]
theorem or_128 (v : Nat) : (v % 256) ||| 128 = v % 128 + 128 := by
 have : ∀ a : Fin 256, (a.val ||| 128) = a.val % 128 + 128 := by decide +kernel
 have := this ⟨v % 256, Nat.mod_lt _ (by decide)⟩
 simp only at this
 rw [this]
 omega
theorem put_length (v : Nat) : ∀ n, v < 128 ^ n → 0 < n → (put v).length ≤ n := by
 intro n
 induction n generalizing v with
 | zero => intro _ h; omega
 | succ n ih =>
  intro hv _
  by_cases h : v < 128
  ·rw [put_small h]; simp
  ·rw [put_more h]
   have h1 : v / 128 < 128 ^ n := by
    rw [Nat.pow_succ] at hv
    exact Nat.div_lt_of_lt_mul (by rw [Nat.mul_comm]; exact hv)
   have h2 : 0 < n := by
    rcases Nat.eq_zero_or_pos n with e | e
    ·subst e; simp at h1; omega
    ·exact e
   have := ih _ h1 h2
   simp only [List.length_cons]
   omega
theorem put_len64 {v : Nat} (h : v < 18446744073709551616) : (put v).length ≤ 10 := put_length v 10 (Nat.lt_of_lt_of_le h (by decide)) (by decide)

theorem take_succ_d {α : Type} [Inhabited α] {l : List α} {i : Nat} (h : i < l.length) : l.take (i + 1) = l.take i ++ [l.getD i default] := by
 rw [List.take_succ_eq_append_getElem h, List.getD_eq_getElem?_getD, List.getElem?_eq_getElem h]
 rfl
theorem drop_cons {α : Type} [Inhabited α] {l : List α} {i : Nat} (h : i < l.length) : l.drop i = l.getD i default :: l.drop (i + 1) := by
 rw [List.drop_eq_getElem_cons h, List.getD_eq_getElem?_getD, List.getElem?_eq_getElem h]
 rfl
abbrev lt (a b : List UInt8) : Bool := Op.bytesLess a b
def sorted : List En → Bool
 | a :: b :: l => lt a.key b.key && sorted (b :: l)
 | _ => true
def fit (l : List En) : Bool := decide (0 < l.length) && decide (l.length ≤ 64) && sorted l && l.all right
def common : List UInt8 → List UInt8 → Nat
 | a :: aa, b :: bs => if a = b then common aa bs + 1 else 0
 | _, _ => 0
theorem sorted_step {l : List En} {i : Nat} (h : i + 1 < l.length) : sorted (l.drop i) = (lt (l.getD i default).key (l.getD (i + 1) default).key && sorted (l.drop (i + 1))) := by
 rw [drop_cons (show i < l.length by omega), drop_cons h]
 rfl
theorem sorted_end {l : List En} {i : Nat} (h : l.length ≤ i + 1) : sorted (l.drop i) = true := by
 rcases Nat.lt_or_ge i l.length with hi | hi
 ·rw [drop_cons hi, List.drop_of_length_le h]; rfl
 ·rw [List.drop_of_length_le hi]; rfl
theorem lt_irrefl : ∀ a : List UInt8, lt a a = false
 | [] => rfl
 | a :: aa => by
  have := lt_irrefl aa
  simp only [lt, Op.bytesLess] at this ⊢
  simp [this]
def cmpK (a b : List UInt8) : Int := if lt a b = true then -1 else if a = b then 0 else 1
theorem cmpK_neg (a b : List UInt8) : 0 ≤ cmpK a b ↔ lt a b = false := by
 unfold cmpK
 split
 ·rename_i h; simp [h]
 ·split <;> simp_all
def idx (p : En → Bool) : List En → Int
 | [] => -1
 | a :: l => if p a = true then 0 else if idx p l < 0 then -1 else idx p l + 1
theorem idx_any (p : En → Bool) : ∀ l : List En, 0 ≤ idx p l ↔ l.any p = true
 | [] => by simp [idx]
 | a :: l => by
  have := idx_any p l
  simp only [idx, List.any_cons, Bool.or_eq_true]
  split
  ·rename_i h; simp [h]
  ·rename_i h
   have e : (p a = true ∨ l.any p = true) ↔ 0 ≤ idx p l := by rw [this]; simp [h]
   rw [e]
   split
   ·rename_i h2; constructor
    ·intro h3; exact absurd h3 (by decide)
    ·intro h3; omega
   ·constructor <;> intro h3 <;> omega
theorem idx_lt (p : En → Bool) : ∀ l : List En, -1 ≤ idx p l ∧ idx p l < l.length
 | [] => by simp [idx]
 | a :: l => by
  have := idx_lt p l
  simp only [idx, List.length_cons]
  split
  ·omega
  ·split <;> omega

def fixed (v : Nat) : List UInt8 := [UInt8.ofNat (v / 16777216 % 256), UInt8.ofNat (v / 65536 % 256), UInt8.ofNat (v / 256 % 256), UInt8.ofNat (v % 256)]
def encE (n : Nat) (e : En) : List UInt8 := put n ++ (put (e.key.drop n).length ++ e.key.drop n) ++ [if e.del = true then 1 else 0] ++ put e.seq.toNat ++ (if e.del = true then [] else put e.val.length ++ e.val)
def sharedAt (l : List En) (i : Nat) : Nat := if i % 8 = 0 then 0 else common (l.getD (i - 1) default).key (l.getD i default).key
def blk (l : List En) : Nat → List UInt8 × List UInt8
 | 0 => ([], [])
 | i + 1 => ((blk l i).1 ++ encE (sharedAt l i) (l.getD i default), (blk l i).2 ++ if i % 8 = 0 then fixed (blk l i).1.length else [])
theorem fit_right {l : List En} (h : fit l = true) : l.length ≤ 64 ∧ 0 < l.length ∧ sorted l = true ∧ ∀ i, i < l.length → right (l.getD i default) = true := by
 simp only [fit, Bool.and_eq_true, decide_eq_true_eq, List.all_eq_true] at h
 obtain ⟨⟨⟨h1, h2⟩, h3⟩, h4⟩ := h
 refine ⟨h2, h1, h3, fun i hi => h4 _ ?_⟩
 rw [List.getD_eq_getElem?_getD, List.getElem?_eq_getElem hi]
 exact List.getElem_mem _
theorem right_bounds {e : En} (h : right e = true) : e.key ≠ [] ∧ e.key.length ≤ 128 ∧ e.val.length ≤ 1024 ∧ 1 ≤ e.seq ∧ e.seq ≤ 1099511627776 ∧ (e.del = true → e.val = []) := by
 simp only [right, Bool.and_eq_true, decide_eq_true_eq, Bool.not_eq_true', Bool.and_eq_false_iff, decide_eq_false_iff_not] at h
 obtain ⟨⟨⟨⟨⟨h1, h2⟩, h3⟩, h4⟩, h5⟩, h6⟩ := h
 refine ⟨h1, by omega, by omega, h5, h6, fun hd => ?_⟩
 rcases h4 with h4 | h4
 ·rw [hd] at h4; cases h4
 ·exact Classical.not_not.1 h4
end Go.Ab

namespace Go.Ab
variable {P : Program}

def isBoolT (P : Program) (t : TypeId) : Bool := match P.underlying t with
 | some .bool => true
 | _ => false
def isIntT (P : Program) (t : TypeId) : Bool := match P.underlying t with
 | some (.int _) => true
 | _ => false
def enFields (P : Program) (l : List Field) : Bool := match l with
 | [a, b, c, d] => a.name != "_" && b.name != "_" && c.name != "_" && d.name != "_" && Nat.beq a.offset 0 && Nat.beq b.offset 1 && Nat.beq c.offset 2 && Nat.beq d.offset 3 && isString P a.type && isString P b.type && isBoolT P c.type && isIntT P d.type
 | _ => false
def enType (P : Program) (t : TypeId) : Bool := (match P.underlying t with
 | some (.struct fs) => enFields P fs.toList
 | _ => false) && !P.stoodInHeld t && !P.eqGuardType P.depth t
theorem isBoolT_run {t : TypeId} (h : isBoolT P t = true) : P.underlying t = some .bool := by
 unfold isBoolT at h; split at h
 ·assumption
 ·cases h
theorem isIntT_run {t : TypeId} (h : isIntT P t = true) : ∃ k, P.underlying t = some (.int k) := by
 unfold isIntT at h; split at h
 ·rename_i k hk; exact ⟨k, hk⟩
 ·cases h
theorem isAgg_plain {t : TypeId} {d : TypeDesc} (h : P.underlying t = some d) (hd : (match d with | .struct _ | .array _ _ => true | _ => false) = false) (w : World) : (isAgg t).run P w = .ok false w := by
 refine run_isAgg ?_ w
 unfold isAggB
 rw [h]
 cases d <;> first | rfl | cases hd
theorem part_plain {t : TypeId} {d : TypeDesc} (h : P.underlying t = some d) (hd : (match d with | .struct _ | .array _ _ => true | _ => false) = false) {cs : Array Value} {off : Nat} {v : Value} (hv : cs[off]? = some v) (w : World) : (part t cs off).run P w = .ok v w := by
 unfold part
 simp only [Sem.run_bind, isAgg_plain h hd, Result.andThen_ok, hv]
 rfl
theorem enType_run' {t : TypeId} (h : enType P t = true) (k1 v1 k2 v2 : List UInt8) (d1 d2 : Bool) (s1 s2 : Int) (w : World) {X Y : Array Value} (hX : X = #[.string ⟨k1.toArray⟩, .string ⟨v1.toArray⟩, .bool d1, .int .i64 s1]) (hY : Y = #[.string ⟨k2.toArray⟩, .string ⟨v2.toArray⟩, .bool d2, .int .i64 s2]) :
  (Op.equalIn 10000 t (.agg X) (.agg Y)).run P w = .ok (decide (k1 = k2) && decide (v1 = v2) && decide (d1 = d2) && decide (s1 = s2)) w := by
 simp only [enType, Bool.and_eq_true, Bool.not_eq_true'] at h
 obtain ⟨⟨h1, h2⟩, h3⟩ := h
 split at h1
 ·rename_i fs hfs
  have hf : P.fieldsOf t = fs := by simp [Program.fieldsOf, hfs]
  rw [run_equalIn_struct w 9999 t _ _ (by rw [hf]; exact hfs) h2, hf]
  unfold enFields at h1
  split at h1
  ·rename_i a b c d hl
   simp only [Bool.and_eq_true, bne_iff_ne] at h1
   obtain ⟨⟨⟨⟨⟨⟨⟨⟨⟨⟨⟨n1, n2⟩, n3⟩, n4⟩, o1⟩, o2⟩, o3⟩, o4⟩, t1⟩, t2⟩, t3⟩, t4⟩ := h1
   have o1 := Nat.eq_of_beq_eq_true o1
   have o2 := Nat.eq_of_beq_eq_true o2
   have o3 := Nat.eq_of_beq_eq_true o3
   have o4 := Nat.eq_of_beq_eq_true o4
   have u1 := isString_run t1
   have u2 := isString_run t2
   have u3 := isBoolT_run t3
   obtain ⟨k, u4⟩ := isIntT_run t4
   rw [hl]
   have q1 := run_equalIn_string (P := P) w 9998 a.type ⟨k1.toArray⟩ ⟨k2.toArray⟩ u1
   have q2 := run_equalIn_string (P := P) w 9998 b.type ⟨v1.toArray⟩ ⟨v2.toArray⟩ u2
   have q3 := run_equalIn_bool' (P := P) w 9998 c.type d1 d2 u3
   have q4 := run_equalIn_int (P := P) w 9998 d.type .i64 k s1 s2 u4
   have pe1 : (part a.type X 0).run P w = .ok (.string ⟨k1.toArray⟩) w := part_plain u1 rfl (by rw [hX]; rfl) w
   have pf1 : (part a.type Y 0).run P w = .ok (.string ⟨k2.toArray⟩) w := part_plain u1 rfl (by rw [hY]; rfl) w
   have pe2 : (part b.type X 1).run P w = .ok (.string ⟨v1.toArray⟩) w := part_plain u2 rfl (by rw [hX]; rfl) w
   have pf2 : (part b.type Y 1).run P w = .ok (.string ⟨v2.toArray⟩) w := part_plain u2 rfl (by rw [hY]; rfl) w
   have pe3 : (part c.type X 2).run P w = .ok (.bool d1) w := part_plain u3 rfl (by rw [hX]; rfl) w
   have pf3 : (part c.type Y 2).run P w = .ok (.bool d2) w := part_plain u3 rfl (by rw [hY]; rfl) w
   have pe4 : (part d.type X 3).run P w = .ok (.int .i64 s1) w := part_plain u4 rfl (by rw [hX]; rfl) w
   have pf4 : (part d.type Y 3).run P w = .ok (.int .i64 s2) w := part_plain u4 rfl (by rw [hY]; rfl) w
   simp only [ByteArray.toList_mk, Nat.reduceAdd] at q1 q2 q3 q4
   simp only [Op.eqFields, n1, n2, n3, n4, o1, o2, o3, o4, ne_eq, not_false_eq_true, if_true, Sem.run_bind, pe1, pf1, pe2, pf2, pe3, pf3, pe4, pf4, q1, q2, q3, q4, Result.andThen_ok]
   clear hX hY
   by_cases h1 : k1 = k2
   ·subst h1
    by_cases h2 : v1 = v2
    ·subst h2
     by_cases h3 : d1 = d2
     ·subst h3
      by_cases h4 : s1 = s2
      ·subst h4; simp [pe2, pf2, pe3, pf3, pe4, pf4, q2, q3, q4]
      ·simp [pe2, pf2, pe3, pf3, pe4, pf4, q2, q3, q4, h4]
     ·simp [pe2, pf2, pe3, pf3, pe4, pf4, q2, q3, q4, h3]
    ·simp [pe2, pf2, pe3, pf3, pe4, pf4, q2, q3, q4, h2]
   ·simp [h1]
  ·cases h1
 ·cases h1
theorem enType_run {t : TypeId} (h : enType P t = true) (e f : En) (w : World) : (Op.equalIn 10000 t (.agg #[.string ⟨e.key.toArray⟩, .string ⟨e.val.toArray⟩, .bool e.del, .int .i64 e.seq]) (.agg #[.string ⟨f.key.toArray⟩, .string ⟨f.val.toArray⟩, .bool f.del, .int .i64 f.seq])).run P w = .ok (decide (e = f)) w := by
 rw [enType_run' h e.key e.val f.key f.val e.del f.del e.seq f.seq w rfl rfl]
 congr 1
 cases e; cases f
 simp only [En.mk.injEq]
 rw [Bool.eq_iff_iff]
 simp [and_assoc]
theorem En.plain (e : En) : plainV e.av = some (.agg #[.string ⟨e.key.toArray⟩, .string ⟨e.val.toArray⟩, .bool e.del, .int .i64 e.seq]) := rfl
theorem s_neqEn {t : TypeId} {e f : En} {K : AV → Prop} (h : enType P t = true) (hK : K (.val (.bool (decide (e ≠ f))))) : ∃ u, aBin P .neq t e.av f.av u ∧ K u := by
 refine ⟨_, (aBin_plain e.plain f.plain fun xo yo w => ?_).2 rfl, hK⟩
 have hg : P.eqGuardType P.depth t = false := by
  simp only [enType, Bool.and_eq_true, Bool.not_eq_true'] at h
  exact h.2
 simp only [Sem.run_bind, run_eqGuard_agg w .neq t xo yo _ _ hg, Result.andThen_ok, run_neq_struct, enType_run h]
 congr 2
 by_cases he : e = f <;> simp [he]
end Go.Ab

namespace Go.Ab
variable {P : Program}

def En.zero : En := ⟨[], [], false, 0⟩
theorem splice_all {cs new : List AV} (h : new.length = cs.length) : splice cs 0 new = new := by
 unfold splice
 simp [h]
def RetL {α : Type} (f : α → AV) (sz : Nat) (l : List α) (τ : Store) : AEnd → Store → Prop := fun x σ' => ∃ m, x = .ret (.lst sz (l.map f) m) ∧ σ' = τ
def RetG {α : Type} (f : α → AV) (E : TypeId) (sz : Nat) (l : List α) (τ : Store) : AEnd → Store → Prop := fun x σ' => (x = .ret (.val (.slice none 0 0)) ∧ l = [] ∧ σ' = τ) ∨ ∃ v n, x = .ret (.own v n) ∧ σ' = .row v E sz (l.map f) 0 :: τ
theorem RetG.lst {α : Type} {f : α → AV} {E : TypeId} {sz : Nat} {l : List α} {τ : Store} (hz : 0 < sz) {g : FuncId} {args : List AV} (h : ACalls P g args τ (RetG f E sz l τ)) : ACalls P g args τ (RetL f sz l τ) := by
 refine h.sub fun x σ' hx => ?_
 rcases hx with ⟨rfl, rfl, rfl⟩ | ⟨v, n, rfl, rfl⟩
 ·exact ⟨_, .lst sz [] .nil, _, rfl, Sub.vals ⟨SubV.nil sz hz, trivial⟩, .nil, rfl, rfl⟩
 ·exact ⟨_, .lst sz (l.map f) .ro, τ, rfl, Sub.freeze0 ⟨.inr ⟨⟨_, rfl⟩, rfl⟩, trivial⟩, .ro, rfl, rfl⟩
end Go.Ab

namespace Go.Ab
variable {P : Program}

def Gr {α : Type} (f : α → AV) (E : TypeId) (sz : Nat) (b : AV) (L : List α) (σ : Store) : Prop := (b = .val (.slice none 0 0) ∧ L = [] ∧ σ = []) ∨ ∃ v, b = .own v L.length ∧ σ = [.row v E sz (L.map f) 0]
theorem Gr.nil {α : Type} {f : α → AV} {E : TypeId} {sz : Nat} : Gr f E sz (.val (.slice none 0 0)) ([] : List α) [] := .inl ⟨rfl, rfl, rfl⟩
theorem Gr.own {α : Type} {f : α → AV} {E : TypeId} {sz : Nat} {v : Value} {n : Nat} {L : List α} (h : n = L.length) : Gr f E sz (.own v n) L [.row v E sz (L.map f) 0] := .inr ⟨v, by rw [h], rfl⟩
theorem Frzs.refl (v : Value) (L : AV) : ∀ us : List AV, Frzs v L us us
 | [] => trivial
 | u :: us => ⟨.inl rfl, Frzs.refl v L us⟩
theorem Gr.sub {α : Type} {f : α → AV} {E : TypeId} {sz : Nat} (hz : 0 < sz) {b : AV} {L : List α} {σ : Store} (h : Gr f E sz b L σ) {τ rest : Store} (hp : τ.Perm (σ ++ rest)) (args : List AV) : ∃ m, Sub τ (b :: args) rest (.lst sz (L.map f) m :: args) := by
 rcases h with ⟨rfl, rfl, rfl⟩ | ⟨v, rfl, rfl⟩
 ·refine ⟨.nil, (Sub.less (Less.perm hp) _).trans (Sub.vals ⟨SubV.nil sz hz, SubVs.refl _⟩)⟩
 ·refine ⟨.ro, (Sub.less (Less.perm hp) _).trans (Sub.freeze0 ⟨.inr ⟨⟨_, rfl⟩, rfl⟩, Frzs.refl _ _ _⟩)⟩
theorem Gr.len {α : Type} {f : α → AV} {E : TypeId} {sz : Nat} {b : AV} {L : List α} {σ : Store} (h : Gr f E sz b L σ) {t : TypeId} (ht : isSl P t = true) {K : AV → Prop} (hK : K (.val (.int .i64 L.length))) : ∃ u, aBuiltin P .len #[t] [b] u ∧ K u := by
 rcases h with ⟨rfl, rfl, rfl⟩ | ⟨v, rfl, rfl⟩
 ·exact s_len_nil ht hK
 ·exact s_len_own ht hK
theorem Gr.src {α : Type} {f : α → AV} {E : TypeId} {sz : Nat} (hf : Told f sz) {b : AV} {L : List α} {σ τ : Store} (h : Gr f E sz b L σ) (hs : ∀ e ∈ σ, e ∈ τ) : Src f sz τ b L := by
 rcases h with ⟨rfl, rfl, rfl⟩ | ⟨v, rfl, rfl⟩
 ·exact src_nil
 ·exact src_own hf (hs _ (List.mem_cons_self))

theorem s_ixo {sz : Nat} {v : Value} {n : Nat} {k : IntKind} {i : Int} {K : AV → Prop} (h0 : 0 ≤ i) (h1 : i < n) (hK : K (.eptr v sz i.toNat 0)) : ∃ u, aIndexAddr .slice sz (.own v n) (.val (.int k i)) u ∧ K u := ⟨_, ⟨h0, h1, rfl⟩, hK⟩
end Go.Ab
