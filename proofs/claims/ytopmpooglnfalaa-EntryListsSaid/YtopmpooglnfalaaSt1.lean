/- Steps through a printed condition, found by their shape (part 1): what a step is, numbers, tests. No program in sight. -/
import Derived.Test.YtopmpooglnfalaaAb20
set_option linter.unusedVariables false
set_option linter.unusedSimpArgs false
namespace Go.Ab
variable {P : Program}

/-- Some value that is so, and what is behind. -/
def Do (X K : AV → Prop) : Prop := ∃ u, X u ∧ K u
/-- To show G it is enough to show H. -/
class Stp (G : Prop) (H : outParam Prop) : Prop where
  go : H → G
def Need (φ H : Prop) : Prop := φ ∧ H
def Fact (φ H : Prop) : Prop := φ ∧ H
def Cho (φ A B : Prop) : Prop := (φ → A) ∧ (¬ φ → B)
def Alt (φ A B : Prop) : Prop := (φ ∧ A) ∨ B
def All {β : Type} (p : β → Prop) : Prop := ∀ y, p y
def Imp (φ H : Prop) : Prop := φ → H
/-- A slot of a loop or a join. -/
def At (vs : List AV) (i : Nat) (F : AV → Prop) : Prop := F (vs.getD i .undef)
instance at0 (a : AV) (vs : List AV) (F : AV → Prop) : Stp (At (a :: vs) 0 F) (F a) := ⟨fun h => h⟩
instance atS (a : AV) (vs : List AV) (i : Nat) (F : AV → Prop) : Stp (At (a :: vs) (i + 1) F) (At vs i F) := ⟨fun h => h⟩
theorem need {φ H : Prop} (h : φ) (k : H) : Need φ H := ⟨h, k⟩
theorem fact {φ H : Prop} (h : φ) (k : H) : Fact φ H := ⟨h, k⟩
theorem choT {φ A B : Prop} (h : φ) (a : A) : Cho φ A B := ⟨fun _ => a, fun n => absurd h n⟩
theorem choF {φ A B : Prop} (h : ¬ φ) (b : B) : Cho φ A B := ⟨fun y => absurd y h, fun _ => b⟩
theorem choF' {b : Bool} {A B : Prop} (h : b = false) (k : B) : Cho (b = true) A B := ⟨fun y => by (rw [h] at y; cases y), fun _ => k⟩
theorem cho {φ A B : Prop} (h : φ → A) (k : ¬ φ → B) : Cho φ A B := ⟨h, k⟩
theorem altT {φ A B : Prop} (h : φ) (a : A) : Alt φ A B := .inl ⟨h, a⟩
theorem altF {φ A B : Prop} (b : B) : Alt φ A B := .inr b
theorem all {β : Type} {p : β → Prop} (h : ∀ y, p y) : All p := h
theorem imp {φ H : Prop} (h : φ → H) : Imp φ H := h

theorem Do.of {X K : AV → Prop} {v : AV} (h : X v) (hK : K v) : Do X K := ⟨v, h, hK⟩
def aIs (a u : AV) : Prop := u = a
instance (a : AV) (K : AV → Prop) : Stp (Do (aIs a) K) (K a) := ⟨fun h => ⟨a, rfl, h⟩⟩

/-! numbers that are not below zero -/
class NatOf (x : Int) (n : outParam Nat) : Prop where
  eq : x = (n : Int)
instance (n : Nat) : NatOf ((n : Nat) : Int) n := ⟨rfl⟩
instance natLit (k : Nat) : NatOf (no_index (@OfNat.ofNat Int k instOfNat)) (@OfNat.ofNat Nat k (instOfNatNat k)) := ⟨rfl⟩
instance (x y : Int) (a b : Nat) [h : NatOf x a] [k : NatOf y b] : NatOf (x + y) (a + b) := ⟨by rw [h.eq, k.eq]; simp⟩
instance (x y : Int) (a b : Nat) [h : NatOf x a] [k : NatOf y b] : NatOf (x * y) (a * b) := ⟨by rw [h.eq, k.eq]; simp⟩
instance (x y : Int) (a b : Nat) [h : NatOf x a] [k : NatOf y b] : NatOf (min x y) (min a b) := ⟨by rw [h.eq, k.eq]; omega⟩
instance (x y : Int) (a b : Nat) [h : NatOf x a] [k : NatOf y b] : NatOf (max x y) (max a b) := ⟨by rw [h.eq, k.eq]; omega⟩
instance (x y : Int) (a b : Nat) [h : NatOf x a] [k : NatOf y b] : NatOf (x / y) (a / b) := ⟨by rw [h.eq, k.eq]; simp⟩
instance (x y : Int) (a b : Nat) [h : NatOf x a] [k : NatOf y b] : NatOf (x % y) (a % b) := ⟨by rw [h.eq, k.eq]; simp⟩

/-! numbers of a byte, of four, of eight -/
abbrev W8 (w : UInt8) : AV := .val (.int .u8 (w.toNat : Int))
abbrev W32 (w : UInt32) : AV := .val (.int .u32 (w.toNat : Int))
abbrev W64 (w : UInt64) : AV := .val (.int .u64 (w.toNat : Int))
class U8Of (x : Int) (w : outParam UInt8) : Prop where
  eq : x = (w.toNat : Int)
class U32Of (x : Int) (w : outParam UInt32) : Prop where
  eq : x = (w.toNat : Int)
class U64Of (x : Int) (w : outParam UInt64) : Prop where
  eq : x = (w.toNat : Int)
instance (w : UInt8) : U8Of ((w.toNat : Nat) : Int) w := ⟨rfl⟩
instance (w : UInt32) : U32Of ((w.toNat : Nat) : Int) w := ⟨rfl⟩
instance (w : UInt64) : U64Of ((w.toNat : Nat) : Int) w := ⟨rfl⟩
/-- Literals. -/
class Lit8 (k : Nat) : Prop where
  lt : k < 256
class Lit32 (k : Nat) : Prop where
  lt : k < 4294967296
class Lit64 (k : Nat) : Prop where
  lt : k < 18446744073709551616

/-! the operations on numbers -/
section arith
variable {t s d : TypeId} {x y : Int} {a b : Nat} {K : AV → Prop}
theorem maxI_pow : (9223372036854775807 : Int) = 2 ^ 63 - 1 := by decide

instance addN [h : NatOf x a] [k : NatOf y b] : Stp (Do (aBin P .add t (.val (.int .i64 x)) (.val (.int .i64 y))) K) (Need (a + b ≤ 9223372036854775807) (K (.val (.int .i64 ((a + b : Nat) : Int))))) :=
  ⟨fun ⟨h1, h2⟩ => s_add64 (by rw [h.eq, k.eq]; omega) (by rw [h.eq, k.eq]; omega) (by rw [h.eq, k.eq, ← Int.natCast_add]; exact h2)⟩
instance (priority := 90) addI : Stp (Do (aBin P .add t (.val (.int .i64 x)) (.val (.int .i64 y))) K) (Need (-9223372036854775808 ≤ x + y ∧ x + y ≤ 9223372036854775807) (K (.val (.int .i64 (x + y))))) :=
  ⟨fun ⟨h1, h2⟩ => s_add64 h1.1 h1.2 h2⟩
instance subN [h : NatOf x a] [k : NatOf y b] : Stp (Do (aBin P .sub t (.val (.int .i64 x)) (.val (.int .i64 y))) K)
    (Alt (b ≤ a ∧ a ≤ 9223372036854775807) (K (.val (.int .i64 ((a - b : Nat) : Int)))) (Need (-9223372036854775808 ≤ x - y ∧ x - y ≤ 9223372036854775807) (K (.val (.int .i64 (x - y)))))) :=
  ⟨fun hh => by
    rcases hh with ⟨h1, h2⟩ | ⟨h1, h2⟩
    · have e : x - y = ((a - b : Nat) : Int) := by rw [h.eq, k.eq]; omega
      exact s_sub64 (by rw [e]; omega) (by rw [e]; omega) (by rw [e]; exact h2)
    · exact s_sub64 h1.1 h1.2 h2⟩
instance (priority := 90) subI : Stp (Do (aBin P .sub t (.val (.int .i64 x)) (.val (.int .i64 y))) K) (Need (-9223372036854775808 ≤ x - y ∧ x - y ≤ 9223372036854775807) (K (.val (.int .i64 (x - y))))) :=
  ⟨fun ⟨h1, h2⟩ => s_sub64 h1.1 h1.2 h2⟩
instance mulN [h : NatOf x a] [k : NatOf y b] : Stp (Do (aBin P .mul t (.val (.int .i64 x)) (.val (.int .i64 y))) K) (Need (a * b ≤ 9223372036854775807) (K (.val (.int .i64 ((a * b : Nat) : Int))))) :=
  ⟨fun ⟨h1, h2⟩ => by
    have e : x * y = ((a * b : Nat) : Int) := by rw [h.eq, k.eq]; simp
    exact s_mul64 (by rw [e]; omega) (by rw [e]; omega) (by rw [e]; exact h2)⟩
instance (priority := 90) mulI : Stp (Do (aBin P .mul t (.val (.int .i64 x)) (.val (.int .i64 y))) K) (Need (-9223372036854775808 ≤ x * y ∧ x * y ≤ 9223372036854775807) (K (.val (.int .i64 (x * y))))) :=
  ⟨fun ⟨h1, h2⟩ => s_mul64 h1.1 h1.2 h2⟩
instance quoN [h : NatOf x a] [k : NatOf y b] : Stp (Do (aBin P .quo t (.val (.int .i64 x)) (.val (.int .i64 y))) K) (Need (0 < b ∧ a ≤ 9223372036854775807) (K (.val (.int .i64 ((a / b : Nat) : Int))))) :=
  ⟨fun ⟨h1, h2⟩ => by
    have e : x / y = ((a / b : Nat) : Int) := by rw [h.eq, k.eq]; simp
    exact s_quo_i64 (by rw [h.eq]; omega) (by rw [h.eq]; omega) (by rw [k.eq]; omega) (by rw [e]; exact h2)⟩
instance remN {kk : IntKind} [h : NatOf x a] [k : NatOf y b] : Stp (Do (aBin P .rem t (.val (.int kk x)) (.val (.int kk y))) K) (Need (0 < b) (K (.val (.int kk ((a % b : Nat) : Int))))) :=
  ⟨fun ⟨h1, h2⟩ => by
    have e : x % y = ((a % b : Nat) : Int) := by rw [h.eq, k.eq]; simp
    exact s_remz (by rw [h.eq]; omega) (by rw [k.eq]; omega) (by rw [e]; exact h2)⟩
instance shrN {k' : IntKind} [h : NatOf x a] [k : NatOf y b] : Stp (Do (aBin P .shr t (.val (.int .i64 x)) (.val (.int k' y))) K) (Need (b < 64) (K (.val (.int .i64 ((a >>> b : Nat) : Int))))) :=
  ⟨fun ⟨h1, h2⟩ => s_shrz (by rw [h.eq]; omega) (by rw [k.eq]; omega) (by rw [k.eq]; simpa [IntKind.bits] using h1) fun z hz _ _ => by
    rw [hz, h.eq, k.eq]
    have e : (a : Int) / 2 ^ (b : Int).toNat = ((a >>> b : Nat) : Int) := by rw [Nat.shiftRight_eq_div_pow, Int.toNat_natCast]; simp
    rw [e]; exact h2⟩

theorem s_bin_nat {op : BinOp} {kk : IntKind} {φ : Prop} {ψ : Prop} [Decidable φ] [Decidable ψ] (he : φ ↔ ψ) (hs : ∀ {K : AV → Prop}, K (.val (.bool (decide φ))) → ∃ u, aBin P op t (.val (.int kk x)) (.val (.int kk y)) u ∧ K u) (hk : K (.val (.bool (decide ψ)))) : Do (aBin P op t (.val (.int kk x)) (.val (.int kk y))) K :=
  hs (by rw [decide_eq_decide.2 he]; exact hk)
instance eqlN {kk : IntKind} [h : NatOf x a] [k : NatOf y b] : Stp (Do (aBin P .eql t (.val (.int kk x)) (.val (.int kk y))) K) (K (.val (.bool (decide (a = b))))) := ⟨s_bin_nat (by rw [h.eq, k.eq]; omega) s_eql⟩
instance neqN {kk : IntKind} [h : NatOf x a] [k : NatOf y b] : Stp (Do (aBin P .neq t (.val (.int kk x)) (.val (.int kk y))) K) (K (.val (.bool (decide (¬ a = b))))) := ⟨s_bin_nat (by rw [h.eq, k.eq]; omega) s_neq⟩
instance lssN {kk : IntKind} [h : NatOf x a] [k : NatOf y b] : Stp (Do (aBin P .lss t (.val (.int kk x)) (.val (.int kk y))) K) (K (.val (.bool (decide (a < b))))) := ⟨s_bin_nat (by rw [h.eq, k.eq]; omega) s_lss⟩
instance leqN {kk : IntKind} [h : NatOf x a] [k : NatOf y b] : Stp (Do (aBin P .leq t (.val (.int kk x)) (.val (.int kk y))) K) (K (.val (.bool (decide (a ≤ b))))) := ⟨s_bin_nat (by rw [h.eq, k.eq]; omega) s_leq⟩
instance gtrN {kk : IntKind} [h : NatOf x a] [k : NatOf y b] : Stp (Do (aBin P .gtr t (.val (.int kk x)) (.val (.int kk y))) K) (K (.val (.bool (decide (b < a))))) := ⟨s_bin_nat (by rw [h.eq, k.eq]; omega) s_gtr⟩
instance geqN {kk : IntKind} [h : NatOf x a] [k : NatOf y b] : Stp (Do (aBin P .geq t (.val (.int kk x)) (.val (.int kk y))) K) (K (.val (.bool (decide (b ≤ a))))) := ⟨s_bin_nat (by rw [h.eq, k.eq]; omega) s_geq⟩
instance (priority := 90) eqlI {kk : IntKind} : Stp (Do (aBin P .eql t (.val (.int kk x)) (.val (.int kk y))) K) (K (.val (.bool (decide (x = y))))) := ⟨fun h => s_eql h⟩
instance (priority := 90) neqI {kk : IntKind} : Stp (Do (aBin P .neq t (.val (.int kk x)) (.val (.int kk y))) K) (K (.val (.bool (decide (¬ x = y))))) := ⟨fun h => s_neq h⟩
instance (priority := 90) lssI {kk : IntKind} : Stp (Do (aBin P .lss t (.val (.int kk x)) (.val (.int kk y))) K) (K (.val (.bool (decide (x < y))))) := ⟨fun h => s_lss h⟩
instance (priority := 90) leqI {kk : IntKind} : Stp (Do (aBin P .leq t (.val (.int kk x)) (.val (.int kk y))) K) (K (.val (.bool (decide (x ≤ y))))) := ⟨fun h => s_leq h⟩
instance (priority := 90) gtrI {kk : IntKind} : Stp (Do (aBin P .gtr t (.val (.int kk x)) (.val (.int kk y))) K) (K (.val (.bool (decide (y < x))))) := ⟨fun h => s_gtr h⟩
instance (priority := 90) geqI {kk : IntKind} : Stp (Do (aBin P .geq t (.val (.int kk x)) (.val (.int kk y))) K) (K (.val (.bool (decide (y ≤ x))))) := ⟨fun h => s_geq h⟩
instance minN {t t' : TypeId} {kk : IntKind} [h : NatOf x a] [k : NatOf y b] : Stp (Do (aBuiltin P .min #[t, t'] [.val (.int kk x), .val (.int kk y)]) K) (K (.val (.int kk ((min a b : Nat) : Int)))) :=
  ⟨fun hK => s_min (by
    have e : min x y = ((min a b : Nat) : Int) := by rw [h.eq, k.eq]; omega
    rw [e]; exact hK)⟩
instance maxN {t t' : TypeId} {kk : IntKind} [h : NatOf x a] [k : NatOf y b] : Stp (Do (aBuiltin P .max #[t, t'] [.val (.int kk x), .val (.int kk y)]) K) (K (.val (.int kk ((max a b : Nat) : Int)))) :=
  ⟨fun hK => s_max (by
    have e : max x y = ((max a b : Nat) : Int) := by rw [h.eq, k.eq]; omega
    rw [e]; exact hK)⟩
instance (priority := 90) minI {t t' : TypeId} {kk : IntKind} : Stp (Do (aBuiltin P .min #[t, t'] [.val (.int kk x), .val (.int kk y)]) K) (K (.val (.int kk (min x y)))) := ⟨fun h => s_min h⟩
instance (priority := 90) maxI {t t' : TypeId} {kk : IntKind} : Stp (Do (aBuiltin P .max #[t, t'] [.val (.int kk x), .val (.int kk y)]) K) (K (.val (.int kk (max x y)))) := ⟨fun h => s_max h⟩
end arith

/-! tests -/
section tests
variable {φ : Prop} [Decidable φ] {X K : AV → Prop} {A B' : Prop} {c : Bool} {x y : AV}
instance cB : Stp (aCond (.val (.bool (decide φ))) A B') (Cho φ A B') := ⟨fun h => s_cS h.1 h.2⟩
instance (priority := 90) cb : Stp (aCond (.val (.bool c)) A B') (Cho (c = true) A B') := ⟨fun h => s_cb h.1 fun e => h.2 (by rw [e]; decide)⟩
instance (priority := 1100) cTrue : Stp (aCond (.val (.bool true)) A B') A := ⟨fun h => s_cbT rfl h⟩
instance (priority := 1100) cFalse : Stp (aCond (.val (.bool false)) A B') B' := ⟨fun h => s_cbF rfl h⟩
instance (priority := 1100) cNot : Stp (aCond (.val (.bool (!c))) A B') (Cho (c = true) B' A) := ⟨fun h => by
  cases c
  · exact s_cbT rfl (h.2 (by decide))
  · exact s_cbF rfl (h.1 rfl)⟩
instance (priority := 1100) cNotd : Stp (aCond (.val (.bool (decide (¬ φ)))) A B') (Cho φ B' A) := ⟨fun h => by
  by_cases e : φ
  · exact s_cF (fun n => n e) (h.1 e)
  · exact s_cT e (h.2 e)⟩
instance gB : Stp (Do (aGuard (.val (.bool (decide φ))) true X) K) (Cho φ (Do X K) (K (.val Go.undef))) := ⟨fun h => s_gS h.1 h.2⟩
instance gB' : Stp (Do (aGuard (.val (.bool (decide φ))) false X) K) (Cho φ (K (.val Go.undef)) (Do X K)) := ⟨fun h => s_gS' h.2 h.1⟩
instance (priority := 90) gb : Stp (Do (aGuard (.val (.bool c)) true X) K) (Cho (c = true) (Do X K) (K (.val Go.undef))) := ⟨fun h => s_gbS h.1 fun e => h.2 (by rw [e]; decide)⟩
instance (priority := 90) gb' : Stp (Do (aGuard (.val (.bool c)) false X) K) (Cho (c = true) (K (.val Go.undef)) (Do X K)) := ⟨fun h => s_gbS' (fun e => h.2 (by rw [e]; decide)) h.1⟩
instance (priority := 1100) gT : Stp (Do (aGuard (.val (.bool true)) true X) K) (Do X K) := ⟨fun h => s_gbT rfl h⟩
instance (priority := 1100) gF : Stp (Do (aGuard (.val (.bool false)) true X) K) (K (.val Go.undef)) := ⟨fun h => s_gbF rfl h⟩
instance (priority := 1100) gT' : Stp (Do (aGuard (.val (.bool true)) false X) K) (K (.val Go.undef)) := ⟨fun h => s_gbF' rfl h⟩
instance (priority := 1100) gF' : Stp (Do (aGuard (.val (.bool false)) false X) K) (Do X K) := ⟨fun h => s_gbT' rfl h⟩
instance (priority := 1100) gNot : Stp (Do (aGuard (.val (.bool (!c))) true X) K) (Cho (c = true) (K (.val Go.undef)) (Do X K)) := ⟨fun h => by
  cases c
  · exact s_gbT rfl (h.2 (by decide))
  · exact s_gbF rfl (h.1 rfl)⟩
instance (priority := 1100) gNot' : Stp (Do (aGuard (.val (.bool (!c))) false X) K) (Cho (c = true) (Do X K) (K (.val Go.undef))) := ⟨fun h => by
  cases c
  · exact s_gbF' rfl (h.2 (by decide))
  · exact s_gbT' rfl (h.1 rfl)⟩
instance (priority := 1100) gNotd : Stp (Do (aGuard (.val (.bool (decide (¬ φ)))) true X) K) (Cho φ (K (.val Go.undef)) (Do X K)) := ⟨fun h => by
  by_cases e : φ
  · exact s_gF (fun n => n e) (h.1 e)
  · exact s_gT e (h.2 e)⟩
instance (priority := 1100) gNotd' : Stp (Do (aGuard (.val (.bool (decide (¬ φ)))) false X) K) (Cho φ (Do X K) (K (.val Go.undef))) := ⟨fun h => by
  by_cases e : φ
  · exact s_gT' (fun n => n e) (h.1 e)
  · exact s_gF' e (h.2 e)⟩
instance gU {w : Bool} : Stp (Do (aGuard (.val Go.undef) w X) K) (K (.val Go.undef)) := ⟨fun h => ex_guardU h⟩
instance pB : Stp (Do (aPick (.val (.bool (decide φ))) x y) K) (Cho φ (K x) (K y)) := ⟨fun h => s_pS h.1 h.2⟩
instance (priority := 90) pb : Stp (Do (aPick (.val (.bool c)) x y) K) (Cho (c = true) (K x) (K y)) := ⟨fun h => s_pb h.1 fun e => h.2 (by rw [e]; decide)⟩
instance (priority := 1100) pT : Stp (Do (aPick (.val (.bool true)) x y) K) (K x) := ⟨fun h => s_pbT rfl h⟩
instance (priority := 1100) pF : Stp (Do (aPick (.val (.bool false)) x y) K) (K y) := ⟨fun h => s_pbF rfl h⟩
instance (priority := 1100) pNot : Stp (Do (aPick (.val (.bool (!c))) x y) K) (Cho (c = true) (K y) (K x)) := ⟨fun h => by
  cases c
  · exact s_pbT rfl (h.2 (by decide))
  · exact s_pbF rfl (h.1 rfl)⟩
instance (priority := 1100) pNotd : Stp (Do (aPick (.val (.bool (decide (¬ φ)))) x y) K) (Cho φ (K y) (K x)) := ⟨fun h => by
  by_cases e : φ
  · exact s_pF (fun n => n e) (h.1 e)
  · exact s_pT e (h.2 e)⟩
instance notB : Stp (Do (aUn P .not (.val (.bool c))) K) (K (.val (.bool (!c)))) := ⟨fun h => s_not h⟩
instance (priority := 1100) notD : Stp (Do (aUn P .not (.val (.bool (decide φ)))) K) (K (.val (.bool (decide (¬ φ))))) := ⟨fun h => s_notd h⟩
instance (priority := 1200) notDD : Stp (Do (aUn P .not (.val (.bool (decide (¬ φ))))) K) (K (.val (.bool (decide φ)))) := ⟨fun h => s_notd (by
  have e : decide (¬ ¬ φ) = decide φ := decide_eq_decide.2 Decidable.not_not
  rw [e]; exact h)⟩
instance (priority := 1200) notN : Stp (Do (aUn P .not (.val (.bool (!c)))) K) (K (.val (.bool c))) := ⟨fun h => s_not (by rw [Bool.not_not]; exact h)⟩
end tests
end Go.Ab
