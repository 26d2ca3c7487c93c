/- The texts that this claim needs, part 4: a logic over abstract values, its steps, what the functions do. No condition of its own. -/
import Derived.Defers
import Derived.Recover
import Derived.Test.YtghihffhjpchpaaGreatMoveSoundK3
set_option linter.unusedVariables false
set_option linter.unusedSimpArgs false
namespace Go.Ab
variable {P : Program}

def Do (X K : AV → Prop) : Prop := ∃ u, X u ∧ K u
class Stp (G : Prop) (H : outParam Prop) : Prop where
 go : H → G
def Need (φ H : Prop) : Prop := φ ∧ H
def Fact (φ H : Prop) : Prop := φ ∧ H
def Cho (φ A B : Prop) : Prop := (φ → A) ∧ (¬ φ → B)
def Alt (φ A B : Prop) : Prop := (φ ∧ A) ∨ B
def All {β : Type} (p : β → Prop) : Prop := ∀ y, p y
def Imp (φ H : Prop) : Prop := φ → H
def At (vs : List AV) (i : Nat) (F : AV → Prop) : Prop := F (vs.getD i .undef)
instance at0 (a : AV) (vs : List AV) (F : AV → Prop) : Stp (At (a :: vs) 0 F) (F a) := ⟨fun h => h⟩
instance atS (a : AV) (vs : List AV) (i : Nat) (F : AV → Prop) : Stp (At (a :: vs) (i + 1) F) (At vs i F) := ⟨fun h => h⟩
theorem zL {α : Type} : (∀ a b : List α, (a ++ b).length = a.length + b.length) ∧ (∀ (x : α) (l : List α), (x :: l).length = l.length + 1) ∧ ([] : List α).length = 0 ∧ (∀ (n : Nat) (l : List α), (l.take n).length = min n l.length) ∧ (∀ (n : Nat) (l : List α), (l.drop n).length = l.length - n) ∧ (∀ (n : Nat) (x : α), (List.replicate n x).length = n) ∧ ∀ (l : List α) (n : Nat) (x : α), (l.set n x).length = l.length :=
 ⟨fun _ _ => List.length_append, fun _ _ => rfl, rfl, fun _ _ => List.length_take, fun _ _ => List.length_drop, fun _ _ => List.length_replicate, fun _ _ _ => List.length_set⟩
theorem zM {α β : Type} (l : List α) (f : α → β) : (l.map f).length = l.length := List.length_map ..
inductive ZZ : Prop
 | mk
inductive ZN : Prop
theorem zn : ¬ ZN := fun h => nomatch h
theorem zq {φ H : Prop} (k : H) (h : φ := by fail_if_success exact ZZ.mk
                                             first|trivial|omega|exact ⟨by assumption,by omega⟩|(simp only [zL,zM];omega)) : Need φ H := ⟨h, k⟩
theorem zw {φ H : Prop} (k : H) (h : φ := by fail_if_success exact ZZ.mk
                                             first|trivial|exact ⟨rfl,rfl⟩|kernel_rfl) : Fact φ H := ⟨h, k⟩
theorem zt {φ A B : Prop} (a : A) (h : φ := by assumption) : Cho φ A B := ⟨fun _ => a, fun n => absurd h n⟩
theorem zf {φ A B : Prop} (b : B) (h : ¬ φ := by assumption) : Cho φ A B := ⟨fun y => absurd y h, fun _ => b⟩
theorem zg {b : Bool} {A B : Prop} (k : B) (h : b = false := by assumption) : Cho (b = true) A B := ⟨fun y => by (rw [h] at y; cases y), fun _ => k⟩
theorem zu {φ A B : Prop} (a : A) (h : φ := by fail_if_success exact ZZ.mk
                                               omega) : Cho φ A B := zt a h
theorem zv {φ A B : Prop} (b : B) (h : ¬ φ := by fail_if_success exact zn
                                                 omega) : Cho φ A B := zf b h
theorem za {φ A B : Prop} (a : A) (h : φ := by fail_if_success exact ZZ.mk
                                               first|omega|(simp only [zL,zM];omega)) : Alt φ A B := .inl ⟨h, a⟩
theorem need {φ H : Prop} (h : φ) (k : H) : Need φ H := ⟨h, k⟩
theorem fact {φ H : Prop} (h : φ) (k : H) : Fact φ H := ⟨h, k⟩
theorem cho {φ A B : Prop} (h : φ → A) (k : ¬ φ → B) : Cho φ A B := ⟨h, k⟩
theorem altF {φ A B : Prop} (b : B) : Alt φ A B := .inr b
theorem all {β : Type} {p : β → Prop} (h : ∀ y, p y) : All p := h
theorem imp {φ H : Prop} (h : φ → H) : Imp φ H := h

def aIs (a u : AV) : Prop := u = a
instance (a : AV) (K : AV → Prop) : Stp (Do (aIs a) K) (K a) := ⟨fun h => ⟨a, rfl, h⟩⟩

class NatOf (x : Int) (n : outParam Nat) : Prop where
 eq : x = (n : Int)
instance (n : Nat) : NatOf ((n : Nat) : Int) n := ⟨rfl⟩
instance natLit (k : Nat) : NatOf (no_index (@OfNat.ofNat Int k instOfNat)) (@OfNat.ofNat Nat k (instOfNatNat k)) := ⟨rfl⟩
instance (x y : Int) (a b : Nat) [h : NatOf x a] [k : NatOf y b] : NatOf (min x y) (min a b) := ⟨by rw [h.eq, k.eq]; omega⟩
instance (x y : Int) (a b : Nat) [h : NatOf x a] [k : NatOf y b] : NatOf (max x y) (max a b) := ⟨by rw [h.eq, k.eq]; omega⟩
abbrev W8 (w : UInt8) : AV := .val (.int .u8 (w.toNat : Int))
abbrev W32 (w : UInt32) : AV := .val (.int .u32 (w.toNat : Int))
abbrev W64 (w : UInt64) : AV := .val (.int .u64 (w.toNat : Int))
class U8Of (x : Int) (w : outParam UInt8) : Prop where
 eq : x = (w.toNat : Int)
class U32Of (x : Int) (w : outParam UInt32) : Prop where
 eq : x = (w.toNat : Int)
class U64Of (x : Int) (w : outParam UInt64) : Prop where
 eq : x = (w.toNat : Int)
instance (w : UInt8) : U8Of ((w.toNat : Nat) : Int) w := ⟨rfl⟩
instance (w : UInt32) : U32Of ((w.toNat : Nat) : Int) w := ⟨rfl⟩
instance (w : UInt64) : U64Of ((w.toNat : Nat) : Int) w := ⟨rfl⟩
section arith
variable {t s d : TypeId} {x y : Int} {a b : Nat} {K : AV → Prop}
instance addN [h : NatOf x a] [k : NatOf y b] : Stp (Do (aBin P .add t (.val (.int .i64 x)) (.val (.int .i64 y))) K) (Need (a + b ≤ 9223372036854775807) (K (.val (.int .i64 ((a + b : Nat) : Int))))) :=
 ⟨fun ⟨h1, h2⟩ => s_add64 (by rw [h.eq, k.eq]; omega) (by rw [h.eq, k.eq]; omega) (by rw [h.eq, k.eq, ← Int.natCast_add]; exact h2)⟩
instance (priority := 90) addI : Stp (Do (aBin P .add t (.val (.int .i64 x)) (.val (.int .i64 y))) K) (Need (-9223372036854775808 ≤ x + y ∧ x + y ≤ 9223372036854775807) (K (.val (.int .i64 (x + y))))) :=
 ⟨fun ⟨h1, h2⟩ => s_add64 h1.1 h1.2 h2⟩
instance subN [h : NatOf x a] [k : NatOf y b] : Stp (Do (aBin P .sub t (.val (.int .i64 x)) (.val (.int .i64 y))) K)
  (Alt (b ≤ a ∧ a ≤ 9223372036854775807) (K (.val (.int .i64 ((a - b : Nat) : Int)))) (Need (-9223372036854775808 ≤ x - y ∧ x - y ≤ 9223372036854775807) (K (.val (.int .i64 (x - y)))))) :=
 ⟨fun hh => by
  rcases hh with ⟨h1, h2⟩ | ⟨h1, h2⟩
  ·have e : x - y = ((a - b : Nat) : Int) := by rw [h.eq, k.eq]; omega
   exact s_sub64 (by rw [e]; omega) (by rw [e]; omega) (by rw [e]; exact h2)
  ·exact s_sub64 h1.1 h1.2 h2⟩
instance (priority := 90) subI : Stp (Do (aBin P .sub t (.val (.int .i64 x)) (.val (.int .i64 y))) K) (Need (-9223372036854775808 ≤ x - y ∧ x - y ≤ 9223372036854775807) (K (.val (.int .i64 (x - y))))) :=
 ⟨fun ⟨h1, h2⟩ => s_sub64 h1.1 h1.2 h2⟩
instance mulN [h : NatOf x a] [k : NatOf y b] : Stp (Do (aBin P .mul t (.val (.int .i64 x)) (.val (.int .i64 y))) K) (Need (a * b ≤ 9223372036854775807) (K (.val (.int .i64 ((a * b : Nat) : Int))))) :=
 ⟨fun ⟨h1, h2⟩ => by
  have e : x * y = ((a * b : Nat) : Int) := by rw [h.eq, k.eq]; simp
  exact s_mul64 (by rw [e]; omega) (by rw [e]; omega) (by rw [e]; exact h2)⟩
instance quoN [h : NatOf x a] [k : NatOf y b] : Stp (Do (aBin P .quo t (.val (.int .i64 x)) (.val (.int .i64 y))) K) (Need (0 < b ∧ a ≤ 9223372036854775807) (K (.val (.int .i64 ((a / b : Nat) : Int))))) :=
 ⟨fun ⟨h1, h2⟩ => by
  have e : x / y = ((a / b : Nat) : Int) := by rw [h.eq, k.eq]; simp
  exact s_quo_i64 (by rw [h.eq]; omega) (by rw [h.eq]; omega) (by rw [k.eq]; omega) (by rw [e]; exact h2)⟩
instance remN {kk : IntKind} [h : NatOf x a] [k : NatOf y b] : Stp (Do (aBin P .rem t (.val (.int kk x)) (.val (.int kk y))) K) (Need (0 < b) (K (.val (.int kk ((a % b : Nat) : Int))))) :=
 ⟨fun ⟨h1, h2⟩ => by
  have e : x % y = ((a % b : Nat) : Int) := by rw [h.eq, k.eq]; simp
  exact s_remz (by rw [h.eq]; omega) (by rw [k.eq]; omega) (by rw [e]; exact h2)⟩
instance shrN {k' : IntKind} [h : NatOf x a] [k : NatOf y b] : Stp (Do (aBin P .shr t (.val (.int .i64 x)) (.val (.int k' y))) K) (Need (b < 64) (K (.val (.int .i64 ((a >>> b : Nat) : Int))))) :=
 ⟨fun ⟨h1, h2⟩ => s_shrz (by rw [h.eq]; omega) (by rw [k.eq]; omega) (by rw [k.eq]; simpa [IntKind.bits] using h1) fun z hz _ _ => by
  rw [hz, h.eq, k.eq]
  have e : (a : Int) / 2 ^ (b : Int).toNat = ((a >>> b : Nat) : Int) := by rw [Nat.shiftRight_eq_div_pow, Int.toNat_natCast]; simp
  rw [e]; exact h2⟩

theorem s_bin_nat {op : BinOp} {kk : IntKind} {φ : Prop} {ψ : Prop} [Decidable φ] [Decidable ψ] (he : φ ↔ ψ) (hs : ∀ {K : AV → Prop}, K (.val (.bool (decide φ))) → ∃ u, aBin P op t (.val (.int kk x)) (.val (.int kk y)) u ∧ K u) (hk : K (.val (.bool (decide ψ)))) : Do (aBin P op t (.val (.int kk x)) (.val (.int kk y))) K :=
 hs (by rw [decide_eq_decide.2 he]; exact hk)
instance eqlN {kk : IntKind} [h : NatOf x a] [k : NatOf y b] : Stp (Do (aBin P .eql t (.val (.int kk x)) (.val (.int kk y))) K) (K (.val (.bool (decide (a = b))))) := ⟨s_bin_nat (by rw [h.eq, k.eq]; omega) s_eql⟩
instance neqN {kk : IntKind} [h : NatOf x a] [k : NatOf y b] : Stp (Do (aBin P .neq t (.val (.int kk x)) (.val (.int kk y))) K) (K (.val (.bool (decide (¬ a = b))))) := ⟨s_bin_nat (by rw [h.eq, k.eq]; omega) s_neq⟩
instance lssN {kk : IntKind} [h : NatOf x a] [k : NatOf y b] : Stp (Do (aBin P .lss t (.val (.int kk x)) (.val (.int kk y))) K) (K (.val (.bool (decide (a < b))))) := ⟨s_bin_nat (by rw [h.eq, k.eq]; omega) s_lss⟩
instance leqN {kk : IntKind} [h : NatOf x a] [k : NatOf y b] : Stp (Do (aBin P .leq t (.val (.int kk x)) (.val (.int kk y))) K) (K (.val (.bool (decide (a ≤ b))))) := ⟨s_bin_nat (by rw [h.eq, k.eq]; omega) s_leq⟩
instance gtrN {kk : IntKind} [h : NatOf x a] [k : NatOf y b] : Stp (Do (aBin P .gtr t (.val (.int kk x)) (.val (.int kk y))) K) (K (.val (.bool (decide (b < a))))) := ⟨s_bin_nat (by rw [h.eq, k.eq]; omega) s_gtr⟩
instance geqN {kk : IntKind} [h : NatOf x a] [k : NatOf y b] : Stp (Do (aBin P .geq t (.val (.int kk x)) (.val (.int kk y))) K) (K (.val (.bool (decide (b ≤ a))))) := ⟨s_bin_nat (by rw [h.eq, k.eq]; omega) s_geq⟩
instance (priority := 90) eqlI {kk : IntKind} : Stp (Do (aBin P .eql t (.val (.int kk x)) (.val (.int kk y))) K) (K (.val (.bool (decide (x = y))))) := ⟨fun h => s_eql h⟩
instance (priority := 90) lssI {kk : IntKind} : Stp (Do (aBin P .lss t (.val (.int kk x)) (.val (.int kk y))) K) (K (.val (.bool (decide (x < y))))) := ⟨fun h => s_lss h⟩
instance (priority := 90) leqI {kk : IntKind} : Stp (Do (aBin P .leq t (.val (.int kk x)) (.val (.int kk y))) K) (K (.val (.bool (decide (x ≤ y))))) := ⟨fun h => s_leq h⟩
instance (priority := 90) gtrI {kk : IntKind} : Stp (Do (aBin P .gtr t (.val (.int kk x)) (.val (.int kk y))) K) (K (.val (.bool (decide (y < x))))) := ⟨fun h => s_gtr h⟩
instance (priority := 90) geqI {kk : IntKind} : Stp (Do (aBin P .geq t (.val (.int kk x)) (.val (.int kk y))) K) (K (.val (.bool (decide (y ≤ x))))) := ⟨fun h => s_geq h⟩
instance minN {t t' : TypeId} {kk : IntKind} [h : NatOf x a] [k : NatOf y b] : Stp (Do (aBuiltin P .min #[t, t'] [.val (.int kk x), .val (.int kk y)]) K) (K (.val (.int kk ((min a b : Nat) : Int)))) :=
 ⟨fun hK => s_min (by
  have e : min x y = ((min a b : Nat) : Int) := by rw [h.eq, k.eq]; omega
  rw [e]; exact hK)⟩
instance maxN {t t' : TypeId} {kk : IntKind} [h : NatOf x a] [k : NatOf y b] : Stp (Do (aBuiltin P .max #[t, t'] [.val (.int kk x), .val (.int kk y)]) K) (K (.val (.int kk ((max a b : Nat) : Int)))) :=
 ⟨fun hK => s_max (by
  have e : max x y = ((max a b : Nat) : Int) := by rw [h.eq, k.eq]; omega
  rw [e]; exact hK)⟩
instance (priority := 90) minI {t t' : TypeId} {kk : IntKind} : Stp (Do (aBuiltin P .min #[t, t'] [.val (.int kk x), .val (.int kk y)]) K) (K (.val (.int kk (min x y)))) := ⟨fun h => s_min h⟩
instance (priority := 90) maxI {t t' : TypeId} {kk : IntKind} : Stp (Do (aBuiltin P .max #[t, t'] [.val (.int kk x), .val (.int kk y)]) K) (K (.val (.int kk (max x y)))) := ⟨fun h => s_max h⟩
end arith

section tests
variable {φ : Prop} [Decidable φ] {X K : AV → Prop} {A B' : Prop} {c : Bool} {x y : AV}
instance cB : Stp (aCond (.val (.bool (decide φ))) A B') (Cho φ A B') := ⟨fun h => s_cS h.1 h.2⟩
instance (priority := 90) cb : Stp (aCond (.val (.bool c)) A B') (Cho (c = true) A B') := ⟨fun h => s_cb h.1 fun e => h.2 (by rw [e]; decide)⟩
instance (priority := 1100) cTrue : Stp (aCond (.val (.bool true)) A B') A := ⟨fun h => s_cbT rfl h⟩
instance (priority := 1100) cFalse : Stp (aCond (.val (.bool false)) A B') B' := ⟨fun h => s_cbF rfl h⟩
instance (priority := 1100) cNot : Stp (aCond (.val (.bool (!c))) A B') (Cho (c = true) B' A) := ⟨fun h => by
 cases c
 ·exact s_cbT rfl (h.2 (by decide))
 ·exact s_cbF rfl (h.1 rfl)⟩
instance (priority := 1100) cNotd : Stp (aCond (.val (.bool (decide (¬ φ)))) A B') (Cho φ B' A) := ⟨fun h => by
 by_cases e : φ
 ·exact s_cF (fun n => n e) (h.1 e)
 ·exact s_cT e (h.2 e)⟩
instance gB : Stp (Do (aGuard (.val (.bool (decide φ))) true X) K) (Cho φ (Do X K) (K (.val Go.undef))) := ⟨fun h => s_gS h.1 h.2⟩
instance gB' : Stp (Do (aGuard (.val (.bool (decide φ))) false X) K) (Cho φ (K (.val Go.undef)) (Do X K)) := ⟨fun h => s_gS' h.2 h.1⟩
instance (priority := 90) gb : Stp (Do (aGuard (.val (.bool c)) true X) K) (Cho (c = true) (Do X K) (K (.val Go.undef))) := ⟨fun h => s_gbS h.1 fun e => h.2 (by rw [e]; decide)⟩
instance (priority := 90) gb' : Stp (Do (aGuard (.val (.bool c)) false X) K) (Cho (c = true) (K (.val Go.undef)) (Do X K)) := ⟨fun h => s_gbS' (fun e => h.2 (by rw [e]; decide)) h.1⟩
instance (priority := 1100) gT : Stp (Do (aGuard (.val (.bool true)) true X) K) (Do X K) := ⟨fun h => s_gbT rfl h⟩
instance (priority := 1100) gF : Stp (Do (aGuard (.val (.bool false)) true X) K) (K (.val Go.undef)) := ⟨fun h => s_gbF rfl h⟩
instance (priority := 1100) gT' : Stp (Do (aGuard (.val (.bool true)) false X) K) (K (.val Go.undef)) := ⟨fun h => s_gbF' rfl h⟩
instance (priority := 1100) gF' : Stp (Do (aGuard (.val (.bool false)) false X) K) (Do X K) := ⟨fun h => s_gbT' rfl h⟩
instance (priority := 1100) gNot : Stp (Do (aGuard (.val (.bool (!c))) true X) K) (Cho (c = true) (K (.val Go.undef)) (Do X K)) := ⟨fun h => by
 cases c
 ·exact s_gbT rfl (h.2 (by decide))
 ·exact s_gbF rfl (h.1 rfl)⟩
instance (priority := 1100) gNot' : Stp (Do (aGuard (.val (.bool (!c))) false X) K) (Cho (c = true) (Do X K) (K (.val Go.undef))) := ⟨fun h => by
 cases c
 ·exact s_gbF' rfl (h.2 (by decide))
 ·exact s_gbT' rfl (h.1 rfl)⟩
instance (priority := 1100) gNotd : Stp (Do (aGuard (.val (.bool (decide (¬ φ)))) true X) K) (Cho φ (K (.val Go.undef)) (Do X K)) := ⟨fun h => by
 by_cases e : φ
 ·exact s_gF (fun n => n e) (h.1 e)
 ·exact s_gT e (h.2 e)⟩
instance (priority := 1100) gNotd' : Stp (Do (aGuard (.val (.bool (decide (¬ φ)))) false X) K) (Cho φ (Do X K) (K (.val Go.undef))) := ⟨fun h => by
 by_cases e : φ
 ·exact s_gT' (fun n => n e) (h.1 e)
 ·exact s_gF' e (h.2 e)⟩
instance gU {w : Bool} : Stp (Do (aGuard (.val Go.undef) w X) K) (K (.val Go.undef)) := ⟨fun h => ex_guardU h⟩
instance pB : Stp (Do (aPick (.val (.bool (decide φ))) x y) K) (Cho φ (K x) (K y)) := ⟨fun h => s_pS h.1 h.2⟩
instance (priority := 90) pb : Stp (Do (aPick (.val (.bool c)) x y) K) (Cho (c = true) (K x) (K y)) := ⟨fun h => s_pb h.1 fun e => h.2 (by rw [e]; decide)⟩
instance (priority := 1100) pT : Stp (Do (aPick (.val (.bool true)) x y) K) (K x) := ⟨fun h => s_pbT rfl h⟩
instance (priority := 1100) pF : Stp (Do (aPick (.val (.bool false)) x y) K) (K y) := ⟨fun h => s_pbF rfl h⟩
instance (priority := 1100) pNot : Stp (Do (aPick (.val (.bool (!c))) x y) K) (Cho (c = true) (K y) (K x)) := ⟨fun h => by
 cases c
 ·exact s_pbT rfl (h.2 (by decide))
 ·exact s_pbF rfl (h.1 rfl)⟩
instance (priority := 1100) pNotd : Stp (Do (aPick (.val (.bool (decide (¬ φ)))) x y) K) (Cho φ (K y) (K x)) := ⟨fun h => by
 by_cases e : φ
 ·exact s_pF (fun n => n e) (h.1 e)
 ·exact s_pT e (h.2 e)⟩
instance notB : Stp (Do (aUn P .not (.val (.bool c))) K) (K (.val (.bool (!c)))) := ⟨fun h => s_not h⟩
instance (priority := 1100) notD : Stp (Do (aUn P .not (.val (.bool (decide φ)))) K) (K (.val (.bool (decide (¬ φ))))) := ⟨fun h => s_notd h⟩
instance (priority := 1200) notDD : Stp (Do (aUn P .not (.val (.bool (decide (¬ φ))))) K) (K (.val (.bool (decide φ)))) := ⟨fun h => s_notd (by
 have e : decide (¬ ¬ φ) = decide φ := decide_eq_decide.2 Decidable.not_not
 rw [e]; exact h)⟩
end tests
end Go.Ab

namespace Go.Ab
variable {P : Program}
class KindIs (P : Program) (t : TypeId) (k : outParam IntKind) : Prop where
 h : kindOf P t = some k
theorem g_xor {t : TypeId} {k : IntKind} {x y : Int} {K : AV → Prop} (hk : k.signed = false) (hx : 0 ≤ x) (hx' : x < 2 ^ k.bits) (hy : 0 ≤ y) (hy' : y < 2 ^ k.bits) (hK : K (.val (.int k ((x.toNat ^^^ y.toNat : Nat) : Int)))) : ∃ u, aBin P .xor t (.val (.int k x)) (.val (.int k y)) u ∧ K u := by
 refine ⟨_, ?_, hK⟩
 refine (aBin_val fun _ _ w => ?_).2 rfl
 obtain ⟨a, rfl⟩ := Int.eq_ofNat_of_zero_le hx
 obtain ⟨b, rfl⟩ := Int.eq_ofNat_of_zero_le hy
 have ha : a < 2 ^ k.bits := by exact_mod_cast hx'
 have hb : b < 2 ^ k.bits := by exact_mod_cast hy'
 have e : (a ^^^ b) < 2 ^ k.bits := Nat.xor_lt_two_pow ha hb
 have hw : k.wrap ((a ^^^ b : Nat) : Int) = ((a ^^^ b : Nat) : Int) := by
  simp only [IntKind.wrap, hk, Bool.false_and]
  rw [if_neg (by simp)]
  exact_mod_cast Nat.mod_eq_of_lt e
 simp [eqGuard, binOp, Op.intBits, BitVec.ofInt_natCast, Nat.mod_eq_of_lt ha, Nat.mod_eq_of_lt hb, hw]
section conv
variable {s d : TypeId} {x : Int} {a : Nat} {k : IntKind} {K : AV → Prop}
end conv

section w8
variable {t s d : TypeId} {x y : Int} {a b : Nat} {v w : UInt8} {kk k' : IntKind} {K : AV → Prop}
theorem lt8 (v : UInt8) : v.toNat < 256 := UInt8.toNat_lt v
instance add8 [h : U8Of x v] [k : U8Of y w] : Stp (Do (aBin P .add t (.val (.int .u8 x)) (.val (.int .u8 y))) K) (K (W8 (v + w))) :=
 ⟨fun hK => ⟨_, r_add.2 rfl, by
  have e : IntKind.wrap .u8 (x + y) = (((v + w).toNat : Nat) : Int) := by rw [wrap_u8', h.eq, k.eq, UInt8.toNat_add]; omega
  rw [e]; exact hK⟩⟩
instance or8 [h : U8Of x v] [k : U8Of y w] : Stp (Do (aBin P .or t (.val (.int .u8 x)) (.val (.int .u8 y))) K) (K (W8 (v ||| w))) :=
 ⟨fun hK => g_or rfl (by rw [h.eq]; omega) (by rw [h.eq]; have := lt8 v; simp only [IntKind.bits]; omega) (by rw [k.eq]; omega) (by rw [k.eq]; have := lt8 w; simp only [IntKind.bits]; omega) (by
  rw [h.eq, k.eq, Int.toNat_natCast, Int.toNat_natCast, ← UInt8.toNat_or]; exact hK)⟩
instance and8 [h : U8Of x v] [k : U8Of y w] : Stp (Do (aBin P .and t (.val (.int .u8 x)) (.val (.int .u8 y))) K) (K (W8 (v &&& w))) :=
 ⟨fun hK => g_and rfl (by rw [h.eq]; omega) (by rw [h.eq]; have := lt8 v; simp only [IntKind.bits]; omega) (by rw [k.eq]; omega) (by rw [k.eq]; have := lt8 w; simp only [IntKind.bits]; omega) (by
  rw [h.eq, k.eq, Int.toNat_natCast, Int.toNat_natCast, ← UInt8.toNat_and]; exact hK)⟩
instance shl8 [h : U8Of x v] [k : NatOf y b] : Stp (Do (aBin P .shl t (.val (.int .u8 x)) (.val (.int k' y))) K) (Need (b < 8) (K (W8 (v <<< UInt8.ofNat b)))) :=
 ⟨fun ⟨h1, h2⟩ => ⟨_, (r_shl (by rw [k.eq]; omega)).2 rfl, by
  have e : IntKind.wrap .u8 (x * 2 ^ min y.toNat (IntKind.bits .u8)) = (((v <<< UInt8.ofNat b).toNat : Nat) : Int) := by
   have hb : min (b : Int).toNat (IntKind.bits .u8) = b := by simp only [IntKind.bits, Int.toNat_natCast]; omega
   have hm : (UInt8.ofNat b).toNat % 8 = b := by simp only [UInt8.toNat_ofNat']; omega
   rw [h.eq, k.eq, hb, wrap_u8', UInt8.toNat_shiftLeft, hm, Nat.shiftLeft_eq, show (2 : Nat) ^ 8 = 256 from rfl, Int.natCast_emod, Int.natCast_mul, Int.natCast_pow]
   rfl
  rw [e]; exact h2⟩⟩
instance conv8 [hd : KindIs P d .u8] [hs : KindIs P s kk] [h : NatOf x a] : Stp (Do (fun u => aConvN s d (.val (.int kk x)) u P) K) (K (W8 (UInt8.ofNat a))) :=
 ⟨fun hK => s_conv hd.h hs.h (by
  have e : IntKind.wrap .u8 x = (((UInt8.ofNat a).toNat : Nat) : Int) := by rw [wrap_u8', h.eq, UInt8.toNat_ofNat']; omega
  rw [e]; exact hK)⟩
end w8
section w32
variable {t s d : TypeId} {x y : Int} {a b : Nat} {v w : UInt32} {kk k' : IntKind} {K : AV → Prop}
theorem lt32 (v : UInt32) : v.toNat < 4294967296 := UInt32.toNat_lt v
instance add32 [h : U32Of x v] [k : U32Of y w] : Stp (Do (aBin P .add t (.val (.int .u32 x)) (.val (.int .u32 y))) K) (K (W32 (v + w))) :=
 ⟨fun hK => ⟨_, r_add.2 rfl, by
  have e : IntKind.wrap .u32 (x + y) = (((v + w).toNat : Nat) : Int) := by rw [wrap_u32', h.eq, k.eq, UInt32.toNat_add]; omega
  rw [e]; exact hK⟩⟩
instance or32 [h : U32Of x v] [k : U32Of y w] : Stp (Do (aBin P .or t (.val (.int .u32 x)) (.val (.int .u32 y))) K) (K (W32 (v ||| w))) :=
 ⟨fun hK => g_or rfl (by rw [h.eq]; omega) (by rw [h.eq]; have := lt32 v; simp only [IntKind.bits]; omega) (by rw [k.eq]; omega) (by rw [k.eq]; have := lt32 w; simp only [IntKind.bits]; omega) (by
  rw [h.eq, k.eq, Int.toNat_natCast, Int.toNat_natCast, ← UInt32.toNat_or]; exact hK)⟩
instance and32 [h : U32Of x v] [k : U32Of y w] : Stp (Do (aBin P .and t (.val (.int .u32 x)) (.val (.int .u32 y))) K) (K (W32 (v &&& w))) :=
 ⟨fun hK => g_and rfl (by rw [h.eq]; omega) (by rw [h.eq]; have := lt32 v; simp only [IntKind.bits]; omega) (by rw [k.eq]; omega) (by rw [k.eq]; have := lt32 w; simp only [IntKind.bits]; omega) (by
  rw [h.eq, k.eq, Int.toNat_natCast, Int.toNat_natCast, ← UInt32.toNat_and]; exact hK)⟩
instance xor32 [h : U32Of x v] [k : U32Of y w] : Stp (Do (aBin P .xor t (.val (.int .u32 x)) (.val (.int .u32 y))) K) (K (W32 (v ^^^ w))) :=
 ⟨fun hK => g_xor rfl (by rw [h.eq]; omega) (by rw [h.eq]; have := lt32 v; simp only [IntKind.bits]; omega) (by rw [k.eq]; omega) (by rw [k.eq]; have := lt32 w; simp only [IntKind.bits]; omega) (by
  rw [h.eq, k.eq, Int.toNat_natCast, Int.toNat_natCast, ← UInt32.toNat_xor]; exact hK)⟩
instance shl32 [h : U32Of x v] [k : NatOf y b] : Stp (Do (aBin P .shl t (.val (.int .u32 x)) (.val (.int k' y))) K) (Need (b < 32) (K (W32 (v <<< UInt32.ofNat b)))) :=
 ⟨fun ⟨h1, h2⟩ => ⟨_, (r_shl (by rw [k.eq]; omega)).2 rfl, by
  have e : IntKind.wrap .u32 (x * 2 ^ min y.toNat (IntKind.bits .u32)) = (((v <<< UInt32.ofNat b).toNat : Nat) : Int) := by
   have hb : min (b : Int).toNat (IntKind.bits .u32) = b := by simp only [IntKind.bits, Int.toNat_natCast]; omega
   have hm : (UInt32.ofNat b).toNat % 32 = b := by simp only [UInt32.toNat_ofNat']; omega
   rw [h.eq, k.eq, hb, wrap_u32', UInt32.toNat_shiftLeft, hm, Nat.shiftLeft_eq, show (2 : Nat) ^ 32 = 4294967296 from rfl, Int.natCast_emod, Int.natCast_mul, Int.natCast_pow]
   rfl
  rw [e]; exact h2⟩⟩
instance shr32 [h : U32Of x v] [k : NatOf y b] : Stp (Do (aBin P .shr t (.val (.int .u32 x)) (.val (.int k' y))) K) (Need (b < 32) (K (W32 (v >>> UInt32.ofNat b)))) :=
 ⟨fun ⟨h1, h2⟩ => ⟨_, (r_shr (by rw [k.eq]; omega)).2 rfl, by
  have e : x.fdiv (2 ^ min y.toNat (IntKind.bits .u32)) = (((v >>> UInt32.ofNat b).toNat : Nat) : Int) := by
   have hb : min (b : Int).toNat (IntKind.bits .u32) = b := by simp only [IntKind.bits, Int.toNat_natCast]; omega
   have hm : (UInt32.ofNat b).toNat % 32 = b := by simp only [UInt32.toNat_ofNat']; omega
   rw [h.eq, k.eq, hb, UInt32.toNat_shiftRight, hm, Nat.shiftRight_eq_div_pow, shr_nat]
  rw [e]; exact h2⟩⟩
instance not32 [h : U32Of x v] : Stp (Do (aUn P .xor (.val (.int .u32 x))) K) (K (W32 (~~~v))) :=
 ⟨fun hK => ⟨W32 (~~~v), ⟨_, rfl, fun w0 => by
  have hv := lt32 v
  have e1 : BitVec.ofInt 32 (IntKind.max .u32) = BitVec.allOnes 32 := by decide
  have e2 : BitVec.ofInt 32 ((v.toNat : Nat) : Int) = v.toBitVec := by rw [BitVec.ofInt_natCast]; simp
  have e3 : IntKind.wrap .u32 (((BitVec.allOnes 32 ^^^ v.toBitVec).toNat : Nat) : Int) = (((~~~v).toNat : Nat) : Int) := by
   have h1 : (~~~v).toNat = (BitVec.allOnes 32 ^^^ v.toBitVec).toNat := by
    rw [BitVec.allOnes_xor]; rfl
   rw [h1]
   have h2 := (BitVec.allOnes 32 ^^^ v.toBitVec).isLt
   rw [wrap_u32']; omega
  rw [h.eq]
  simp only [Op.unary, Op.intBits, IntKind.bits, IntKind.signed, Bool.false_eq_true, if_false, e1, e2]
  show (pure (Value.int .u32 (IntKind.wrap .u32 ((BitVec.allOnes 32 ^^^ v.toBitVec).toNat : Int))) : Sem Value).run P w0 = _
  rw [e3]; rfl⟩, hK⟩⟩
instance conv32 [hd : KindIs P d .u32] [hs : KindIs P s kk] [h : NatOf x a] : Stp (Do (fun u => aConvN s d (.val (.int kk x)) u P) K) (K (W32 (UInt32.ofNat a))) :=
 ⟨fun hK => s_conv hd.h hs.h (by
  have e : IntKind.wrap .u32 x = (((UInt32.ofNat a).toNat : Nat) : Int) := by rw [wrap_u32', h.eq, UInt32.toNat_ofNat']; omega
  rw [e]; exact hK)⟩
end w32
section w64
variable {t s d : TypeId} {x y : Int} {a b : Nat} {v w : UInt64} {kk k' : IntKind} {K : AV → Prop}
theorem lt64 (v : UInt64) : v.toNat < 18446744073709551616 := UInt64.toNat_lt v
instance add64 [h : U64Of x v] [k : U64Of y w] : Stp (Do (aBin P .add t (.val (.int .u64 x)) (.val (.int .u64 y))) K) (K (W64 (v + w))) :=
 ⟨fun hK => ⟨_, r_add.2 rfl, by
  have e : IntKind.wrap .u64 (x + y) = (((v + w).toNat : Nat) : Int) := by rw [wrap_u64', h.eq, k.eq, UInt64.toNat_add]; omega
  rw [e]; exact hK⟩⟩
instance sub64 [h : U64Of x v] [k : U64Of y w] : Stp (Do (aBin P .sub t (.val (.int .u64 x)) (.val (.int .u64 y))) K) (K (W64 (v - w))) :=
 ⟨fun hK => ⟨_, r_sub.2 rfl, by
  have e : IntKind.wrap .u64 (x - y) = (((v - w).toNat : Nat) : Int) := by
   have := lt64 v
   have := lt64 w
   rw [wrap_u64', h.eq, k.eq, UInt64.toNat_sub]; omega
  rw [e]; exact hK⟩⟩
instance mul64 [h : U64Of x v] [k : U64Of y w] : Stp (Do (aBin P .mul t (.val (.int .u64 x)) (.val (.int .u64 y))) K) (K (W64 (v * w))) :=
 ⟨fun hK => ⟨_, r_mul.2 rfl, by
  have e : IntKind.wrap .u64 (x * y) = (((v * w).toNat : Nat) : Int) := by
   rw [wrap_u64', h.eq, k.eq, UInt64.toNat_mul, ← Int.natCast_mul]; omega
  rw [e]; exact hK⟩⟩
instance or64 [h : U64Of x v] [k : U64Of y w] : Stp (Do (aBin P .or t (.val (.int .u64 x)) (.val (.int .u64 y))) K) (K (W64 (v ||| w))) :=
 ⟨fun hK => g_or rfl (by rw [h.eq]; omega) (by rw [h.eq]; have := lt64 v; simp only [IntKind.bits]; omega) (by rw [k.eq]; omega) (by rw [k.eq]; have := lt64 w; simp only [IntKind.bits]; omega) (by
  rw [h.eq, k.eq, Int.toNat_natCast, Int.toNat_natCast, ← UInt64.toNat_or]; exact hK)⟩
instance and64 [h : U64Of x v] [k : U64Of y w] : Stp (Do (aBin P .and t (.val (.int .u64 x)) (.val (.int .u64 y))) K) (K (W64 (v &&& w))) :=
 ⟨fun hK => g_and rfl (by rw [h.eq]; omega) (by rw [h.eq]; have := lt64 v; simp only [IntKind.bits]; omega) (by rw [k.eq]; omega) (by rw [k.eq]; have := lt64 w; simp only [IntKind.bits]; omega) (by
  rw [h.eq, k.eq, Int.toNat_natCast, Int.toNat_natCast, ← UInt64.toNat_and]; exact hK)⟩
instance shl64 [h : U64Of x v] [k : NatOf y b] : Stp (Do (aBin P .shl t (.val (.int .u64 x)) (.val (.int k' y))) K) (Need (b < 64) (K (W64 (v <<< UInt64.ofNat b)))) :=
 ⟨fun ⟨h1, h2⟩ => ⟨_, (r_shl (by rw [k.eq]; omega)).2 rfl, by
  have e : IntKind.wrap .u64 (x * 2 ^ min y.toNat (IntKind.bits .u64)) = (((v <<< UInt64.ofNat b).toNat : Nat) : Int) := by
   have hb : min (b : Int).toNat (IntKind.bits .u64) = b := by simp only [IntKind.bits, Int.toNat_natCast]; omega
   have hm : (UInt64.ofNat b).toNat % 64 = b := by simp only [UInt64.toNat_ofNat']; omega
   rw [h.eq, k.eq, hb, wrap_u64', UInt64.toNat_shiftLeft, hm, Nat.shiftLeft_eq, show (2 : Nat) ^ 64 = 18446744073709551616 from rfl, Int.natCast_emod, Int.natCast_mul, Int.natCast_pow]
   rfl
  rw [e]; exact h2⟩⟩
instance shr64 [h : U64Of x v] [k : NatOf y b] : Stp (Do (aBin P .shr t (.val (.int .u64 x)) (.val (.int k' y))) K) (Need (b < 64) (K (W64 (v >>> UInt64.ofNat b)))) :=
 ⟨fun ⟨h1, h2⟩ => ⟨_, (r_shr (by rw [k.eq]; omega)).2 rfl, by
  have e : x.fdiv (2 ^ min y.toNat (IntKind.bits .u64)) = (((v >>> UInt64.ofNat b).toNat : Nat) : Int) := by
   have hb : min (b : Int).toNat (IntKind.bits .u64) = b := by simp only [IntKind.bits, Int.toNat_natCast]; omega
   have hm : (UInt64.ofNat b).toNat % 64 = b := by simp only [UInt64.toNat_ofNat']; omega
   rw [h.eq, k.eq, hb, UInt64.toNat_shiftRight, hm, Nat.shiftRight_eq_div_pow, shr_nat]
  rw [e]; exact h2⟩⟩
instance quo64 [h : U64Of x v] [k : U64Of y w] : Stp (Do (aBin P .quo t (.val (.int .u64 x)) (.val (.int .u64 y))) K) (Need (0 < w.toNat) (K (W64 (v / w)))) :=
 ⟨fun ⟨h1, h2⟩ => ⟨_, (r_quo (by rw [k.eq]; omega)).2 rfl, by
  have e : IntKind.wrap .u64 (x.tdiv y) = (((v / w).toNat : Nat) : Int) := by
   have h3 := lt64 v
   have h4 := Nat.div_le_self v.toNat w.toNat
   have e0 : ((v.toNat : Nat) : Int).tdiv ((w.toNat : Nat) : Int) = ((v.toNat / w.toNat : Nat) : Int) := (Int.ofNat_tdiv _ _).symm
   rw [h.eq, k.eq, UInt64.toNat_div, e0, wrap_u64']
   generalize v.toNat / w.toNat = q at h4
   omega
  rw [e]; exact h2⟩⟩
instance (priority := 1100) rem64 [h : U64Of x v] [k : U64Of y w] : Stp (Do (aBin P .rem t (.val (.int .u64 x)) (.val (.int .u64 y))) K) (Need (0 < w.toNat) (K (W64 (v % w)))) :=
 ⟨fun ⟨h1, h2⟩ => ⟨_, (r_rem (by rw [k.eq]; omega)).2 rfl, by
  have e : x.tmod y = (((v % w).toNat : Nat) : Int) := by
   rw [h.eq, k.eq, UInt64.toNat_mod, Int.ofNat_tmod]
  rw [e]; exact h2⟩⟩
instance conv64 [hd : KindIs P d .u64] [hs : KindIs P s kk] [h : NatOf x a] : Stp (Do (fun u => aConvN s d (.val (.int kk x)) u P) K) (K (W64 (UInt64.ofNat a))) :=
 ⟨fun hK => s_conv hd.h hs.h (by
  have e : IntKind.wrap .u64 x = (((UInt64.ofNat a).toNat : Nat) : Int) := by rw [wrap_u64', h.eq, UInt64.toNat_ofNat']; omega
  rw [e]; exact hK)⟩
instance (priority := 90) convi64 [hd : KindIs P d .u64] [hs : KindIs P s kk] : Stp (Do (fun u => aConvN s d (.val (.int kk x)) u P) K) (Need (0 ≤ x) (K (W64 (UInt64.ofNat x.toNat)))) :=
 ⟨fun ⟨h1, hK⟩ => s_conv hd.h hs.h (by
  have e : IntKind.wrap .u64 x = (((UInt64.ofNat x.toNat).toNat : Nat) : Int) := by rw [wrap_u64', UInt64.toNat_ofNat']; omega
  rw [e]; exact hK)⟩
end w64
instance (priority := 1200) : NatOf (((3 : UInt64).toNat : Nat) : Int) 3 := ⟨rfl⟩
instance (priority := 1200) : NatOf (((7 : UInt64).toNat : Nat) : Int) 7 := ⟨rfl⟩
instance (priority := 1200) : NatOf (((8 : UInt64).toNat : Nat) : Int) 8 := ⟨rfl⟩
instance (priority := 1200) : NatOf (((10 : UInt64).toNat : Nat) : Int) 10 := ⟨rfl⟩
instance (priority := 1200) : NatOf (((16 : UInt64).toNat : Nat) : Int) 16 := ⟨rfl⟩
instance (priority := 1200) : NatOf (((24 : UInt64).toNat : Nat) : Int) 24 := ⟨rfl⟩
instance (priority := 1200) : NatOf (((128 : UInt64).toNat : Nat) : Int) 128 := ⟨rfl⟩
end Go.Ab

namespace Go.Ab
variable {P : Program}

class Cells (u : AV) (cs : outParam (List AV)) : Prop where
 eq : u.cells = cs
instance (v : Value) : Cells (.val v) [.val v] := ⟨rfl⟩
instance (sz : Nat) (l : List AV) (m : SM) : Cells (.lst sz l m) [.lst sz l m] := ⟨rfl⟩
instance (cs : List AV) : Cells (.rptr cs) [.rptr cs] := ⟨rfl⟩
instance (v : Value) (n : Nat) : Cells (.own v n) [.own v n] := ⟨rfl⟩
instance (f : Fn) (a b : List AV) : Cells (.fn f a b) [.fn f a b] := ⟨rfl⟩
instance (cs : List AV) : Cells (.agg cs) cs := ⟨rfl⟩
class One (c : AV) : Prop where
 one : c.one = true
instance (k : IntKind) (n : Int) : One (.val (.int k n)) := ⟨rfl⟩
instance (b : Bool) : One (.val (.bool b)) := ⟨rfl⟩
instance (b : ByteArray) : One (.val (.string b)) := ⟨rfl⟩
instance (a : Option Addr) (n c : Nat) : One (.val (.slice a n c)) := ⟨rfl⟩
instance (a : Option Addr) : One (.val (.pointer a)) := ⟨rfl⟩
instance (sz : Nat) (l : List AV) (m : SM) : One (.lst sz l m) := ⟨rfl⟩
instance (cs : List AV) : One (.rptr cs) := ⟨rfl⟩
instance (v : Value) (n : Nat) : One (.own v n) := ⟨rfl⟩
instance (f : Fn) (a b : List AV) : One (.fn f a b) := ⟨rfl⟩
class Ones (cs : List AV) : Prop where
 ones : ∀ c ∈ cs, c.one = true
instance : Ones [] := ⟨by simp⟩
instance (c : AV) (cs : List AV) [h : One c] [k : Ones cs] : Ones (c :: cs) := ⟨by
 intro x hx
 rcases List.mem_cons.1 hx with rfl | hx
 ·exact h.one
 ·exact k.ones x hx⟩
instance (a b : List AV) [h : Ones a] [k : Ones b] : Ones (a ++ b) := ⟨by
 intro x hx
 rcases List.mem_append.1 hx with hx | hx
 ·exact h.ones x hx
 ·exact k.ones x hx⟩
class Enc {α : Type} (f : α → AV) (sz : outParam Nat) : Prop where
 told : Told f sz
 pos : 0 < sz
 mke : ∀ a, mkE (f a).cells = f a
instance : Enc byt 1 := ⟨told_byt, by decide, fun _ => rfl⟩
instance (l : List UInt8) : Ones (l.map byt) := ⟨by
 intro c hc
 obtain ⟨b, _, rfl⟩ := List.mem_map.1 hc
 rfl⟩
class FoldC (zs : List AV) (out : outParam (List AV)) : Prop where
 eq : zs = out
instance (priority := 10) (zs : List AV) : FoldC zs zs := ⟨rfl⟩

class SlT (P : Program) (t : TypeId) : Prop where
 h : isSl P t = true
class StrT (P : Program) (t : TypeId) : Prop where
 h : P.underlying t = some .string

class IsL {α : Type} (a : AV) (f : α → AV) (sz : Nat) (l : outParam (List α)) (m : outParam SM) : Prop where
 sub : SubV a (.lst sz (l.map f) m)
instance {α : Type} (f : α → AV) (sz : Nat) (l : List α) (m : SM) : IsL (.lst sz (l.map f) m) f sz l m := ⟨SubV.refl _⟩
instance {α : Type} (f : α → AV) (sz : Nat) [hz : Enc f sz] : IsL (.val (.slice none 0 0)) f sz ([] : List α) .nil := ⟨SubV.nil sz hz.pos⟩

section lists
variable {α : Type} {f : α → AV} {sz : Nat} {l : List α} {L : List UInt8} {m : SM} {t : TypeId} {K : AV → Prop} {v : Value} {n a b c : Nat} {x y z : Int} {k k' k'' : IntKind}
instance lenL [h : SlT P t] : Stp (Do (aBuiltin P .len #[t] [.lst sz (l.map f) m]) K) (K (.val (.int .i64 ((l.length : Nat) : Int)))) := ⟨fun hK => s_lenm h.h hK⟩
instance lenO [h : SlT P t] : Stp (Do (aBuiltin P .len #[t] [.own v n]) K) (K (.val (.int .i64 ((n : Nat) : Int)))) := ⟨fun hK => s_len_own h.h hK⟩
instance lenS [h : StrT P t] : Stp (Do (aBuiltin P .len #[t] [.val (.string ⟨L.toArray⟩)]) K) (K (.val (.int .i64 ((L.length : Nat) : Int)))) := ⟨fun hK => s_len_S h.h hK⟩
instance ixS [h : NatOf x a] : Stp (Do (aIndex .string false 1 (.val (.string ⟨L.toArray⟩)) (.val (.int k x))) K) (Need (a < L.length) (K (W8 (L.getD a 0)))) :=
 ⟨fun ⟨h1, h2⟩ => s_index_S (by rw [h.eq]; omega) (by rw [h.eq]; omega) (by rw [h.eq, Int.toNat_natCast]; exact h2)⟩
instance slS1 [h : NatOf x a] : Stp (Do (aSlice .string 1 (.val (.string ⟨L.toArray⟩)) (some (.val (.int k x))) none none) K) (Need (a ≤ L.length) (K (S (L.drop a)))) :=
 ⟨fun ⟨h1, h2⟩ => s_slice_S1 (by rw [h.eq]; omega) (by rw [h.eq]; omega) (by rw [h.eq, Int.toNat_natCast]; exact h2)⟩
instance slS2 [h : NatOf y b] : Stp (Do (aSlice .string 1 (.val (.string ⟨L.toArray⟩)) none (some (.val (.int k' y))) none) K) (Need (b ≤ L.length) (K (S (L.take b)))) :=
 ⟨fun ⟨h1, h2⟩ => s_slice_S2 (by rw [h.eq]; omega) (by rw [h.eq]; omega) (by rw [h.eq, Int.toNat_natCast]; exact h2)⟩
instance slL1 [h : NatOf x a] : Stp (Do (aSlice .slice sz (.lst sz (l.map f) m) (some (.val (.int k x))) none none) K) (Need (a ≤ l.length) (K (.lst sz ((l.drop a).map f) .ro))) :=
 ⟨fun ⟨h1, h2⟩ => s_slm1 (by rw [h.eq]; omega) (by rw [h.eq]; omega) (by rw [h.eq, Int.toNat_natCast]; exact h2)⟩
instance slL2 [h : NatOf y b] : Stp (Do (aSlice .slice sz (.lst sz (l.map f) m) none (some (.val (.int k' y))) none) K) (Need (b ≤ l.length) (K (.lst sz ((l.take b).map f) .ro))) :=
 ⟨fun ⟨h1, h2⟩ => s_slm2 (by rw [h.eq]; omega) (by rw [h.eq]; omega) (by rw [h.eq, Int.toNat_natCast]; exact h2)⟩
instance (priority := 1100) slLf : Stp (Do (aSlice .slice sz (.lst sz (l.map f) m) none (some (.val (.int k ((l.length : Nat) : Int)))) (some (.val (.int k' ((l.length : Nat) : Int))))) K) (K (.lst sz (l.map f) .full)) := ⟨fun hK => s_slmf hK⟩
instance ixL_ [Inhabited α] {cs : List AV} [h : NatOf x a] [hc : Cells (f (l.getD a default)) cs] : Stp (Do (aIndexAddr .slice sz (.lst sz (l.map f) m) (.val (.int k x))) K) (Need (a < l.length) (K (.rptr cs))) :=
 ⟨fun ⟨h1, h2⟩ => s_ixm (by rw [h.eq]; omega) (by rw [h.eq]; omega) (by rw [h.eq, Int.toNat_natCast, hc.eq]; exact h2)⟩
instance ixO [h : NatOf x a] : Stp (Do (aIndexAddr .slice sz (.own v n) (.val (.int k x))) K) (Need (a < n) (K (.eptr v sz a 0))) :=
 ⟨fun ⟨h1, h2⟩ => s_ixo (by rw [h.eq]; omega) (by rw [h.eq]; omega) (by rw [h.eq, Int.toNat_natCast]; exact h2)⟩
instance nilR {cs : List AV} : Stp (Do (aNil (.rptr cs)) K) (K (.rptr cs)) := ⟨fun hK => ⟨_, rfl, hK⟩⟩
instance nilP {p : Addr} : Stp (Do (aNil (.val (.pointer (some p)))) K) (K (.val (.pointer (some p)))) := ⟨fun hK => ⟨_, rfl, hK⟩⟩
instance ext0 {u : AV} {us : List AV} : Stp (Do (aExt (.tuple (u :: us)) 0) K) (K u) := ⟨fun hK => s_ext0 hK⟩
instance ext1 {a u : AV} {us : List AV} : Stp (Do (aExt (.tuple (a :: u :: us)) 1) K) (K u) := ⟨fun hK => s_ext1 hK⟩
instance ext2 {a b u : AV} {us : List AV} : Stp (Do (aExt (.tuple (a :: b :: u :: us)) 2) K) (K u) := ⟨fun hK => s_ext2 hK⟩
instance convBS {z : Nat} : Stp (Do (aConvBS (.lst z (L.map byt) m)) K) (K (S L)) := ⟨fun hK => s_convBS hK⟩
end lists

section texts
variable {a b : List UInt8} {t : TypeId} {K : AV → Prop}
instance sEql : Stp (Do (aBin P .eql t (.val (.string ⟨a.toArray⟩)) (.val (.string ⟨b.toArray⟩))) K) (K (.val (.bool (decide (a = b))))) := ⟨fun h => s_s_eql h⟩
instance sNeq : Stp (Do (aBin P .neq t (.val (.string ⟨a.toArray⟩)) (.val (.string ⟨b.toArray⟩))) K) (K (.val (.bool (decide (¬ a = b))))) := ⟨fun h => s_s_neq h⟩
instance sLss : Stp (Do (aBin P .lss t (.val (.string ⟨a.toArray⟩)) (.val (.string ⟨b.toArray⟩))) K) (K (.val (.bool (Op.bytesLess a b)))) := ⟨fun h => s_s_lss h⟩
instance sGeq : Stp (Do (aBin P .geq t (.val (.string ⟨a.toArray⟩)) (.val (.string ⟨b.toArray⟩))) K) (K (.val (.bool (!Op.bytesLess a b)))) := ⟨fun h => s_s_geq h⟩
instance sLeq : Stp (Do (aBin P .leq t (.val (.string ⟨a.toArray⟩)) (.val (.string ⟨b.toArray⟩))) K) (K (.val (.bool (Op.bytesLess a b || decide (a = b))))) := ⟨fun h => s_s_leq h⟩
instance sGtr : Stp (Do (aBin P .gtr t (.val (.string ⟨a.toArray⟩)) (.val (.string ⟨b.toArray⟩))) K) (K (.val (.bool (!(Op.bytesLess a b || decide (a = b)))))) := ⟨fun h => s_s_gtr h⟩
instance sAdd : Stp (Do (aBin P .add t (.val (.string ⟨a.toArray⟩)) (.val (.string ⟨b.toArray⟩))) K) (Need (a.length + b.length ≤ 9223372036854775807) (K (S (a ++ b)))) := ⟨fun ⟨h, hK⟩ => s_s_add h hK⟩
end texts

class Part (cs : List AV) (off s : Nat) (out : outParam (List AV)) : Prop where
 eq : (cs.drop off).take s = out
 le : off + s ≤ cs.length
 pos : 0 < s
instance part0 (c : AV) (cs : List AV) : Part (c :: cs) 0 1 [c] := ⟨rfl, by simp, by decide⟩
instance partS (c : AV) (cs out : List AV) (n : Nat) [h : Part cs n 1 out] : Part (c :: cs) (n + 1) 1 out := ⟨by simpa using h.eq, by have := h.le; simp only [List.length_cons]; omega, by decide⟩
class MkV (ag : Bool) (s : Nat) (cs : List AV) (u : outParam AV) : Prop where
 eq : mkV ag cs = u
 one : ag = false → s = 1
instance mkV0 (c : AV) : MkV false 1 [c] c := ⟨rfl, fun _ => rfl⟩
instance (priority := 10) mkV1 (s : Nat) (cs : List AV) : MkV true s cs (.agg cs) := ⟨rfl, fun h => by cases h⟩
class IsAgg (x : AV) (cs : outParam (List AV)) : Prop where
 eq : x = .agg cs
class LenC (cs : List AV) (n : outParam Nat) : Prop where
 eq : cs.length = n
instance : LenC [] 0 := ⟨rfl⟩
instance (c : AV) (cs : List AV) (n : Nat) [h : LenC cs n] : LenC (c :: cs) (n + 1) := ⟨by simp [h.eq]⟩
class Splice (cs : List AV) (off : Nat) (new : List AV) (out : outParam (List AV)) : Prop where
 eq : splice cs off new = out
 le : off + new.length ≤ cs.length
instance splice0 (c d : AV) (cs : List AV) : Splice (c :: cs) 0 [d] (d :: cs) := ⟨rfl, by simp⟩
instance spliceS (c d : AV) (cs out : List AV) (n : Nat) [h : Splice cs n [d] out] : Splice (c :: cs) (n + 1) [d] (c :: out) := ⟨by
 rw [← h.eq]; simp [splice, Nat.add_right_comm], by have := h.le; simp only [List.length_cons, List.length_nil] at this ⊢; omega⟩

abbrev ptrAt (b off : Nat) : AV := .val (.pointer (some ⟨b, off, none⟩))
class VarAt (b : Nat) (σ : Store) (t : outParam TypeId) (cs : outParam (List AV)) (put : outParam (Ent → Store)) (rest : outParam Store) : Prop where
 at_ : ∃ σ1 σ2, σ = σ1 ++ .var b t cs :: σ2 ∧ (∀ x, put x = σ1 ++ x :: σ2) ∧ rest = σ1 ++ σ2
instance varHead (b : Nat) (t : TypeId) (cs : List AV) (σ : Store) : VarAt b (.var b t cs :: σ) t cs (fun x => x :: σ) σ := ⟨[], σ, rfl, fun _ => rfl, rfl⟩
instance (priority := 90) varTail (b : Nat) (t : TypeId) (cs : List AV) (σ rest : Store) (put : Ent → Store) (e : Ent) [h : VarAt b σ t cs put rest] : VarAt b (e :: σ) t cs (fun x => e :: put x) (e :: rest) := ⟨by
 obtain ⟨σ1, σ2, h1, h2, h3⟩ := h.at_
 exact ⟨e :: σ1, σ2, by rw [h1]; rfl, fun x => by rw [h2]; rfl, by rw [h3]; rfl⟩⟩
instance (priority := 80) varR (b : Nat) (t : TypeId) (cs : List AV) (σ τ rest : Store) (put : Ent → Store) [h : VarAt b τ t cs put rest] : VarAt b (σ ++ τ) t cs (fun x => σ ++ put x) (σ ++ rest) := ⟨by
 obtain ⟨σ1, σ2, h1, h2, h3⟩ := h.at_
 exact ⟨σ ++ σ1, σ2, by rw [h1]; simp, fun x => by rw [h2]; simp, by rw [h3]; simp⟩⟩
class RowAt (v : Value) (σ : Store) (E : outParam TypeId) (sz : outParam Nat) (l : outParam (List AV)) (fl : outParam Nat) (put : outParam (Ent → Store)) (rest : outParam Store) : Prop where
 at_ : ∃ σ1 σ2, σ = σ1 ++ .row v E sz l fl :: σ2 ∧ (∀ x, put x = σ1 ++ x :: σ2) ∧ rest = σ1 ++ σ2
instance rowHead (v : Value) (E : TypeId) (sz : Nat) (l : List AV) (fl : Nat) (σ : Store) : RowAt v (.row v E sz l fl :: σ) E sz l fl (fun x => x :: σ) σ := ⟨[], σ, rfl, fun _ => rfl, rfl⟩
instance (priority := 90) rowTail (v : Value) (E : TypeId) (sz : Nat) (l : List AV) (fl : Nat) (σ rest : Store) (put : Ent → Store) (e : Ent) [h : RowAt v σ E sz l fl put rest] : RowAt v (e :: σ) E sz l fl (fun x => e :: put x) (e :: rest) := ⟨by
 obtain ⟨σ1, σ2, h1, h2, h3⟩ := h.at_
 exact ⟨e :: σ1, σ2, by rw [h1]; rfl, fun x => by rw [h2]; rfl, by rw [h3]; rfl⟩⟩
instance (priority := 80) rowR (v : Value) (E : TypeId) (sz : Nat) (l : List AV) (fl : Nat) (σ τ rest : Store) (put : Ent → Store) [h : RowAt v τ E sz l fl put rest] : RowAt v (σ ++ τ) E sz l fl (fun x => σ ++ put x) (σ ++ rest) := ⟨by
 obtain ⟨σ1, σ2, h1, h2, h3⟩ := h.at_
 exact ⟨σ ++ σ1, σ2, by rw [h1]; simp, fun x => by rw [h2]; simp, by rw [h3]; simp⟩⟩

section mem
variable {α : Type} {f : α → AV} {sz s off o : Nat} {l ys : List α} {ag : Bool} {b n m : Nat} {t E : TypeId} {cs ds xs zs out : List AV} {σ rest : Store} {put : Ent → Store} {K : AV → Prop} {k : AV → Store → Prop} {u x : AV} {v : Value} {i j fl by_ : Nat}
instance ldR [h : Part cs 0 s out] [h1 : MkV ag s out u] : Stp (Do (loadA ag s (.rptr cs) σ) K) (K u) :=
 ⟨fun hK => ⟨u, ⟨h.pos, h1.one, by have := h.le; omega, by rw [← h1.eq, ← h.eq]; rfl⟩, hK⟩⟩
instance ldV [hv : VarAt b σ t cs put rest] [h : Part cs off s out] [h1 : MkV ag s out u] : Stp (Do (loadA ag s (ptrAt b off) σ) K) (K u) :=
 ⟨fun hK => by
  obtain ⟨σ1, σ2, e, _⟩ := hv.at_
  exact ⟨u, ⟨h.pos, h1.one, rfl, t, cs, by rw [e]; simp, h.le, by rw [← h1.eq, ← h.eq]⟩, hK⟩⟩
instance ldE [Inhabited α] [hv : RowAt v σ E sz (l.map f) fl put rest] [he : Enc f sz] [hc : Cells (f (l.getD i default)) cs] [h : Part cs j s out] [h1 : MkV ag s out u] : Stp (Do (loadA ag s (.eptr v sz i j) σ) K) (Need (i < l.length) (K u)) :=
 ⟨fun ⟨hi, hK⟩ => by
  obtain ⟨σ1, σ2, e, _⟩ := hv.at_
  refine ⟨u, ⟨h.pos, h1.one, E, l.map f, fl, by rw [e]; simp, by simpa using hi, ?_, ?_⟩, hK⟩
  ·have := h.le
   rw [← hc.eq, (he.told _).1] at this
   exact this
  ·rw [getD_map default hi, hc.eq, ← h1.eq, ← h.eq]⟩
instance faR [h : Part cs off s out] : Stp (Do (aFieldAddr off s (.rptr cs)) K) (K (.rptr out)) := ⟨fun hK => ⟨_, ⟨h.pos, h.le, rfl⟩, by rw [h.eq]; exact hK⟩⟩
class Pos (s : Nat) : Prop where
 pos : 0 < s
instance (n : Nat) : Pos (n + 1) := ⟨Nat.succ_pos n⟩
instance (priority := 1100) faP0 [h : Pos s] : Stp (Do (aFieldAddr off s (ptrAt b 0)) K) (K (ptrAt b off)) := ⟨fun hK => ⟨_, ⟨h.pos, rfl⟩, by
 have e : (⟨b, 0, none⟩ : Addr).add off = ⟨b, off, none⟩ := by rw [addr_lit_add, Nat.zero_add]
 rw [e]; exact hK⟩⟩
instance (priority := 1100) faE0 [h : Pos s] : Stp (Do (aFieldAddr off s (.eptr v sz i 0)) K) (K (.eptr v sz i off)) := ⟨fun hK => ⟨_, ⟨h.pos, rfl⟩, by rw [Nat.zero_add]; exact hK⟩⟩
instance fld [h0 : IsAgg x cs] [h : Part cs off s out] [h1 : MkV ag s out u] : Stp (Do (aField off ag s x) K) (K u) :=
 ⟨fun hK => ⟨u, by rw [h0.eq]; exact ⟨h.le, h1.one, by rw [← h1.eq, ← h.eq]⟩, hK⟩⟩
instance frz [hc : Cells x cs] [ho : Ones cs] : Stp (Do (aFreeze (AV.cells x)) K) (K (.rptr cs)) := ⟨fun hK => ⟨_, ⟨by rw [hc.eq]; exact ho.ones, rfl⟩, by rw [hc.eq]; exact hK⟩⟩
instance newC [hc : Cells x cs] [ho : Ones cs] : Stp (aNewVar t (AV.cells x) σ k) (All fun b => k (ptrAt b 0) (.var b t cs :: σ)) := ⟨fun hK => ⟨by rw [hc.eq]; exact ho.ones, fun b _ => by rw [hc.eq]; exact hK b⟩⟩
instance (priority := 90) newL [hc : FoldC cs out] [ho : Ones cs] : Stp (aNewVar t cs σ k) (All fun b => k (ptrAt b 0) (.var b t out :: σ)) := ⟨fun hK => ⟨ho.ones, fun b _ => by
 have := hK b
 rw [← hc.eq] at this
 exact this⟩⟩
instance stV [hc : Cells x xs] [hl : LenC xs s] [ho : Ones xs] [hv : VarAt b σ t cs put rest] [hp : Splice cs off xs out] : Stp (storeA s (ptrAt b off) x σ k) (k .undef (put (.var b t out))) :=
 ⟨fun hK => by
  obtain ⟨σ1, σ2, e, e2, _⟩ := hv.at_
  refine ⟨by rw [hc.eq, hl.eq], by rw [hc.eq]; exact ho.ones, rfl, σ1, σ2, t, cs, e, ?_, ?_⟩
  ·have := hp.le
   rw [hl.eq] at this
   exact this
  ·rw [e2] at hK
   rw [hc.eq, hp.eq]
   exact hK⟩
class AsF {α : Type} (f : α → AV) (x : AV) (y : outParam α) : Prop where
 eq : x = f y
instance (priority := 10) asf (y : α) : AsF f (f y) y := ⟨rfl⟩
instance (n : Int) (w : UInt8) [h : U8Of n w] : AsF byt (.val (.int .u8 n)) w := ⟨by rw [h.eq]; rfl⟩
theorem map_set_enc [Inhabited α] (he : Enc f sz) {l : List α} {i : Nat} (hi : i < l.length) (y : α) {cs : List AV} (h : splice (f (l.getD i default)).cells j cs = (f y).cells) :
  (l.map f).set i (mkE (splice ((l.map f).getD i .undef).cells j cs)) = (l.set i y).map f := by
 rw [getD_map default hi, h, he.mke, List.map_set]
instance stE [Inhabited α] {y : α} [hv : RowAt v σ E sz (l.map f) fl put rest] [he : Enc f sz] [ha : AsF f x y] : Stp (storeA sz (.eptr v sz i 0) x σ k) (Need (fl ≤ i ∧ i < l.length) (k .undef (put (.row v E sz ((l.set i y).map f) fl)))) :=
 ⟨fun ⟨hi, hK⟩ => by
  obtain ⟨σ1, σ2, e, e2, _⟩ := hv.at_
  refine ⟨by rw [ha.eq, (he.told y).1], by rw [ha.eq]; exact (he.told y).2, σ1, σ2, E, _, fl, e, hi.1, by simpa using hi.2, by omega, by rw [getD_map default hi.2]; exact (he.told _).2, ?_⟩
  rw [e2] at hK
  rw [map_set_enc he hi.2 y (by rw [splice_all (by rw [ha.eq, (he.told _).1, (he.told _).1]), ha.eq])]
  exact hK⟩
class ElemF (zs : List AV) (α : outParam Type) (f : outParam (α → AV)) : Prop where
 some : True
instance : ElemF [.val (.int .u8 0)] UInt8 byt := ⟨trivial⟩
class Parts {α : Type} (f : α → AV) (parts : List (Nat × AV)) (i : Nat) (ys : outParam (List α)) : Prop where
 eq : parts = ((ys.map f).zipIdx i).map fun p => (p.2, p.1)
instance (i : Nat) : Parts f [] i [] := ⟨rfl⟩
instance (i : Nat) (x : AV) (y : α) (ys : List α) (ps : List (Nat × AV)) [h : AsF f x y] [h2 : Parts f ps (i + 1) ys] : Parts f ((i, x) :: ps) i (y :: ys) := ⟨by rw [h.eq, h2.eq]; rfl⟩
instance slLit {z : List AV} {parts : List (Nat × AV)} [hf : ElemF z α f] [he : Enc f sz] [hp : Parts f parts 0 ys] : Stp (Do (aSlLit (mkE z) sz n parts) K) (Fact ((mkE z).cells.length = sz ∧ ys.length = n) (K (.lst sz (ys.map f) .full))) :=
 ⟨fun ⟨h, hK⟩ => s_lit (ys.map f) h.1 (by simpa using h.2) hp.eq (told_len he.told ys) (by
  intro p hp c hc
  obtain ⟨y, _, rfl⟩ := List.mem_map.1 hp
  exact (he.told y).2 c hc) hK⟩
theorem flat_one (he : Enc f sz) (ys : List α) : ∀ c ∈ flat (ys.map f), c.one = true := by
 intro c hc
 obtain ⟨u, hu, hc⟩ := List.mem_flatMap.1 hc
 obtain ⟨y, _, rfl⟩ := List.mem_map.1 hu
 exact (he.told y).2 c hc
instance rowLit {z : List AV} {parts : List (Nat × AV)} [hf : ElemF z α f] [he : Enc f sz] [hp : Parts f parts 0 ys] : Stp (aRowL E (mkE z) sz n parts σ k) (Fact ((mkE z).cells.length = sz ∧ ys.length = n) (All fun v => k (.own v n) (.row v E sz (ys.map f) 0 :: σ))) :=
 ⟨fun ⟨h, hK⟩ => by
  refine ⟨?_, ys.map f, by simpa using h.2, told_len he.told ys, flat_one he ys, ?_, fun v _ => hK v⟩
  ·intro p hpm c hc
   rw [hp.eq] at hpm
   obtain ⟨q, hq, rfl⟩ := List.mem_map.1 hpm
   obtain ⟨h1, h2⟩ := List.mem_zipIdx hq |>.2
   have : q.1 ∈ ys.map f := by
    rw [h2]
    exact List.getElem_mem _
   obtain ⟨y, _, e⟩ := List.mem_map.1 this
   rw [← e] at hc
   exact (he.told y).2 c hc
  ·have := fillA_row sz (ys.map f) 0 [] ((List.replicate n (mkE z).cells).flatten) (told_len he.told ys) (by simp) (by simp [List.length_flatten, h.1, h.2])
   rw [hp.eq]
   simpa using this⟩

class SrcI (sz : Nat) (σ : Store) (x : AV) (α : outParam Type) (f : outParam (α → AV)) (ys : outParam (List α)) : Prop where
 src : Src f sz σ x ys
instance srcL [he : Enc f sz] {m : SM} : SrcI sz σ (.lst sz (ys.map f) m) α f ys := ⟨src_lst he.told⟩
instance srcS {ys : List UInt8} : SrcI 1 σ (.val (.string ⟨ys.toArray⟩)) UInt8 byt ys := ⟨src_S⟩
instance srcO [he : Enc f sz] [hr : RowAt v σ E sz (ys.map f) fl put rest] : SrcI sz σ (.own v n) α f ys := ⟨src_own (n := n) (E := E) (fl := fl) he.told (by
 obtain ⟨σ1, σ2, e, _⟩ := hr.at_
 rw [e]; simp)⟩
instance appO [hr : RowAt v σ E sz (l.map f) fl put rest] [hs : SrcI sz σ x α f ys] : Stp (aAppend E sz by_ (.own v n) x σ (subK k))
  (Need ((l.length + ys.length) * by_ ≤ 140737488355328 ∧ l.length + ys.length ≤ 9223372036854775807) (All fun v' => k (.own v' (l ++ ys).length) (put (.row v' E sz ((l ++ ys).map f) fl)))) :=
 ⟨fun ⟨h, hK⟩ => by
  obtain ⟨σ1, σ2, e, e2, _⟩ := hr.at_
  have hs' := hs.src
  subst e
  exact s_app_own hs' h.1 h.2 fun v' => s_keep (by rw [← e2]; exact hK v')⟩
instance appF [hs : SrcI sz σ x α f ys] : Stp (aAppend E sz by_ (.lst sz (l.map f) .full) x σ (subK k))
  (Need (0 < ys.length ∧ (l.length + ys.length) * by_ ≤ 140737488355328 ∧ l.length + ys.length ≤ 9223372036854775807) (All fun v' => k (.own v' (l ++ ys).length) (.row v' E sz ((l ++ ys).map f) 0 :: σ))) :=
 ⟨fun ⟨h, hK⟩ => s_app_full hs.src (by intro e; rw [e] at h; simp at h) h.2.1 h.2.2 fun v' => s_keep (hK v')⟩
class ZeroE (zs : List Value) (α : outParam Type) (f : outParam (α → AV)) (z : outParam α) : Prop where
 eq : mkE (zs.map .val) = f z
 one : ∀ v ∈ zs, v.oneCell' = true
instance : ZeroE [.int .u8 0] UInt8 byt 0 := ⟨rfl, by simp [Value.oneCell']⟩
instance mkS {zs : List Value} {x y : Int} {kk kk' : IntKind} {z : α} {f : α → AV} [hz : ZeroE zs α f z] [h : NatOf x n] [h' : NatOf y m] : Stp (aMake E zs s by_ (.val (.int kk x)) (.val (.int kk' y)) σ (subK k))
  (Need (n ≤ m ∧ by_ * m ≤ 281474976710656 ∧ m ≤ 9223372036854775807) (All fun v => k (.own v n) (.row v E s ((List.replicate n z).map f) 0 :: σ))) :=
 ⟨fun ⟨h1, hK⟩ => by
  have e1 := h.eq
  have e2 := h'.eq
  subst e1; subst e2
  refine ⟨by omega, by omega, ?_, by omega, hz.one, fun v => s_keep ?_⟩
  ·have := Int.ofNat_le.2 h1.2.1
   rw [Int.natCast_mul] at this
   exact this
  ·have := hK v
   rw [Int.toNat_natCast, hz.eq, ← List.map_replicate]
   exact this⟩
end mem
end Go.Ab

namespace Go.Ab
variable {P : Program}

class Give (σ : Store) (us : List AV) (σ' : outParam Store) (us' : outParam (List AV)) : Prop where
 sub : Sub σ us σ' us'
instance giveNil (σ : Store) : Give σ [] σ [] := ⟨Sub.refl _ _⟩
theorem Sub.cons_same {σ σ' : Store} {us us' : List AV} (u : AV) (h : Sub σ us σ' us') : Sub σ (u :: us) σ' (u :: us') := by
 intro R w vs hv hs
 obtain ⟨hl, hr⟩ := hv
 match vs, hl with
 | v :: vs, hl =>
  have h0 : VR R v u := hr 0 u v rfl rfl
  have hv' : VRs R vs us := ⟨by simpa using hl, fun j x y hx hy => hr (j + 1) x y (by simpa using hx) (by simpa using hy)⟩
  obtain ⟨R', h1, h2, h3⟩ := h R w vs hv' hs
  exact ⟨R', VRs.cons (h0.mono h3.ro) h1, h2, h3⟩
instance (priority := 50) giveKeep (σ σ' : Store) (u : AV) (us us' : List AV) [h : Give σ us σ' us'] : Give σ (u :: us) σ' (u :: us') := ⟨Sub.cons_same u h.sub⟩
theorem Sub.cons_own {σ1 σ2 σ' : Store} {v : Value} {E : TypeId} {sz fl n : Nat} {l us us' : List AV} (h : Sub (σ1 ++ σ2) us σ' us') : Sub (σ1 ++ .row v E sz l fl :: σ2) (.own v n :: us) σ' (.lst sz l .ro :: us') := by
 refine Sub.trans (Sub.freeze (σ1 := σ1) (σ2 := σ2) (args' := .lst sz l .ro :: us) ⟨.inr ⟨⟨n, rfl⟩, rfl⟩, Frzs.refl _ _ _⟩) (Sub.cons_same _ h)
instance giveOwn (σ rest σ' : Store) (v : Value) (n : Nat) (E : TypeId) (sz : Nat) (l : List AV) (fl : Nat) (put : Ent → Store) (us us' : List AV) [hr : RowAt v σ E sz l fl put rest] [h : Give rest us σ' us'] : Give σ (.own v n :: us) σ' (.lst sz l .ro :: us') := ⟨by
 obtain ⟨σ1, σ2, e, _, e3⟩ := hr.at_
 subst e; have := h.sub; rw [e3] at this
 exact Sub.cons_own this⟩

class PC (P : Program) (f : FuncId) (args : List AV) (pre : outParam Prop) (u : outParam AV) : Prop where
 ct : pre → ∃ args1, SubVs args args1 ∧ aPure P f args1 u
theorem PC.of {f : FuncId} {args : List AV} {u : AV} (h : aPure P f args u) : ∃ args1, SubVs args args1 ∧ aPure P f args1 u := ⟨args, SubVs.refl _, h⟩
section calls
variable {f : FuncId} {args args' a b : List AV} {pre : Prop} {u : AV} {K : AV → Prop} {σ σ' : Store} {k kp : AV → Store → Prop}
instance pcall [h : PC P f args pre u] : Stp (Do (aPureC P f args) K) (Need pre (K u)) := ⟨fun ⟨h1, h2⟩ => ⟨u, .inl (h.ct h1), h2⟩⟩
instance ecallV {g : FuncId} : Stp (aCallV P (.val (.func (.func g) #[] #[])) args σ k kp) (aCall P g args σ k kp) := ⟨fun h => by
 have e : ([] ++ args ++ [] : List AV) = args := by simp
 unfold aCallV calleeOf
 simp only [List.toList_toArray, List.map_nil, e]
 simpa using h⟩
instance ecallF {g : FuncId} : Stp (aCallV P (.fn (.func g) a b) args σ k kp) (aCall P g (a ++ args ++ b) σ k kp) := ⟨fun h => h⟩

class Ground (u : AV) : Prop where
 g : ∀ R R' v, VR R v u → VR R' v u
class Grounds (us : List AV) : Prop where
 g : ∀ u ∈ us, Ground u
class EC (P : Program) (f : FuncId) (args : List AV) (σ : Store) (pre : outParam Prop) (β : outParam Type) (r : outParam (β → AV)) (s : outParam (β → Store)) : Prop where
 ct : pre → ACalls P f args σ fun x σ' => ∃ y, x = .ret (r y) ∧ σ' = s y
instance (priority := 100) ecallP [h : PC P f args pre u] : Stp (aCall P f args σ k kp) (Need pre (k u σ)) := ⟨fun ⟨h1, h2⟩ => by
 obtain ⟨args1, hs, hp⟩ := h.ct h1
 refine Or.inl ⟨σ, args1, Sub.vals hs, ?_⟩
 have hf := hp.frame σ
 exact hf.mono fun x τ ⟨σ1, e1, _, e2, e3⟩ => by
  rw [e2, e1, e3]
  exact h2⟩
instance (priority := 80) ecallG [hg : Give σ args σ' args'] [h : PC P f args' pre u] : Stp (aCall P f args σ k kp) (Need pre (k u σ')) := ⟨fun ⟨h1, h2⟩ => by
 obtain ⟨args1, hs, hp⟩ := h.ct h1
 refine Or.inl ⟨σ', args1, hg.sub.trans (Sub.vals hs), ?_⟩
 have hf := hp.frame σ'
 exact hf.mono fun x τ ⟨σ1, e1, _, e2, e3⟩ => by
  rw [e2, e1, e3]
  exact h2⟩
instance (priority := 110) ecallE {β : Type} {r : β → AV} {s : β → Store} [h : EC P f args σ pre β r s] : Stp (aCall P f args σ k kp) (Need pre (All fun y => k (r y) (s y))) := ⟨fun ⟨h1, h2⟩ =>
 Or.inl ⟨σ, args, Sub.refl _ _, (h.ct h1).mono fun x τ ⟨y, e1, e2⟩ => by rw [e1, e2]; exact h2 y⟩⟩
instance (priority := 70) ecallEG {β : Type} {r : β → AV} {s : β → Store} [hg : Give σ args σ' args'] [h : EC P f args' σ' pre β r s] : Stp (aCall P f args σ k kp) (Need pre (All fun y => k (r y) (s y))) := ⟨fun ⟨h1, h2⟩ =>
 Or.inl ⟨σ', args', hg.sub, (h.ct h1).mono fun x τ ⟨y, e1, e2⟩ => by rw [e1, e2]; exact h2 y⟩⟩
class EQ (P : Program) (f : FuncId) (args : List AV) (σ : Store) (pre : outParam Prop) (β : outParam Type) (c : outParam (β → Prop)) (r : outParam (β → AV)) (s : outParam (β → Store)) : Prop where
 ct : pre → ACalls P f args σ fun x σ' => ∃ y, c y ∧ x = .ret (r y) ∧ σ' = s y
instance (priority := 120) ecallQ {β : Type} {c : β → Prop} {r : β → AV} {s : β → Store} [h : EQ P f args σ pre β c r s] : Stp (aCall P f args σ k kp) (Need pre (All fun y => Imp (c y) (k (r y) (s y)))) := ⟨fun ⟨h1, h2⟩ =>
 Or.inl ⟨σ, args, Sub.refl _ _, (h.ct h1).mono fun x τ ⟨y, e0, e1, e2⟩ => by rw [e1, e2]; exact h2 y e0⟩⟩
theorem ACalls.subV {Q : AEnd → Store → Prop} (h : ACalls P f args' σ Q) (hs : SubVs args args') : ACalls P f args σ Q := ⟨h.1, fun R w vs hv hst => h.2 R w vs (hs.rel hv) hst⟩
instance panic_ {t : TypeId} : Stp (aPanic (.ifc t u) σ kp) (kp (.ifc t u) σ) := ⟨fun h => ⟨⟨t, u, rfl⟩, h⟩⟩
end calls
end Go.Ab

namespace Go.Ab
variable {P : Program}
def GEff (g : AV) (want : Bool) (A B : Prop) : Prop := ∃ t, wantedA g want = some t ∧ if t = true then A else B
def Both (A B : Prop) : Prop := A ∧ B
theorem both {A B : Prop} (a : A) (b : B) : Both A B := ⟨a, b⟩
section geff
variable {φ : Prop} [Decidable φ] {A B' : Prop} {c : Bool}
instance (priority := 1100) geD : Stp (GEff (.val (.bool (decide φ))) true A B') (Cho φ A B') := ⟨fun h => by
 by_cases e : φ
 ·exact ⟨true, by rw [decide_eq_true e]; rfl, by simpa using h.1 e⟩
 ·exact ⟨false, by rw [decide_eq_false e]; rfl, by simpa using h.2 e⟩⟩
instance (priority := 1100) geD' : Stp (GEff (.val (.bool (decide φ))) false A B') (Cho φ B' A) := ⟨fun h => by
 by_cases e : φ
 ·exact ⟨false, by rw [decide_eq_true e]; rfl, by simpa using h.1 e⟩
 ·exact ⟨true, by rw [decide_eq_false e]; rfl, by simpa using h.2 e⟩⟩
end geff

class EnT (P : Program) (t : TypeId) : Prop where
 h : enType P t = true
section en
variable {e f o : En} {x y : List UInt8} {d : Bool} {q : Int} {t : TypeId} {K : AV → Prop}
instance : Enc En.av 4 := ⟨told_En, by decide, fun _ => rfl⟩
instance : Cells (En.av e) (En.cs e) := ⟨rfl⟩
instance : Ones (En.cs e) := ⟨(told_En e).2⟩
instance : IsAgg (En.av e) (En.cs e) := ⟨rfl⟩
instance : LenC (En.cs e) 4 := ⟨rfl⟩
instance : Part (En.cs e) 0 1 [S e.key] := ⟨rfl, Nat.le_of_ble_eq_true rfl, by decide⟩
instance : Part (En.cs e) 1 1 [S e.val] := ⟨rfl, Nat.le_of_ble_eq_true rfl, by decide⟩
instance : Part (En.cs e) 2 1 [B e.del] := ⟨rfl, Nat.le_of_ble_eq_true rfl, by decide⟩
instance : Part (En.cs e) 3 1 [I .i64 e.seq] := ⟨rfl, Nat.le_of_ble_eq_true rfl, by decide⟩
instance : Part (En.cs e) 0 4 (En.cs e) := ⟨rfl, Nat.le_of_ble_eq_true rfl, by decide⟩
instance : MkV true 4 (En.cs e) (En.av e) := ⟨rfl, fun h => by cases h⟩
instance : FoldC [.val (.string ⟨#[]⟩), .val (.string ⟨#[]⟩), .val (.bool false), .val (.int .i64 0)] (En.cs En.zero) := ⟨rfl⟩
instance : ElemF [.val (.string ⟨#[]⟩), .val (.string ⟨#[]⟩), .val (.bool false), .val (.int .i64 0)] En En.av := ⟨trivial⟩
instance : ZeroE [.string ⟨#[]⟩, .string ⟨#[]⟩, .bool false, .int .i64 0] En En.av En.zero := ⟨rfl, by simp [Value.oneCell']⟩
instance : Splice (En.cs e) 0 [S x] (En.cs ⟨x, e.val, e.del, e.seq⟩) := ⟨rfl, Nat.le_of_ble_eq_true rfl⟩
instance : Splice (En.cs e) 0 (En.cs f) (En.cs f) := ⟨rfl, Nat.le_of_ble_eq_true rfl⟩
class FillEn (parts : List (Nat × AV)) (k v : List UInt8) (d : Bool) (q : Int) (o : outParam En) : Prop where
 one : partsOne parts
 eq : fillA ([(0, 1), (1, 1), (2, 1), (3, 1)][·]?) (En.cs ⟨k, v, d, q⟩) parts = some o.cs
theorem FillEn.cons {ps : List (Nat × AV)} {i : Nat} {u : AV} {k v k' v' : List UInt8} {d d' : Bool} {q q' : Int} (h : FillEn ps k' v' d' q' o) (h1 : u.cells.length = 1) (h2 : ∀ c ∈ u.cells, c.one = true) (hi : i < 4) (h3 : splice (En.cs ⟨k, v, d, q⟩) i u.cells = En.cs ⟨k', v', d', q'⟩) : FillEn ((i, u) :: ps) k v d q o := ⟨fun p hp c hc => by
  rcases List.mem_cons.1 hp with rfl | hp
  ·exact h2 c hc
  ·exact h.one p hp c hc, by
  have e1 : ([(0, 1), (1, 1), (2, 1), (3, 1)] : List (Nat × Nat))[i]? = some (i, 1) := by
   match i, hi with
   | 0, _ => rfl
   | 1, _ => rfl
   | 2, _ => rfl
   | 3, _ => rfl
  simp only [fillA, e1, h1]
  rw [if_pos ⟨trivial, by show i + 1 ≤ 4; omega⟩, h3]
  exact h.eq⟩
section fill
variable {k v : List UInt8} {ps : List (Nat × AV)}
instance : FillEn [] k v d q ⟨k, v, d, q⟩ := ⟨fun p hp => by simp at hp, rfl⟩
instance [h : FillEn ps x v d q o] : FillEn ((0, S x) :: ps) k v d q o := h.cons rfl (by simp [AV.cells, AV.one, Value.oneCell']) (by decide) rfl
instance {n : Int} [h : FillEn ps k v d n o] : FillEn ((3, I .i64 n) :: ps) k v d q o := h.cons rfl (by simp [AV.cells, AV.one, Value.oneCell']) (by decide) rfl
instance litEn {parts : List (Nat × AV)} [h : FillEn parts [] [] false 0 o] : Stp (Do (aLit [.val (.string ⟨#[]⟩), .val (.string ⟨#[]⟩), .val (.bool false), .val (.int .i64 0)] [(0, 1), (1, 1), (2, 1), (3, 1)] parts) K) (K o.av) := ⟨fun hK => ⟨_, ⟨h.one, _, h.eq, rfl⟩, hK⟩⟩
instance (priority := 1100) : Part (En.cs ⟨k, v, d, q⟩) 1 1 [S v] := ⟨rfl, Nat.le_of_ble_eq_true rfl, by decide⟩
instance (priority := 1100) : Splice (En.cs ⟨k, v, d, q⟩) 1 [S x] (En.cs ⟨k, x, d, q⟩) := ⟨rfl, Nat.le_of_ble_eq_true rfl⟩
end fill
instance neEn [h : EnT P t] : Stp (Do (aBin P .neq t e.av f.av) K) (K (.val (.bool (decide (¬ e = f))))) := ⟨fun hK => s_neqEn h.h hK⟩
end en
end Go.Ab

namespace Go.Ab
variable {P : Program}

def aHook (X : (AV → Store → Prop) → Prop) (k : AV → Store → Prop) : Prop := ∃ post, X post ∧ ∀ u σ', post u σ' → k u σ'
def eMakeMap (σ : Store) (post : AV → Store → Prop) : Prop := post = postMake σ
def eMapUpd (P : Program) (t : TypeId) (m k v : AV) (σ : Store) (post : AV → Store → Prop) : Prop := match m, k with
  | .val (.map (some b)), .val kv => ∃ d z l clock σ1 σ2, mapOf P t = some (d, z) ∧ MapKept.IsKey d kv ∧ σ = σ1 ++ .map b l clock :: σ2 ∧ (∀ x ∈ l, MapKept.IsKey d x.2.1) ∧
    post = fun u σ' => u = .undef ∧ σ' = σ1 ++ .map b (setM kv v clock l) (bif l.any (fun x => keyb kv x.2.1) then clock else clock + 1) :: σ2
  | _, _ => False
def eRange (P : Program) (t : TypeId) (m : AV) (σ : Store) (post : AV → Store → Prop) : Prop := match m with
  | .val (.map (some mb)) => ∃ l clock, isMapT P t = true ∧ Ent.map mb l clock ∈ σ ∧ post = postRange σ mb clock
  | _ => False
def eNext (it : AV) (σ : Store) (post : AV → Store → Prop) : Prop := match it with
  | .val (.pointer (some a)) => a.spot = none ∧ a.off = 0 ∧ ∃ σ1 σ2 mb clock seen l, σ = σ1 ++ .iter a.block mb clock seen clock :: σ2 ∧ Ent.map mb l clock ∈ σ1 ++ σ2 ∧ post = postNext σ1 σ2 a.block mb clock seen l
  | _ => False
def eCopy (P : Program) (t xt : TypeId) (d x : AV) (σ : Store) (post : AV → Store → Prop) : Prop := (∃ sz ys, srcP sz σ x ys ∧ copyOk P t sz d ys σ ∧ post = copyTo d ys σ) ∨ rawB P .copy #[t, xt] [d, x] σ post
def lenMA (P : Program) (t : TypeId) (m : AV) (σ : Store) (u : AV) : Prop := isMapT P t = true ∧ lenM m σ u
def aAssert (P : Program) (T : TypeId) (ok : Bool) (x u : AV) : Prop := match x with
  | .ifc t v => (match P.underlying T with | some (.interface _) => False | some _ => True | none => False) ∧ t = T ∧ u = bif ok then .tuple [v, .val (.bool true)] else v
  | _ => False

section
variable {cs out : List AV} {s : Nat} {ag : Bool} {u : AV} {K : AV → Prop}
instance ldF [h : Part cs 0 s out] [h1 : MkV ag s out u] : Stp (Do (loadF ag s (.rptr cs)) K) (K u) :=
 ⟨fun hK => ⟨u, ⟨h.pos, h1.one, by have := h.le; omega, by rw [← h1.eq, ← h.eq]; rfl⟩, hK⟩⟩
end

class MapT (P : Program) (t : TypeId) (d : outParam TypeDesc) (z : outParam Value) : Prop where
 h : mapOf P t = some (d, z)
theorem MapT.is {t : TypeId} {d : TypeDesc} {z : Value} (h : MapT P t d z) : isMapT P t = true := by
 obtain ⟨k, e, hu, _⟩ := mapOf_run h.h
 unfold isMapT
 rw [hu]
class MapAt (b : Nat) (σ : Store) (l : outParam MapL) (clock : outParam Nat) (put : outParam (Ent → Store)) (rest : outParam Store) : Prop where
 at_ : ∃ σ1 σ2, σ = σ1 ++ .map b l clock :: σ2 ∧ (∀ x, put x = σ1 ++ x :: σ2) ∧ rest = σ1 ++ σ2
instance mapHead (b : Nat) (l : MapL) (clock : Nat) (σ : Store) : MapAt b (.map b l clock :: σ) l clock (fun x => x :: σ) σ := ⟨[], σ, rfl, fun _ => rfl, rfl⟩
instance (priority := 90) mapTail (b : Nat) (l : MapL) (clock : Nat) (σ rest : Store) (put : Ent → Store) (e : Ent) [h : MapAt b σ l clock put rest] : MapAt b (e :: σ) l clock (fun x => e :: put x) (e :: rest) := ⟨by
 obtain ⟨σ1, σ2, h1, h2, h3⟩ := h.at_
 exact ⟨e :: σ1, σ2, by rw [h1]; rfl, fun x => by rw [h2]; rfl, by rw [h3]; rfl⟩⟩
class IterAt (b : Nat) (σ : Store) (mb since : outParam Nat) (seen : outParam (List Nat)) (stepped : outParam Nat) (put : outParam (Ent → Store)) (rest : outParam Store) : Prop where
 at_ : ∃ σ1 σ2, σ = σ1 ++ .iter b mb since seen stepped :: σ2 ∧ (∀ x, put x = σ1 ++ x :: σ2) ∧ rest = σ1 ++ σ2
instance iterHead (b mb since stepped : Nat) (seen : List Nat) (σ : Store) : IterAt b (.iter b mb since seen stepped :: σ) mb since seen stepped (fun x => x :: σ) σ := ⟨[], σ, rfl, fun _ => rfl, rfl⟩
class KeyE (κ : Type) [DecidableEq κ] (g : κ → Value) (d : outParam TypeDesc) : Prop where
 is : ∀ k, MapKept.IsKey d (g k)
 eq : ∀ a b, keyb (g a) (g b) = decide (a = b)
def keyS (l : List UInt8) : Value := .string ⟨l.toArray⟩
def keyI (n : Int) : Value := .int .i64 n
instance : KeyE (List UInt8) keyS .string := ⟨fun _ => trivial, fun a b => by simp [keyb, keyS]⟩
instance : KeyE Int keyI (.int .i64) := ⟨fun _ => rfl, fun a b => by simp [keyb, keyI]⟩
def mkM {κ α : Type} (g : κ → Value) (f : α → AV) (L : List (Nat × κ × α)) : MapL := L.map fun x => (x.1, g x.2.1, f x.2.2)
def findT {κ α : Type} [DecidableEq κ] (k : κ) (L : List (Nat × κ × α)) : Option α := (L.find? fun x => decide (k = x.2.1)).map (·.2.2)
def setT {κ α : Type} [DecidableEq κ] (k : κ) (v : α) (clock : Nat) : List (Nat × κ × α) → List (Nat × κ × α)
 | [] => [(clock, k, v)]
 | x :: l => bif decide (k = x.2.1) then (x.1, x.2.1, v) :: l else x :: setT k v clock l
def hasT {κ α : Type} [DecidableEq κ] (k : κ) (L : List (Nat × κ × α)) : Bool := L.any fun x => decide (k = x.2.1)
def leftT {κ α : Type} (L : List (Nat × κ × α)) (seen : List Nat) : List (Nat × κ × α) := L.filter fun x => !seen.contains x.1
section tables
variable {κ α : Type} [DecidableEq κ] {g : κ → Value} {f : α → AV} {d : TypeDesc}
theorem findM_mk (hk : KeyE κ g d) (k : κ) (L : List (Nat × κ × α)) : findM (g k) (mkM g f L) = (findT k L).map f := by
 unfold findM findT mkM
 rw [List.find?_map]
 simp only [Option.map_map]
 have e : ((fun x : Nat × Value × AV => keyb (g k) x.2.1) ∘ fun x : Nat × κ × α => (x.1, g x.2.1, f x.2.2)) = fun x => decide (k = x.2.1) := by
  funext x
  simp [hk.eq]
 rw [e]
 rfl
theorem setM_mk (hk : KeyE κ g d) (k : κ) (v : α) (clock : Nat) : ∀ L : List (Nat × κ × α), setM (g k) (f v) clock (mkM g f L) = mkM g f (setT k v clock L)
 | [] => rfl
 | x :: L => by
  have ih := setM_mk hk k v clock L
  simp only [mkM, List.map_cons, setM, hk.eq, setT] at ih ⊢
  cases decide (k = x.2.1) with
  | true => simp
  | false => simp [ih]
theorem any_mk (hk : KeyE κ g d) (k : κ) (L : List (Nat × κ × α)) : (mkM g f L).any (fun x => keyb (g k) x.2.1) = hasT k L := by
 unfold mkM hasT
 rw [List.any_map]
 congr 1
 funext x
 simp [hk.eq]
theorem keys_mk (hk : KeyE κ g d) (L : List (Nat × κ × α)) : ∀ x ∈ mkM g f L, MapKept.IsKey d x.2.1 := by
 intro x hx
 obtain ⟨y, _, rfl⟩ := List.mem_map.1 hx
 exact hk.is _
end tables
theorem left_mk {κ α : Type} {g : κ → Value} {f : α → AV} (L : List (Nat × κ × α)) (seen : List Nat) : leftM (mkM g f L) seen = mkM g f (leftT L seen) := by
 unfold leftM mkM leftT
 rw [List.filter_map]
 rfl
theorem leftT_mem {κ α : Type} {L : List (Nat × κ × α)} {seen : List Nat} {x : Nat × κ × α} (h : x ∈ leftT L seen) : x ∈ L := (List.mem_filter.1 h).1
class AsKey {κ : Type} (g : κ → Value) (v : Value) (k : outParam κ) : Prop where
 eq : v = g k
instance (l : List UInt8) : AsKey keyS (.string ⟨l.toArray⟩) l := ⟨rfl⟩
instance (n : Int) : AsKey keyI (.int .i64 n) n := ⟨rfl⟩
class ZeroV {α : Type} (f : α → AV) (z : Value) (o : outParam α) : Prop where
 eq : ofV z = f o
def Hyp (φ H : Prop) : Prop := φ ∧ H
theorem hyp {φ H : Prop} (h : φ) (k : H) : Hyp φ H := ⟨h, k⟩
section maps
variable {κ α : Type} [DecidableEq κ] {g : κ → Value} {f : α → AV} {d : TypeDesc} {z kv : Value} {o y : α} {k : κ} {t : TypeId} {b mb r clock : Nat} {L : List (Nat × κ × α)} {σ rest : Store} {put : Ent → Store} {K : AV → Prop} {kk : AV → Store → Prop} {v : AV} {seen : List Nat}
instance makeM_ : Stp (aHook (eMakeMap σ) kk) (All fun b => kk (.val (.map (some b))) (.map b [] 0 :: σ)) := ⟨fun h => ⟨_, rfl, fun u σ' ⟨b, h1, h2⟩ => by rw [h1, h2]; exact h b⟩⟩
instance updM_ [hm : MapAt b σ (mkM g f L) clock put rest] [ht : MapT P t d z] [hk : KeyE κ g d] [ha : AsKey g kv k] [hv : AsF f v y] : Stp (aHook (eMapUpd P t (.val (.map (some b))) (.val kv) v σ) kk)
  (kk .undef (put (.map b (mkM g f (setT k y clock L)) (bif hasT k L then clock else clock + 1)))) := ⟨fun h => by
 obtain ⟨σ1, σ2, e1, e2, _⟩ := hm.at_
 have hd := hk.is k
 refine ⟨_, ⟨d, z, mkM g f L, clock, σ1, σ2, ht.h, by rw [ha.eq]; exact hd, e1, keys_mk hk L, rfl⟩, fun u σ' ⟨h1, h2⟩ => ?_⟩
 rw [h1, h2, ha.eq, hv.eq, setM_mk hk, any_mk hk, ← e2]
 exact h⟩
instance lookM_ [hm : MapAt b σ (mkM g f L) clock put rest] [ht : MapT P t d z] [hk : KeyE κ g d] [ha : AsKey g kv k] [hz : ZeroV f z o] : Stp (Do (lookA P t true (.val (.map (some b))) (.val kv) σ) K)
  (K (.tuple [f ((findT k L).getD o), .val (.bool (findT k L).isSome)])) := ⟨fun h => by
 obtain ⟨σ1, σ2, e1, _⟩ := hm.at_
 refine ⟨_, ⟨d, z, mkM g f L, clock, ht.h, by rw [ha.eq]; exact hk.is k, by rw [e1]; simp, keys_mk hk L, rfl⟩, ?_⟩
 rw [ha.eq, findM_mk hk, hz.eq]
 have e : ((findT k L).map f).getD (f o) = f ((findT k L).getD o) := by cases findT k L <;> rfl
 simp only [cond_true, Option.isSome_map, e]
 exact h⟩
instance lookM1_ [hm : MapAt b σ (mkM g f L) clock put rest] [ht : MapT P t d z] [hk : KeyE κ g d] [ha : AsKey g kv k] [hz : ZeroV f z o] : Stp (Do (lookA P t false (.val (.map (some b))) (.val kv) σ) K)
  (K (f ((findT k L).getD o))) := ⟨fun h => by
 obtain ⟨σ1, σ2, e1, _⟩ := hm.at_
 refine ⟨_, ⟨d, z, mkM g f L, clock, ht.h, by rw [ha.eq]; exact hk.is k, by rw [e1]; simp, keys_mk hk L, rfl⟩, ?_⟩
 rw [ha.eq, findM_mk hk, hz.eq]
 have e : ((findT k L).map f).getD (f o) = f ((findT k L).getD o) := by cases findT k L <;> rfl
 simp only [cond_false, e]
 exact h⟩
instance lenM_ [hm : MapAt b σ (mkM g f L) clock put rest] [ht : MapT P t d z] : Stp (Do (lenMA P t (.val (.map (some b))) σ) K) (K (.val (.int .i64 ((L.length : Nat) : Int)))) := ⟨fun h => by
 obtain ⟨σ1, σ2, e1, _⟩ := hm.at_
 exact ⟨_, ⟨ht.is, mkM g f L, clock, by rw [e1]; simp, rfl⟩, by simpa [mkM] using h⟩⟩
instance rangeM_ {l : MapL} [hm : MapAt mb σ l clock put rest] [ht : MapT P t d z] : Stp (aHook (eRange P t (.val (.map (some mb))) σ) kk) (All fun b => kk (ptrAt b 0) (.iter b mb clock [] clock :: σ)) := ⟨fun h => by
 obtain ⟨σ1, σ2, e1, _⟩ := hm.at_
 exact ⟨_, ⟨l, clock, ht.is, by rw [e1]; simp, rfl⟩, fun u σ' ⟨b, h1, h2⟩ => by rw [h1, h2]; exact h b⟩⟩
instance nextM_ {put' : Ent → Store} {rest' : Store} [hi : IterAt r σ mb clock seen clock put rest] [hm : MapAt mb rest (mkM g f L) clock put' rest'] : Stp (aHook (eNext (ptrAt r 0) σ) kk)
  (Both (Imp (leftT L seen = []) (kk (.tuple [.val (.bool false)]) (put (.iter r mb clock seen clock)))) (All fun x : Nat × κ × α => Imp (x ∈ leftT L seen) (kk (.tuple [.val (.bool true), .val (g x.2.1), f x.2.2]) (put (.iter r mb clock (seen ++ [x.1]) clock))))) := ⟨fun h => by
 obtain ⟨σ1, σ2, e1, e2, e3⟩ := hi.at_
 obtain ⟨τ1, τ2, f1, _⟩ := hm.at_
 refine ⟨_, ⟨rfl, rfl, σ1, σ2, mb, clock, seen, mkM g f L, e1, by rw [← e3, f1]; simp, rfl⟩, fun u σ' hp => ?_⟩
 rcases hp with ⟨h1, h2, h3⟩ | ⟨x, h1, h2, h3⟩
 ·rw [left_mk] at h1
  have h1' : leftT L seen = [] := by simpa [mkM] using h1
  rw [h2, h3, ← e2]
  exact h.1 h1'
 ·rw [left_mk] at h1
  obtain ⟨y, hy, rfl⟩ := List.mem_map.1 h1
  rw [h2, h3, ← e2]
  exact h.2 y hy⟩
instance entryM_ {put' : Ent → Store} {rest' : Store} {x : Nat × κ × α} [hi : IterAt r σ mb clock (seen ++ [x.1]) clock put rest] [hm : MapAt mb rest (mkM g f L) clock put' rest'] : Stp (Do (entryA (ptrAt r 0) σ) K) (Hyp (x ∈ L) (K (.tuple [.val (g x.2.1), f x.2.2]))) := ⟨fun ⟨hx, hK⟩ => by
 obtain ⟨σ1, σ2, e1, e2, e3⟩ := hi.at_
 obtain ⟨τ1, τ2, f1, _⟩ := hm.at_
 refine ⟨_, ⟨rfl, rfl, mb, clock, seen, x.1, clock, mkM g f L, (x.1, g x.2.1, f x.2.2), by rw [e1]; simp, ?_, List.mem_map.2 ⟨x, hx, rfl⟩, rfl, rfl⟩, hK⟩
 have hmem : Ent.map mb (mkM g f L) clock ∈ σ1 ++ σ2 := by rw [← e3, f1]; simp
 rw [e1]
 rcases List.mem_append.1 hmem with h | h
 ·exact List.mem_append_left _ h
 ·exact List.mem_append_right _ (List.mem_cons_of_mem _ h)⟩
end maps
instance : ZeroV En.av (.agg #[.string ⟨#[]⟩, .string ⟨#[]⟩, .bool false, .int .i64 0]) En.zero := ⟨rfl⟩

section parts
variable {α : Type} {f : α → AV} {sz s n a b c : Nat} {l ys : List α} {t E : TypeId} {σ rest : Store} {put : Ent → Store} {K : AV → Prop} {k : AV → Store → Prop} {v : Value} {x y : Int} {kk kk' : IntKind} {fl : Nat}
instance slO1 [h : NatOf x a] : Stp (Do (aSlice .slice sz (.own v n) (some (.val (.int kk x))) none none) K) (Need (a ≤ n) (K (.sub v sz a (n - a)))) :=
 ⟨fun ⟨h1, h2⟩ => ⟨_, ⟨by rw [h.eq]; omega, by rw [h.eq]; omega, Int.le_refl _, rfl⟩, by
  have e1 : x.toNat = a := by rw [h.eq]; simp
  have e2 : ((n : Int) - x).toNat = n - a := by rw [h.eq]; omega
  rw [e1, e2]; exact h2⟩⟩
instance slO2 [h' : NatOf y b] : Stp (Do (aSlice .slice sz (.own v n) none (some (.val (.int kk' y))) none) K) (Need (b ≤ n) (K (.sub v sz 0 b))) :=
 ⟨fun ⟨h1, h2⟩ => ⟨_, ⟨Int.le_refl _, by rw [h'.eq]; omega, by rw [h'.eq]; omega, rfl⟩, by
  have e2 : (y - 0).toNat = b := by rw [h'.eq]; omega
  rw [e2]; exact h2⟩⟩
instance slO0 : Stp (Do (aSlice .slice sz (.own v n) none none none) K) (K (.sub v sz 0 n)) :=
 ⟨fun h2 => ⟨_, ⟨Int.le_refl _, by omega, Int.le_refl _, rfl⟩, by
  have e2 : ((n : Int) - 0).toNat = n := by omega
  rw [e2]; exact h2⟩⟩
instance slP1 [hp : Pos sz] [h : NatOf x a] : Stp (Do (aSlice .slice sz (.sub v sz c n) (some (.val (.int kk x))) none none) K) (Need (a ≤ n) (K (.sub v sz (c + a) (n - a)))) :=
 ⟨fun ⟨h1, h2⟩ => ⟨_, ⟨rfl, hp.pos, by rw [h.eq]; omega, by rw [h.eq]; omega, .inl (Int.le_refl _), rfl⟩, by
  have e1 : x.toNat = a := by rw [h.eq]; simp
  have e2 : ((n : Int) - x).toNat = n - a := by rw [h.eq]; omega
  rw [e1, e2]; exact h2⟩⟩
instance slP2 [hp : Pos sz] [h' : NatOf y b] : Stp (Do (aSlice .slice sz (.sub v sz c n) none (some (.val (.int kk' y))) none) K) (Need (b ≤ n ∨ c + b ≤ capV v) (K (.sub v sz c b))) :=
 ⟨fun ⟨h1, h2⟩ => ⟨_, ⟨rfl, hp.pos, Int.le_refl _, by rw [h'.eq]; omega, by rw [h'.eq]; omega, rfl⟩, by
  have e2 : (y - 0).toNat = b := by rw [h'.eq]; omega
  have e3 : c + (0 : Int).toNat = c := rfl
  rw [e2, e3]; exact h2⟩⟩
instance lenP [h : SlT P t] : Stp (Do (aBuiltin P .len #[t] [.sub v sz a n]) K) (K (.val (.int .i64 ((n : Nat) : Int)))) := ⟨fun hK => ⟨_, ⟨⟨t, rfl, isSl_run h.h⟩, rfl⟩, hK⟩⟩
instance capO [h : SlT P t] : Stp (Do (aBuiltin P .cap #[t] [.own v n]) K) (K (.val (.int .i64 ((capV v : Nat) : Int)))) := ⟨fun hK => ⟨_, ⟨⟨t, rfl, isSl_run h.h⟩, rfl⟩, hK⟩⟩
instance capP [h : SlT P t] : Stp (Do (aBuiltin P .cap #[t] [.sub v sz a n]) K) (K (.val (.int .i64 ((capV v - a : Nat) : Int)))) := ⟨fun hK => ⟨_, ⟨⟨t, rfl, isSl_run h.h⟩, rfl⟩, hK⟩⟩
end parts
end Go.Ab

namespace Go.Ab
variable {P : Program}

def Again {β : Type} (pre : β → Prop) (slots : β → List AV) (st : β → Store) (ms : β → Nat) (n : Nat) (vs : List AV) (σ : Store) : Prop := ∃ m vs' τ, m < n ∧ Sub σ vs τ vs' ∧ ∃ x, m = ms x ∧ pre x ∧ vs' = slots x ∧ τ = st x
theorem again {β : Type} {pre : β → Prop} {slots : β → List AV} {st : β → Store} {ms : β → Nat} {n : Nat} {vs : List AV} {σ : Store} (x : β) (h1 : ms x < n) (h2 : pre x) (h3 : Sub σ vs (st x) (slots x)) : Again pre slots st ms n vs σ :=
 ⟨_, _, _, h1, h3, x, rfl, h2, rfl, rfl⟩
theorem loopI {β : Type} (pre : β → Prop) (slots : β → List AV) (st : β → Store) (ms : β → Nat) {body : (List AV → Store → Prop) → List AV → Store → Prop} {vals : List AV} {σ : Store} (x0 : β) (h0 : pre x0) (hs : Sub σ vals (st x0) (slots x0))
  (hb : ∀ x, pre x → body (Again pre slots st ms (ms x)) (slots x) (st x)) : aLoop body vals σ := by
 refine ⟨fun n vs τ => ∃ x, n = ms x ∧ pre x ∧ vs = slots x ∧ τ = st x, ⟨ms x0, slots x0, st x0, hs, x0, rfl, h0, rfl, rfl⟩, ?_⟩
 rintro n vs τ ⟨x, rfl, h, rfl, rfl⟩
 exact hb x h
def Meet {β : Type} (pre : β → Prop) (slots : β → List AV) (st : β → Store) (vs : List AV) (σ : Store) : Prop := ∃ vs' τ, Sub σ vs τ vs' ∧ ∃ x, pre x ∧ vs' = slots x ∧ τ = st x
theorem meet {β : Type} {pre : β → Prop} {slots : β → List AV} {st : β → Store} {vs : List AV} {σ : Store} (x : β) (h2 : pre x) (h3 : Sub σ vs (st x) (slots x)) : Meet pre slots st vs σ := ⟨_, _, h3, x, h2, rfl, rfl⟩
theorem joinI {β : Type} (pre : β → Prop) (slots : β → List AV) (st : β → Store) {x : (List AV → Store → Prop) → Prop} {y : List AV → Store → Prop}
  (h : x (Meet pre slots st)) (hy : ∀ b, pre b → y (slots b) (st b)) : aJoin x y :=
 ⟨fun vs τ => ∃ x, pre x ∧ vs = slots x ∧ τ = st x, h, fun vs τ ⟨b, h1, h2, h3⟩ => by rw [h2, h3]; exact hy b h1⟩
def Goes (y : List AV → Store → Prop) (vs : List AV) (σ : Store) : Prop := ∃ vs' τ, Sub σ vs τ vs' ∧ y vs' τ
instance goes_ (y : List AV → Store → Prop) (vs : List AV) (σ : Store) : Stp (Goes y vs σ) (y vs σ) := ⟨fun h => ⟨_, _, Sub.refl _ _, h⟩⟩
theorem joinE {x : (List AV → Store → Prop) → Prop} {y : List AV → Store → Prop} (h : x (Goes y)) : aJoin x y := ⟨y, h, fun _ _ h => h⟩

theorem Sub.nil_own (E : TypeId) {sz : Nat} (hz : 0 < sz) (σ : Store) (pre post : List AV) : Sub σ (pre ++ .val (.slice none 0 0) :: post) (.row (.slice none 0 0) E sz [] 0 :: σ) (pre ++ .own (.slice none 0 0) 0 :: post) := by
 intro R w vs hv hs
 obtain ⟨g1, g2⟩ := st_nilRow hs E hz
 refine ⟨R, ⟨?_, fun j u v hu hx => ?_⟩, g1, g2⟩
 ·rw [hv.1]; simp
 ·rcases Nat.lt_trichotomy j pre.length with h | h | h
  ·exact hv.2 j u v (by rw [List.getElem?_append_left h] at hu ⊢; exact hu) hx
  ·subst h
   simp at hu
   subst hu
   have := hv.2 pre.length (.val (.slice none 0 0)) v (by simp) hx
   rw [this.val_inv]
   exact .own (.inl ⟨rfl, rfl⟩)
  ·refine hv.2 j u v ?_ hx
   rw [List.getElem?_append_right (by omega)] at hu ⊢
   cases hn : j - pre.length with
   | zero => omega
   | succ n => rw [hn] at hu; simpa using hu
theorem Sub.perm {σ τ : Store} (h : σ.Perm τ) (args : List AV) : Sub σ args τ args := Sub.less (Less.perm h) args
theorem Sub.drop_ {σ τ : Store} (h : τ.Sublist σ) (args : List AV) : Sub σ args τ args := Sub.less (Less.sub h) args
theorem Sub.app_nil {σ : Store} (args : List AV) : Sub σ args [] args := Sub.less (Less.sub (List.nil_sublist _)) args
class TakeE (e : Ent) (σ : Store) (rest : outParam Store) : Prop where
 perm : σ.Perm (e :: rest)
instance takeHead (e : Ent) (σ : Store) : TakeE e (e :: σ) σ := ⟨List.Perm.refl _⟩
instance (priority := 90) takeTail (e e' : Ent) (σ rest : Store) [h : TakeE e σ rest] : TakeE e (e' :: σ) (e' :: rest) := ⟨(h.perm.cons e').trans (List.Perm.swap e e' rest)⟩
class PermTo (σ τ : Store) : Prop where
 less : ∃ ρ, σ.Perm (τ ++ ρ)
instance (priority := 1100) (σ : Store) : PermTo σ σ := ⟨[], by simp⟩
instance (σ : Store) : PermTo σ [] := ⟨σ, by simp⟩
instance (e : Ent) (σ rest τ : Store) [h : TakeE e σ rest] [k : PermTo rest τ] : PermTo σ (e :: τ) := ⟨by
 obtain ⟨ρ, hp⟩ := k.less
 exact ⟨ρ, h.perm.trans (hp.cons e)⟩⟩
theorem subS {σ τ : Store} [h : PermTo σ τ] (args : List AV) : Sub σ args τ args := by
 obtain ⟨ρ, hp⟩ := h.less
 exact Sub.less ((Less.sub (List.sublist_append_left τ ρ)).trans (Less.perm hp)) args
theorem Sub.frz {σ rest : Store} {v : Value} {E : TypeId} {sz fl : Nat} {l : List AV} {put : Ent → Store} [h : RowAt v σ E sz l fl put rest] {args args' : List AV} (hf : Frzs v (.lst sz l .ro) args args') : Sub σ args rest args' := by
 obtain ⟨σ1, σ2, rfl, _, rfl⟩ := h.at_
 exact Sub.freeze hf
section looks
variable {f : FuncId} {args args' a b : List AV} {pre : Prop} {u : AV} {K : AV → Prop} {σ σ' : Store} {k : AV → Store → Prop}
end looks
theorem ACalls.fin {f : FuncId} {args : List AV} {σ : Store} {Q : AEnd → Store → Prop} (h : ACalls P f args σ fun x σ' => ∃ u u1 τ, x = .ret u ∧ Sub σ' [u] τ [u1] ∧ Q (.ret u1) τ) : ACalls P f args σ Q :=
 h.sub fun x σ' ⟨u, u1, τ, h1, h2, h3⟩ => ⟨u, u1, τ, h1, h2, h3⟩
theorem retOwn {σ rest : Store} {v : Value} {E : TypeId} {sz fl n : Nat} {l : List AV} {put : Ent → Store} [h : RowAt v σ E sz l fl put rest] {us us' : List AV} (hs : Sub rest us [] us') : Sub σ (.own v n :: us) [] (.lst sz l .ro :: us') := by
 obtain ⟨σ1, σ2, rfl, _, rfl⟩ := h.at_
 exact Sub.cons_own hs
theorem retNil {α : Type} (f : α → AV) {sz : Nat} (hz : 0 < sz) {σ τ : Store} {us us' : List AV} (hs : Sub σ us τ us') : Sub σ (.val (.slice none 0 0) :: us) τ (.lst sz (([] : List α).map f) .ro :: us') :=
 Sub.trans (Sub.cons_same _ hs) (Sub.vals ⟨fun R v h => SubV.ro _ _ _ R v (SubV.nil sz hz R v h), SubVs.refl _⟩)
def subF (k : AV → Store → Prop) : AV → Store → Prop := subK k
section appF
variable {α : Type} {f : α → AV} {sz s by_ n fl : Nat} {l ys : List α} {E : TypeId} {σ rest : Store} {put : Ent → Store} {k : AV → Store → Prop} {v : Value} {x : AV} {m : SM}
instance appOF [hr : RowAt v σ E sz (l.map f) fl put rest] [hs : SrcI sz σ x α f ys] : Stp (aAppend E sz by_ (.own v n) x σ (subF k))
  (Need ((l.length + ys.length) * by_ ≤ 140737488355328 ∧ l.length + ys.length ≤ 9223372036854775807) (k (.lst sz ((l ++ ys).map f) .ro) rest)) :=
 ⟨fun ⟨h, hK⟩ => by
  obtain ⟨σ1, σ2, e, _, e2⟩ := hr.at_
  have hs' := hs.src
  subst e
  exact s_app_own hs' h.1 h.2 fun v' => ⟨_, _, Sub.freeze (σ1 := σ1) (σ2 := σ2) (args' := [.lst sz ((l ++ ys).map f) .ro]) ⟨.inr ⟨⟨_, rfl⟩, rfl⟩, trivial⟩, by rw [← e2]; exact hK⟩⟩
end appF
class ConT (P : Program) (t : TypeId) : Prop where
 h : (match P.underlying t with | some (.interface _) => False | some _ => True | none => False)
instance assertT {t : TypeId} {v : AV} {K : AV → Prop} [h : ConT P t] : Stp (Do (aAssert P t true (.ifc t v)) K) (K (.tuple [v, .val (.bool true)])) := ⟨fun hK => ⟨_, ⟨h.h, rfl, rfl⟩, hK⟩⟩
instance assertF {t : TypeId} {v : AV} {K : AV → Prop} [h : ConT P t] : Stp (Do (aAssert P t false (.ifc t v)) K) (K v) := ⟨fun hK => ⟨_, ⟨h.h, rfl, rfl⟩, hK⟩⟩
end Go.Ab

namespace Go.Ab
variable {P : Program}
section parts
variable {α : Type} {f : α → AV} {sz by_ n m a c fl fl' : Nat} {l ys : List α} {E E' t : TypeId} {σ rest rest' : Store} {put put' : Ent → Store} {k : AV → Store → Prop} {K : AV → Prop} {v v' : Value} {x : AV}
end parts
end Go.Ab

namespace Go.Ab
variable {P : Program}
class OffAt (l : List (Nat × Nat)) (i : Nat) (o s : outParam Nat) : Prop where
 eq : l[i]? = some (o, s)
instance (o s : Nat) (l : List (Nat × Nat)) : OffAt ((o, s) :: l) 0 o s := ⟨rfl⟩
instance (x : Nat × Nat) (l : List (Nat × Nat)) (i o s : Nat) [h : OffAt l i o s] : OffAt (x :: l) (i + 1) o s := ⟨by simpa using h.eq⟩
class FillG (offs : List (Nat × Nat)) (cs : List AV) (parts : List (Nat × AV)) (out : outParam (List AV)) : Prop where
 one : partsOne parts
 eq : fillA (offs[·]?) cs parts = some out
instance (offs : List (Nat × Nat)) (cs : List AV) : FillG offs cs [] cs := ⟨fun p hp => by simp at hp, rfl⟩
instance (offs : List (Nat × Nat)) (cs cs' xs out : List AV) (i o s : Nat) (u : AV) (ps : List (Nat × AV)) [ho : OffAt offs i o s] [hc : Cells u xs] [hl : LenC xs s] [h1 : Ones xs] [hs : Splice cs o xs cs'] [h : FillG offs cs' ps out] : FillG offs cs ((i, u) :: ps) out := ⟨fun p hp c hcm => by
  rcases List.mem_cons.1 hp with rfl | hp
  ·rw [hc.eq] at hcm; exact h1.ones c hcm
  ·exact h.one p hp c hcm, by
  simp only [fillA, ho.eq, hc.eq, hl.eq]
  rw [if_pos ⟨trivial, by have := hs.le; rw [hl.eq] at this; exact this⟩, hs.eq]
  exact h.eq⟩
instance (priority := 50) litG {zs : List AV} {offs : List (Nat × Nat)} {parts : List (Nat × AV)} {out : List AV} {K : AV → Prop} [h : FillG offs zs parts out] : Stp (Do (aLit zs offs parts) K) (K (.agg out)) := ⟨fun hK => ⟨_, ⟨h.one, _, h.eq, rfl⟩, hK⟩⟩
theorem ACalls.preS {f : FuncId} {args args1 : List AV} {σ σ1 : Store} {Q : AEnd → Store → Prop} (h : ACalls P f args1 σ1 Q) (hs : Sub σ args σ1 args1) : ACalls P f args σ Q := by
 refine ⟨h.1, fun R w vs hv hst => ?_⟩
 obtain ⟨R1, h1, h2, h3⟩ := hs R w vs hv hst
 exact (h.2 R1 w vs h1 h2).mono fun e w' ⟨x, R', σ', k1, k2, k3, k4⟩ => ⟨x, R', σ', k1, k2, k3, h3.trans k4⟩
theorem ACalls.at_ {f : FuncId} {args : List AV} {b : Nat} {t : TypeId} {cs : List AV} {σ rest : Store} {put : Ent → Store} {r : AV} {cs' : List AV} [hv : VarAt b σ t cs put rest] (h : ACalls P f args [.var b t cs] fun x σ' => x = .ret r ∧ σ' = [.var b t cs']) : ACalls P f args σ fun x σ' => x = .ret r ∧ σ' = put (.var b t cs') := by
 obtain ⟨σ1, σ2, rfl, e2, rfl⟩ := hv.at_
 have hp : (σ1 ++ Ent.var b t cs :: σ2).Perm ([Ent.var b t cs] ++ (σ1 ++ σ2)) := List.perm_middle
 have hq : ([Ent.var b t cs'] ++ (σ1 ++ σ2)).Perm (σ1 ++ Ent.var b t cs' :: σ2) := (List.perm_middle (a := Ent.var b t cs') (l₁ := σ1) (l₂ := σ2)).symm
 refine ACalls.preS ?_ (Sub.perm hp args)
 refine (h.frame (σ1 ++ σ2)).sub fun x σ' ⟨τ, h1, _, h2, h3⟩ => ?_
 exact ⟨r, r, _, h2, by rw [h1, h3]; exact Sub.perm hq _, rfl, (e2 _).symm⟩
end Go.Ab

namespace Go.Ab
variable {P : Program}
class GroundF {α : Type} (f : α → AV) : Prop where
 g : ∀ a, Grounds (f a).cells
theorem GroundF.flat {α : Type} {f : α → AV} (h : GroundF f) (l : List α) : ∀ u ∈ flat (l.map f), Ground u := by
 intro u hu
 obtain ⟨c, hc, h2⟩ := List.mem_flatMap.1 hu
 obtain ⟨a, _, rfl⟩ := List.mem_map.1 hc
 exact (h.g a).g u h2
theorem s_mask {t : TypeId} {x : Int} (k : Nat) (hk : k ≤ 62) {K : AV → Prop} (hK : K (.val (.int .i64 ((x % (2 ^ k : Nat)).toNat : Nat)))) : ∃ u, aBin P .and t (.val (.int .i64 x)) (.val (.int .i64 ((2 ^ k - 1 : Nat) : Int))) u ∧ K u := by
 have hp : 0 < 2 ^ k := Nat.pow_pos (by decide)
 have h62 : 2 ^ k ≤ 2 ^ 62 := Nat.pow_le_pow_right (by decide) hk
 have hd : (2 ^ k : Nat) ∣ 2 ^ 64 := Nat.pow_dvd_pow 2 (by omega)
 obtain ⟨q, hq⟩ : ∃ q, q = (x % (2 ^ k : Nat)).toNat := ⟨_, rfl⟩
 rw [← hq] at hK
 have e1 : (BitVec.ofInt 64 x &&& BitVec.ofNat 64 (2 ^ k - 1)).toNat = q := by
  rw [BitVec.toNat_and, BitVec.toNat_ofNat, Nat.mod_eq_of_lt (show 2 ^ k - 1 < 2 ^ 64 by omega), Nat.and_two_pow_sub_one_eq_mod, BitVec.toNat_ofInt, hq]
  have h0 : 0 ≤ x % (2 ^ 64 : Nat) := Int.emod_nonneg _ (by decide)
  have h1 : x % (2 ^ 64 : Nat) % (2 ^ k : Nat) = x % (2 ^ k : Nat) := Int.emod_emod_of_dvd _ (Int.natCast_dvd_natCast.2 hd)
  obtain ⟨n, hn⟩ := Int.eq_ofNat_of_zero_le h0
  rw [← h1, hn, Int.toNat_natCast, ← Int.natCast_emod, Int.toNat_natCast]
 have hlt : q < 4611686018427387904 := by
  have h1 : x % (2 ^ k : Nat) < (2 ^ k : Nat) := Int.emod_lt_of_pos _ (Int.ofNat_lt.2 hp)
  have h3 : ((2 ^ k : Nat) : Int) ≤ ((2 ^ 62 : Nat) : Int) := Int.ofNat_le.2 h62
  have h4 : ((2 ^ 62 : Nat) : Int) = 4611686018427387904 := rfl
  rw [h4] at h3
  generalize x % ((2 ^ k : Nat) : Int) = z at h1 hq
  generalize ((2 ^ k : Nat) : Int) = y at h1 h3
  omega
 have e3 : IntKind.wrap .i64 ((q : Nat) : Int) = ((q : Nat) : Int) := by
  have e : ((q : Nat) : Int) % (2 : Int) ^ 64 = q := by omega
  simp only [IntKind.wrap, IntKind.bits, IntKind.signed, e]
  rw [if_neg]
  simp
  omega
 have e4 : IntKind.wrap .i64 (((BitVec.ofInt 64 x &&& BitVec.ofNat 64 (2 ^ k - 1)).toNat : Nat) : Int) = q := by rw [e1, e3]
 refine ⟨_, ?_, hK⟩
 refine (aBin_val fun _ _ w => ?_).2 rfl
 simp [eqGuard, binOp, Op.intBits, IntKind.bits, BitVec.ofInt_natCast]
 exact e4
section masks
variable {t : TypeId} {x : Int} {K : AV → Prop}
instance mask8 : Stp (Do (aBin P .and t (.val (.int .i64 x)) (.val (.int .i64 255))) K) (K (.val (.int .i64 ((x % 256).toNat : Nat)))) := ⟨fun h => s_mask 8 (by decide) h⟩
end masks
end Go.Ab

namespace Go.Ab
variable {P : Program}
def c1 : Code → Code
 | .seq a _ => a
 | c => c
def c2 : Code → Code
 | .seq _ b => b
 | c => c
def ModeR (R : RO) (u : FrameMode) : Option AV → Prop
 | none => u = .returning
 | some x => ∃ v, u = .panicking [{ v, recovered := false }] ∧ VR R v x
def DCalls (P : Program) (f : FuncId) (cs : List Value) (m : Option AV) (σ : Store) (Q : Store → Prop) : Prop :=
 ∀ R w u, St R w σ → ModeR R u m → CallsD P f (List.toArray cs) u w fun e u' w' => e = .returned (.tuple #[]) ∧ settle u' = .returning ∧ ∃ R' σ', Q σ' ∧ St R' w' σ' ∧ Ext R w σ R' w' σ'
theorem DCalls.mono {f : FuncId} {cs : List Value} {m : Option AV} {σ : Store} {Q Q' : Store → Prop} (h : DCalls P f cs m σ Q) (hq : ∀ σ', Q σ' → Q' σ') : DCalls P f cs m σ Q' :=
 fun R w u hs hm => (h R w u hs hm).mono fun e u' w' ⟨h1, h2, R', σ', h3, h4, h5⟩ => ⟨h1, h2, R', σ', hq _ h3, h4, h5⟩
def endD (P : Program) (g : FuncId) (cs : List Value) (l : List RS) (Q : AEnd → Store → Prop) : AX → Fr → Store → Prop := fun x fr σ => match x with
 | .norm => DCalls P g cs none σ fun σ' => resVs fr σ' l fun us => Q (.ret (oneA us)) σ'
 | .ret => DCalls P g cs none σ fun σ' => resVs fr σ' l fun us => Q (.ret (oneA us)) σ'
 | .pan u => DCalls P g cs (some u) σ fun σ' => resVs fr σ' l fun us => Q (.ret (oneA us)) σ'
 | .exit _ => False
def capU (us : List AV) (k : List Value → Prop) : Prop := ∃ vs : List Value, us = vs.map .val ∧ k vs
class ValL (us : List AV) (vs : outParam (List Value)) : Prop where
 eq : us = vs.map .val
instance : ValL [] [] := ⟨rfl⟩
instance (v : Value) (us : List AV) (vs : List Value) [h : ValL us vs] : ValL (.val v :: us) (v :: vs) := ⟨by rw [h.eq]; rfl⟩
instance {us : List AV} {vs : List Value} {k : List Value → Prop} [h : ValL us vs] : Stp (capU us k) (k vs) := ⟨fun hk => ⟨vs, h.eq, hk⟩⟩
def midD (S : Sem' P) (N : Nat) (A : Ann) (rest : Code) (g : FuncId) (ts : List Nat) (d : Nat) (l : List RS) (Q : AEnd → Store → Prop) : AX → Fr → Store → Prop := fun x fr σ => match x with
 | .norm => capU (ts.map fr) fun cs => vc S N A rest (endD P g cs l Q) (fun t => bif Nat.beq t d then .undef else fr t) σ
 | _ => False
def deferR (g : FuncId) (d : Nat) (ts : List Nat) (id : Nat) (ty : TypeId) (pos : String) (after : Array Edge) (ty2 : TypeId) (pos2 : String) (after2 : Array Edge) : Code :=
 .region id #[{ dst := some d, op := .makeFunc (.func g) #[] (ts.map Operand.tmp).toArray, type := ty, pos := pos, after := after, guard := none },
  { dst := none, op := .defer { callee := .value (.tmp d), args := #[], argTypes := #[] }, type := ty2, pos := pos2, after := after2, guard := none }] false
def recoverR (d : Nat) (id : Nat) (ty : TypeId) (pos : String) (after : Array Edge) : Code :=
 .region id #[{ dst := some d, op := .call { callee := .builtin .recover, args := #[], argTypes := #[] }, type := ty, pos := pos, after := after, guard := none }] false
theorem res_end {fn : Func} {l : List RS} (hr : resOf P fn.results.toList = some l) {tmps : Array Value} {w : World} {fr : Fr} {σ : Store} {R : RO} {Q : AEnd → Store → Prop} (ht : ∀ t, VR R (tmps.getD t Go.undef) (fr t)) (hs : St R w σ) (hq : resVs fr σ l (fun us => Q (.ret (oneA us)) σ)) :
  ∃ v, (results fn tmps).run P w = .ok v w ∧ ∃ u, VR R v u ∧ Q (.ret u) σ := by
 obtain ⟨vs, us, h1, h2, h3⟩ := resVs_run hs ht (resG tmps) (fun t => rfl) (fun a t => rfl) _ _ hr _ hq
 refine ⟨(if h : vs.toArray.size = 1 then vs.toArray[0] else .tuple vs.toArray), ?_, oneA us, ?_, h3⟩
 ·rw [results_eq]
  rw [Array.mapM_eq_mapM_toList]
  simp only [Sem.run_bind, Sem.run_map]
  rw [h1]
  simp only [Result.andThen_ok, Sem.run_pure]
 ·have gen := VR.tuple' h2
  cases us with
  | nil => cases vs with
   | nil => exact gen
   | cons v vs => have := h2.1; simp at this
  | cons u us => cases vs with
   | nil => have := h2.1; simp at this
   | cons v vs => cases us with
    | nil => cases vs with
     | nil => exact h2.2 0 u v rfl rfl
     | cons _ _ => have := h2.1; simp at this
    | cons _ _ => cases vs with
     | nil => have := h2.1; simp at this
     | cons _ _ => simpa [oneA] using gen
theorem deferR_wp {g : FuncId} {d : Nat} {ts : List Nat} {id : Nat} {ty : TypeId} {pos : String} {after : Array Edge} {ty2 : TypeId} {pos2 : String} {after2 : Array Edge} {act : Act} {w : World} {Q : Exit → Act → World → Prop} {vs : List Value} (hv : ts.map (fun t => act.tmps.getD t Go.undef) = vs) (hsz : d < act.tmps.size)
  (h : Q .normal { (act.put (some d) (.func (.func g) #[] vs.toArray)) with defers := ⟨.fn (.func g) vs.toArray, #[]⟩ :: act.defers } w) : (deferR g d ts id ty pos after ty2 pos2 after2).wp P Q act w := by
 have hmf : ∀ (fn : Fn) (first cap : Array Value) (w : World), (Instr.makeFunc fn first cap).run P w = .ok (.func fn first cap) w := fun _ _ _ _ => rfl
 subst hv
 unfold deferR
 apply wp_region
 have e : List.map (act.eval ∘ Operand.tmp) ts = List.map (fun t => act.tmps[t]?.getD Go.undef) ts := List.map_congr_left fun t _ => by
  show act.tmps.getD t Go.undef = _
  rw [Array.getD_eq_getD_getElem?]
 simp [wpOps, wpList, go_sem, hmf, Oper.upon, Act.put, Act.eval, Region.wanted, execOp, List.range_succ, hsz]
 refine .inl (.inl ?_)
 rw [e]
 simpa [Act.put] using h
theorem acalls_defer {S : Sem' P} {A : Ann} {f g : FuncId} {fn : Func} {args : List AV} {σ : Store} {Q : AEnd → Store → Prop} (l : List RS) (ts : List Nat) (d : Nat)
  (hf : P.funcs[f]? = some fn) (hb : fn.body = some (.seq (c1 (bodyOf fn)) (.seq (c1 (c2 (bodyOf fn))) (c2 (c2 (bodyOf fn)))))) (hn : (fn.name == "runtime.NumGoroutine") = false) (hN : Nat.ble args.length fn.ntmps = true) (hr : resOf P fn.results.toList = some l) (hd : Nat.blt d fn.ntmps = true)
  (hr1 : ∃ id ty pos after ty2 pos2 after2, c1 (c2 (bodyOf fn)) = deferR g d ts id ty pos after ty2 pos2 after2)
  (hgb : HasBody P g)
  (h : vc S fn.ntmps A (c1 (bodyOf fn)) (midD S fn.ntmps A (c2 (c2 (bodyOf fn))) g ts d l Q) (argFr args) σ) : ACalls P f args σ Q := by
 refine ⟨⟨fn, _, hf, hb, hn⟩, fun R w vs hv hs => calls_of_wp_defers hf hb ?_⟩
 have hi : ∀ (vs : Array Value) w, (invoke (.fn (.func g) vs) #[]).run P w = .ok (.enter g vs) w := by
  intro vs w
  have e : (invoke (.fn (.func g) vs) #[]) = callFunc g vs := by simp [invoke]
  rw [e]
  exact call_run hgb
 obtain ⟨id, ty, pos, after, ty2, pos2, after2, hreg⟩ := hr1
 refine wp_seq (vc_sound (D := []) _ h (calls_args hv _ (Nat.le_of_ble_eq_true hN)) hs ?_)
 rintro e a1 w1 ⟨x, fr1, σ1, R1, h1, h2, h3, h4, h5⟩
 cases e with
 | normal =>
  cases x with
  | norm =>
   obtain ⟨vs', e1, h2⟩ := h2
   have hvals : ts.map (fun t => a1.tmps.getD t Go.undef) = vs' := by
    refine List.ext_getElem? fun i => ?_
    have e2 := congrArg (fun l : List AV => l[i]?) e1
    simp only [List.getElem?_map] at e2 ⊢
    cases hti : ts[i]? with
    | none => rw [hti] at e2; cases hvi : vs'[i]? with
     | none => rfl
     | some v => rw [hvi] at e2; cases e2
    | some t => rw [hti] at e2; cases hvi : vs'[i]? with
     | none => rw [hvi] at e2; cases e2
     | some v =>
      rw [hvi] at e2
      have e3 : fr1 t = .val v := by simpa using e2
      have := h3.tmps t
      rw [e3] at this
      rw [Option.map_some, this.val_inv]
   rw [hreg]
   refine wp_seq (deferR_wp hvals (by rw [h3.size]; exact Nat.le_of_ble_eq_true hd) ?_)
   refine vc_sound (D := [⟨.fn (.func g) vs'.toArray, #[]⟩]) _ h2 ⟨by simp [Act.put, h3.size], by simp [Act.put, h3.defers], fun t => ?_⟩ h4 ?_
   ·cases ht : Nat.beq t d with
    | true => exact .undef _
    | false =>
     have ht' : t ≠ d := fun e => by rw [e, Nat.beq_refl] at ht; cases ht
     have e3 : (a1.put (some d) (.func (.func g) #[] vs'.toArray)).tmps.getD t Go.undef = a1.tmps.getD t Go.undef := by
      simp only [Act.put, Array.getD_eq_getD_getElem?]
      rw [Array.getElem?_setIfInBounds_ne (fun h => ht' h.symm)]
     show VR R1 ((a1.put (some d) (.func (.func g) #[] vs'.toArray)).tmps.getD t Go.undef) _
     rw [e3]
     exact h3.tmps t
   ·have main : ∀ (a2 : Act) (w2 : World) (fr2 : Fr) (σ2 : Store) (R2 : RO) (u : FrameMode) (m : Option AV), u ≠ .run → ModeR R2 u m → ActR R2 fn.ntmps [⟨.fn (.func g) vs'.toArray, #[]⟩] a2 fr2 → St R2 w2 σ2 → Ext R1 w1 σ1 R2 w2 σ2 →
      DCalls P g vs' m σ2 (fun σ' => resVs fr2 σ' l fun us => Q (.ret (oneA us)) σ') → Leaves P fn a2.tmps (fun e w' => ∃ x R' σ', EndR R' e x ∧ Q x σ' ∧ St R' w' σ' ∧ Ext R w σ R' w' σ') a2.defers u w2 := by
     intro a2 w2 fr2 σ2 R2 u m hu hm ha hs2 hx hq
     rw [ha.defers]
     refine ⟨hu, .func g, vs'.toArray, g, vs'.toArray, rfl, hi _ w2, (hq R2 w2 u hs2 hm).mono ?_⟩
     rintro e u' w3 ⟨rfl, hset, R3, σ3, q1, q2, q3⟩
     simp only [hset]
     obtain ⟨v, g1, u3, g2, g3⟩ := res_end hr (fun t => (ha.tmps t).mono q3.ro) q2 q1
     exact ⟨v, g1, .ret u3, R3, σ3, g2, g3, q2, (h5.trans hx).trans q3⟩
    rintro e a2 w2 ⟨x, fr2, σ2, R2, k1, k2, k3, k4, k5⟩
    cases e with
    | normal => cases x with
     | norm => exact main a2 w2 fr2 σ2 R2 .returning none (by simp) rfl k3 k4 k5 k2
     | _ => exact k1.elim
    | ret => cases x with
     | ret => exact main a2 w2 fr2 σ2 R2 .returning none (by simp) rfl k3 k4 k5 k2
     | _ => exact k1.elim
    | panic ch => cases x with
     | pan u =>
      obtain ⟨v, rfl, hv2⟩ := k1
      exact main a2 w2 fr2 σ2 R2 _ (some u) (by simp) ⟨v, rfl, hv2⟩ k3 k4 k5 k2
     | _ => exact k1.elim
    | exit i => cases x <;> first | exact k1.elim | exact k2.elim
    | goto i => cases x <;> exact k1.elim
    | outgrown => cases x <;> exact k1.elim
  | _ => exact h1.elim
 | _ => cases x <;> first | exact h1.elim | exact h2.elim

def recU : Option AV → AV
 | none => .val .nilIface
 | some u => u
def endR (Q : Store → Prop) : AX → Fr → Store → Prop := fun x fr σ => match x with
 | .norm => Q σ
 | .ret => Q σ
 | _ => False
theorem recoverR_wp {d id : Nat} {ty : TypeId} {pos : String} {after : Array Edge} {act : Act} {cs : List Frame} {w : World} {Q : Exit → Act → List Frame → World → Prop}
  (h : match recoverD cs with | some (v, cs') => Q .normal (act.put (some d) v) cs' w | none => Q .normal (act.put (some d) .nilIface) cs w) : (recoverR d id ty pos after).wpS P Q act cs w := by
 unfold recoverR
 apply wpS_region
 simp [wpOpsS, go_sem, Act.eval, Region.wanted, execOp, List.range_succ]
 cases hr : recoverD cs with
 | none => rw [hr] at h; simpa [Act.put] using h
 | some p => obtain ⟨v, cs'⟩ := p; rw [hr] at h; simpa [Act.put] using h
theorem dcalls_rec {S : Sem' P} {A : Ann} {g : FuncId} {gn : Func} {cs : List Value} {m : Option AV} {σ : Store} {Q : Store → Prop} (d : Nat)
  (hg : P.funcs[g]? = some gn) (hb : gn.body = some (.seq (c1 (bodyOf gn)) (c2 (bodyOf gn)))) (hres : gn.results = #[]) (hN : Nat.ble cs.length gn.ntmps = true) (hd : Nat.blt d gn.ntmps = true)
  (hr0 : ∃ id ty pos after, c1 (bodyOf gn) = recoverR d id ty pos after)
  (h : vc S gn.ntmps A (c2 (bodyOf gn)) (endR Q) (fun t => bif Nat.beq t d then recU m else argFr (cs.map .val) t) σ) : DCalls P g cs m σ Q := by
 intro R w u hs hm
 obtain ⟨id, ty, pos, after, hreg⟩ := hr0
 refine callsD_of_wpS hg hb fun c₀ fs hu => ?_
 have hargs := calls_args (R := R) (vs := cs) (args := cs.map .val) ⟨by simp, fun j x y hx hy => by
  rw [List.getElem?_map, hy] at hx; cases hx; exact .val _⟩ gn.ntmps (by simpa using Nat.le_of_ble_eq_true hN)
 rw [hreg]
 refine wpS_seq (recoverR_wp ?_)
 have fin : ∀ (v : Value) (c' : Frame), VR R v (recU m) → settle c'.mode = .returning → c' = { c₀ with mode := c'.mode } → (c2 (bodyOf gn)).wpS P (bodyPostS P gn c₀ fs fun e u' w' => e = .returned (.tuple #[]) ∧ settle u' = .returning ∧ ∃ R' σ', Q σ' ∧ St R' w' σ' ∧ Ext R w σ R' w' σ')
   (Act.put { tmps := (List.toArray cs) ++ Array.replicate (gn.ntmps - (List.toArray cs).size) Go.undef, defers := [] } (some d) v) (c' :: fs) w := by
  intro v c' hv hset hc
  refine wpS_of_wp (vc_sound (D := []) _ h ⟨by simpa [Act.put] using hargs.size, by simp [Act.put], fun t => ?_⟩ hs ?_)
  ·cases ht : Nat.beq t d with
   | true =>
    have e := Nat.eq_of_beq_eq_true ht
    subst e
    have hsz : t < ((List.toArray cs) ++ Array.replicate (gn.ntmps - (List.toArray cs).size) Go.undef).size := by rw [hargs.size]; exact Nat.le_of_ble_eq_true hd
    simp only [Act.put, Array.getD_eq_getD_getElem?]
    rw [Array.getElem?_setIfInBounds_self_of_lt hsz]
    exact hv
   | false =>
    have ht' : t ≠ d := fun e => by rw [e, Nat.beq_refl] at ht; cases ht
    have e3 := hargs.tmps t
    simp only [Act.put, Array.getD_eq_getD_getElem?] at e3 ⊢
    rw [Array.getElem?_setIfInBounds_ne (fun h => ht' h.symm)]
    exact e3
  ·have res : ∀ (tmps : Array Value) (w' : World), (results gn tmps).run P w' = .ok (.tuple #[]) w' := by
    intro tmps w'
    simp [results, hres, go_sem]
   rintro e a2 w2 ⟨x, fr2, σ2, R2, k1, k2, k3, k4, k5⟩
   cases e with
   | normal => cases x with
    | norm => exact ⟨k3.defers, c'.mode, by rw [← hc], _, res _ _, rfl, hset, R2, σ2, k2, k4, k5⟩
    | _ => exact k1.elim
   | ret => cases x with
    | ret => exact ⟨k3.defers, c'.mode, by rw [← hc], _, res _ _, rfl, hset, R2, σ2, k2, k4, k5⟩
    | _ => exact k1.elim
   | panic ch => cases x with
    | pan u => exact k2.elim
    | _ => exact k1.elim
   | exit i => cases x <;> first | exact k1.elim | exact k2.elim
   | goto i => cases x <;> exact k1.elim
   | outgrown => cases x <;> exact k1.elim
 cases m with
 | none =>
  have hm' : u = .returning := hm
  subst hm'
  have e : recoverD (c₀ :: fs) = none := by simp [recoverD, hu]
  rw [e]
  exact fin .nilIface c₀ (.val _) (by rw [hu]; rfl) rfl
 | some x =>
  obtain ⟨v, rfl, hv⟩ := hm
  have e : recoverD (c₀ :: fs) = some (v, { c₀ with mode := .panicking [{ v, recovered := true }] } :: fs) := by simp [recoverD, hu]
  rw [e]
  exact fin v _ hv rfl rfl
end Go.Ab

namespace Go.Ab
variable {P : Program}
class QC (P : Program) (f : FuncId) (args : List AV) (σ : Store) (pre ok : outParam Prop) (r : outParam AV) (s : outParam Store) (e : outParam AV) (s' : outParam Store) : Prop where
 ct : pre → ACalls P f args σ fun x σ' => (ok ∧ x = .ret r ∧ σ' = s) ∨ (¬ ok ∧ x = .pan e ∧ σ' = s')
instance (priority := 130) ecallPan {f : FuncId} {args : List AV} {σ s s' : Store} {pre ok : Prop} {r e : AV} {k kp : AV → Store → Prop} [h : QC P f args σ pre ok r s e s'] : Stp (aCall P f args σ k kp) (Need pre (Cho ok (k r s) (kp e s'))) := ⟨fun ⟨h1, h2⟩ =>
 Or.inl ⟨σ, args, Sub.refl _ _, (h.ct h1).mono fun x τ hx => by
  rcases hx with ⟨h3, e1, e2⟩ | ⟨h3, e1, e2⟩
  ·rw [e1, e2]; exact h2.1 h3
  ·rw [e1, e2]; exact h2.2 h3⟩⟩
section ifc
class IfT (P : Program) (t : TypeId) : Prop where
 h : P.underlying t = some (.interface #[])
variable {t T : TypeId} {u : AV} {K : AV → Prop}
theorem run_if_nil (d : Nat) {w : Value} {w' : World} (h : P.underlying t = some (.interface #[])) : (Op.equalIn (d + 1) t (.iface T w) .nilIface).run P w' = .ok false w' := by
 simp [Op.equalIn, run_underlying h]
theorem run_nil_nil (d : Nat) {w' : World} (h : P.underlying t = some (.interface #[])) : (Op.equalIn (d + 1) t .nilIface .nilIface).run P w' = .ok true w' := by
 simp [Op.equalIn, run_underlying h]
theorem run_guard_nil (d : Nat) {w' : World} (h : P.underlying t = some (.interface #[])) : (Op.eqGuardIn (d + 1) t .nilIface .nilIface).run P w' = .ok false w' := by
 simp [Op.eqGuardIn, run_underlying h]
theorem run_if_nil' {w : Value} {w' : World} (h : P.underlying t = some (.interface #[])) : (Op.equalIn Op.maxDepth t (.iface T w) .nilIface).run P w' = .ok false w' := run_if_nil 9999 h
theorem run_nil_nil' {w' : World} (h : P.underlying t = some (.interface #[])) : (Op.equalIn Op.maxDepth t .nilIface .nilIface).run P w' = .ok true w' := run_nil_nil 9999 h
theorem run_guard_nil' {w' : World} (h : P.underlying t = some (.interface #[])) : (Op.eqGuardIn Op.maxDepth t .nilIface .nilIface).run P w' = .ok false w' := run_guard_nil 9999 h
instance ifNil [h : IfT P t] : Stp (Do (aBin P .eql t (.ifc T u) (.val .nilIface)) K) (K (.val (.bool false))) := ⟨fun hK => ⟨_, by
 show aBin P .eql t (.ifc T u) (.val .nilIface) (.val (.bool false))
 unfold aBin
 simp only [plainV]
 refine ⟨_, rfl, ?_⟩
 rintro c ⟨w, rfl⟩ xo yo w'
 simp [eqGuard, binOp, Op.equal, run_if_nil' h.h], hK⟩⟩
instance nilNil [h : IfT P t] : Stp (Do (aBin P .eql t (.val .nilIface) (.val .nilIface)) K) (K (.val (.bool true))) := ⟨fun hK => ⟨_, by
 refine (aBin_val fun xo yo w => ?_).2 rfl
 have e1 := run_nil_nil' (w' := w) h.h
 have e2 := run_guard_nil' (w' := w) h.h
 cases xo <;> cases yo <;> simp [eqGuard, binOp, Op.equal, e1, e2], hK⟩⟩
end ifc
end Go.Ab

namespace Go.Ab
variable {P : Program}
def wrd (w : UInt32) : AV := .val (.int .u32 w.toNat)
instance (w : UInt32) : Cells (wrd w) [W32 w] := ⟨rfl⟩
instance (n : Int) (w : UInt32) [h : U32Of n w] : AsF wrd (.val (.int .u32 n)) w := ⟨by rw [h.eq]; rfl⟩
instance (n : Nat) (c : AV) [h : One c] : Ones (List.replicate n c) := ⟨fun x hx => by rw [(List.mem_replicate.1 hx).2]; exact h.one⟩
class EncOne {α : Type} (f : α → AV) : Prop where
 cells : ∀ a, (f a).cells = [f a]
 one : ∀ a, (f a).one = true
instance : EncOne wrd := ⟨fun _ => rfl, fun _ => rfl⟩
instance : EncOne byt := ⟨fun _ => rfl, fun _ => rfl⟩
section arr
variable {α : Type} {f : α → AV} {s sz n m a o b fl : Nat} {l l' : List α} {t : TypeId} {cs cs' : List AV} {σ rest : Store} {put : Ent → Store} {K : AV → Prop} {k : AV → Store → Prop} {u x : AV} {z : Int} {kk : IntKind} {cond : Prop}
instance (priority := 1100) ixA0 [h : NatOf z a] : Stp (Do (aIndexAddr (.array n) 1 (ptrAt b 0) (.val (.int kk z))) K) (Need (a < n) (K (ptrAt b a))) := ⟨fun ⟨h1, hK⟩ => by
 refine ⟨_, ⟨by rw [h.eq]; omega, by rw [h.eq]; omega, rfl⟩, ?_⟩
 rw [h.eq, Int.toNat_natCast, addr_lit_add, Nat.mul_one, Nat.zero_add]
 exact hK⟩
instance ixA [h : NatOf z a] : Stp (Do (aIndexAddr (.array n) 1 (ptrAt b o) (.val (.int kk z))) K) (Need (a < n) (K (ptrAt b (o + a)))) := ⟨fun ⟨h1, hK⟩ => by
 refine ⟨_, ⟨by rw [h.eq]; omega, by rw [h.eq]; omega, rfl⟩, ?_⟩
 rw [h.eq, Int.toNat_natCast, addr_lit_add, Nat.mul_one]
 exact hK⟩
instance ixV [h : NatOf z a] : Stp (Do (aIndexAddr .slice 1 (.val (.slice (some ⟨b, o, none⟩) n m)) (.val (.int kk z))) K) (Need (a < n) (K (ptrAt b (o + a)))) := ⟨fun ⟨h1, hK⟩ => by
 refine ⟨_, ⟨by rw [h.eq]; omega, by rw [h.eq]; omega, rfl⟩, ?_⟩
 rw [h.eq, Int.toNat_natCast, addr_lit_add, Nat.mul_one]
 exact hK⟩
theorem drop_one [Inhabited α] (hf : EncOne f) {l : List α} {a : Nat} (h : a < l.length) : ((l.map f).drop a).take 1 = [f (l.getD a default)] := by
 have e : l.drop a = l.getD a default :: l.drop (a + 1) := by
  rw [List.drop_eq_getElem_cons h, List.getD_eq_getElem?_getD, List.getElem?_eq_getElem h]
  rfl
 rw [← List.map_drop, e]
 simp
instance ixAR [Inhabited α] [hf : EncOne f] [h : NatOf z a] : Stp (Do (aIndexAddr (.array n) 1 (.rptr (l.map f)) (.val (.int kk z))) K) (Need (a < n ∧ a < l.length) (K (.rptr [f (l.getD a default)]))) := ⟨fun ⟨h1, hK⟩ => by
 refine ⟨_, ⟨by rw [h.eq]; omega, by rw [h.eq]; omega, ?_, rfl⟩, ?_⟩
 ·rw [h.eq, Int.toNat_natCast, List.length_map]; omega
 ·rw [h.eq, Int.toNat_natCast, Nat.mul_one, drop_one hf h1.2]
  exact hK⟩
instance ixG [Inhabited α] [hf : EncOne f] [h : NatOf z a] [hc : Cells (f (l.getD a default)) [u]] : Stp (Do (aIndex (.array n) false 1 (.agg (l.map f)) (.val (.int kk z))) K) (Need (a < n ∧ a < l.length) (K u)) := ⟨fun ⟨h1, hK⟩ => by
 refine ⟨_, ⟨by rw [h.eq]; omega, by rw [h.eq]; omega, ?_, fun _ => rfl, rfl⟩, ?_⟩
 ·rw [h.eq, Int.toNat_natCast, List.length_map]; omega
 ·rw [h.eq, Int.toNat_natCast, Nat.mul_one, drop_one hf h1.2]
  have e := hc.eq
  rw [hf.cells] at e
  have e2 : f (l.getD a default) = u := by simpa using e
  rw [e2]
  exact hK⟩
class ElemAt (cs : List AV) (o : Nat) (cond : outParam Prop) (u : outParam AV) : Prop where
 get : cond → o < cs.length ∧ (cs.drop o).take 1 = [u]
class SetAt (cs : List AV) (o : Nat) (x : AV) (cond : outParam Prop) (cs' : outParam (List AV)) : Prop where
 set : cond → o < cs.length ∧ splice cs o [x] = cs'
 plain : x.cells = [x] ∧ x.one = true
instance elM [Inhabited α] [hf : EncOne f] [hc : Cells (f (l.getD o default)) [u]] : ElemAt (l.map f) o (o < l.length) u := ⟨fun h => ⟨by simpa using h, by
 rw [drop_one hf h]
 have e := hc.eq
 rw [hf.cells] at e
 exact e⟩⟩
theorem splice_map {l : List α} {o : Nat} (h : o < l.length) (y : α) : splice (l.map f) o [f y] = (l.set o y).map f := by
 unfold splice
 rw [← List.map_take, ← List.map_drop, List.set_eq_take_append_cons_drop, if_pos h]
 simp
instance setMap {y : α} [hf : EncOne f] [ha : AsF f x y] : SetAt (l.map f) o x (o < l.length) ((l.set o y).map f) := ⟨fun h => ⟨by simpa using h, by rw [ha.eq]; exact splice_map h y⟩, by rw [ha.eq]; exact ⟨hf.cells y, hf.one y⟩⟩
instance (priority := 70) ldEl [hv : VarAt b σ t cs put rest] [h : ElemAt cs o cond u] : Stp (Do (loadA false 1 (ptrAt b o) σ) K) (Need cond (K u)) := ⟨fun ⟨h1, hK⟩ => by
 obtain ⟨g1, g2⟩ := h.get h1
 obtain ⟨σ1, σ2, e, _⟩ := hv.at_
 exact ⟨u, ⟨by decide, fun _ => rfl, rfl, t, cs, by rw [e]; simp, by show o + 1 ≤ _; omega, by show u = mkV false ((cs.drop o).take 1); rw [g2]; rfl⟩, hK⟩⟩
instance (priority := 70) stEl [hv : VarAt b σ t cs put rest] [h : SetAt cs o x cond cs'] : Stp (storeA 1 (ptrAt b o) x σ k) (Need cond (k .undef (put (.var b t cs')))) := ⟨fun ⟨h1, hK⟩ => by
 obtain ⟨g1, g2⟩ := h.set h1
 obtain ⟨σ1, σ2, e, e2, _⟩ := hv.at_
 refine ⟨by rw [h.plain.1]; rfl, by rw [h.plain.1]; intro c hc; rw [List.mem_singleton.1 hc]; exact h.plain.2, rfl, σ1, σ2, t, cs, e, by show o + 1 ≤ _; omega, ?_⟩
 rw [e2] at hK
 rw [h.plain.1, g2]
 exact hK⟩
instance (priority := 60) ldAll [hf : EncOne f] [hv : VarAt b σ t (l.map f) put rest] : Stp (Do (loadA true s (ptrAt b 0) σ) K) (Need (l.length = s ∧ 0 < s) (K (.agg (l.map f)))) := ⟨fun ⟨h1, hK⟩ => by
 obtain ⟨σ1, σ2, e, _⟩ := hv.at_
 refine ⟨_, ⟨h1.2, fun h => by (cases h), rfl, t, l.map f, by rw [e]; simp, by simp [h1.1], ?_⟩, hK⟩
 rw [List.drop_zero, List.take_of_length_le (by simp [h1.1])]
 rfl⟩
instance (priority := 60) stAll [hf : EncOne f] [hv : VarAt b σ t (l.map f) put rest] : Stp (storeA s (ptrAt b 0) (.agg (l'.map f)) σ k) (Need (l.length = s ∧ l'.length = s) (k .undef (put (.var b t (l'.map f))))) := ⟨fun ⟨h1, hK⟩ => by
 obtain ⟨σ1, σ2, e, e2, _⟩ := hv.at_
 refine ⟨by simp [AV.cells, h1.2], fun c hc => ?_, rfl, σ1, σ2, t, l.map f, e, by simp [h1.1], ?_⟩
 ·obtain ⟨y, _, rfl⟩ := List.mem_map.1 (show c ∈ l'.map f from hc)
  exact hf.one y
 ·rw [e2] at hK
  have : splice (l.map f) 0 (AV.cells (.agg (l'.map f))) = l'.map f := by
   show splice (l.map f) 0 (l'.map f) = _
   unfold splice
   rw [List.take_zero, List.nil_append, Nat.zero_add, List.drop_of_length_le (by simp; omega), List.append_nil]
  rw [this]
  exact hK⟩
instance slA [h : NatOf z a] : Stp (Do (aSlice (.array n) 1 (ptrAt b o) (some (.val (.int kk z))) none none) K) (Need (a < n) (K (.val (.slice (some ⟨b, o + a, none⟩) (n - a) (n - a))))) := ⟨fun ⟨h1, hK⟩ => by
 have e := h.eq
 subst e
 refine ⟨_, ⟨by omega, by omega, Int.le_refl _, rfl⟩, ?_⟩
 rw [Int.toNat_natCast, if_neg (by omega), addr_lit_add, Nat.mul_one, show ((n : Int) - (a : Int)).toNat = n - a by omega]
 exact hK⟩
instance slA0 : Stp (Do (aSlice (.array n) 1 (ptrAt b o) none none none) K) (K (.val (.slice (some ⟨b, o, none⟩) n n))) := ⟨fun hK => by
 refine ⟨_, ⟨Int.le_refl _, by omega, Int.le_refl _, rfl⟩, ?_⟩
 have e1 : ((n : Int) - 0).toNat = n := by omega
 have e2 : (if n = Int.toNat 0 then (⟨b, o, none⟩ : Addr) else (⟨b, o, none⟩ : Addr).add (Int.toNat 0 * 1)) = ⟨b, o, none⟩ := by
  split
  ·rfl
  ·rw [addr_lit_add]; rfl
 rw [e1, e2]
 exact hK⟩
instance (priority := 70) srcV [Inhabited α] [hf : EncOne f] [hv : VarAt b σ t (l.map f) put rest] [he : Enc f 1] : SrcI 1 σ (.val (.slice (some ⟨b, 0, none⟩) l.length m)) α f l := ⟨⟨.inr ⟨rfl, rfl, t, l.map f, by
  obtain ⟨σ1, σ2, e, _⟩ := hv.at_
  rw [e]; simp, by simp, fun c hc => by obtain ⟨y, _, rfl⟩ := List.mem_map.1 hc; rw [hf.cells]; rfl, by rw [List.drop_zero, List.take_of_length_le (by simp)]⟩, fun _ c hc => by obtain ⟨y, _, rfl⟩ := List.mem_map.1 hc; rw [hf.cells]; rfl⟩⟩
class ArrZ (zs : List AV) (α : outParam Type) (f : outParam (α → AV)) : Prop where
 some : True
instance (r : List AV) : ArrZ (.val (.int .u32 0) :: r) UInt32 wrd := ⟨trivial⟩
instance (priority := 60) litA {zs : List AV} {offs : List (Nat × Nat)} {parts : List (Nat × AV)} {ys : List α} [hz : ArrZ zs α f] [hf : EncOne f] [hp : Parts f parts 0 ys] : Stp (Do (aLit zs offs parts) K) (Fact (fillA (offs[·]?) zs parts = some (ys.map f)) (K (.agg (ys.map f)))) := ⟨fun ⟨h, hK⟩ => ⟨_, ⟨fun p hpm c hc => by
 rw [hp.eq] at hpm
 obtain ⟨q, hq, rfl⟩ := List.mem_map.1 hpm
 have h2 := List.mem_zipIdx hq |>.2
 have : q.1 ∈ ys.map f := by
  rw [h2.2]
  exact List.getElem_mem _
 obtain ⟨y, _, e⟩ := List.mem_map.1 this
 rw [← e, hf.cells] at hc
 rw [List.mem_singleton.1 hc]
 exact hf.one y, _, h, rfl⟩, hK⟩⟩
end arr
end Go.Ab
