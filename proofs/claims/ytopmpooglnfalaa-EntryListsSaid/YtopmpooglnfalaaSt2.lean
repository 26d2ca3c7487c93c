/- Steps (part 2): numbers of a byte, of four bytes, of eight. Printed by wip/st/mk2.py. -/
import Derived.Test.YtopmpooglnfalaaSt1
set_option linter.unusedVariables false
set_option linter.unusedSimpArgs false
namespace Go.Ab
variable {P : Program}
class KindIs (P : Program) (t : TypeId) (k : outParam IntKind) : Prop where
  h : kindOf P t = some k
theorem g_xor {t : TypeId} {k : IntKind} {x y : Int} {K : AV → Prop} (hk : k.signed = false) (hx : 0 ≤ x) (hx' : x < 2 ^ k.bits) (hy : 0 ≤ y) (hy' : y < 2 ^ k.bits) (hK : K (.val (.int k ((x.toNat ^^^ y.toNat : Nat) : Int)))) : ∃ u, aBin P .xor t (.val (.int k x)) (.val (.int k y)) u ∧ K u := by
  refine ⟨_, ?_, hK⟩
  refine (aBin_val fun _ _ w => ?_).2 rfl
  obtain ⟨a, rfl⟩ := Int.eq_ofNat_of_zero_le hx
  obtain ⟨b, rfl⟩ := Int.eq_ofNat_of_zero_le hy
  have ha : a < 2 ^ k.bits := by exact_mod_cast hx'
  have hb : b < 2 ^ k.bits := by exact_mod_cast hy'
  have e : (a ^^^ b) < 2 ^ k.bits := Nat.xor_lt_two_pow ha hb
  have hw : k.wrap ((a ^^^ b : Nat) : Int) = ((a ^^^ b : Nat) : Int) := by
    simp only [IntKind.wrap, hk, Bool.false_and]
    rw [if_neg (by simp)]
    exact_mod_cast Nat.mod_eq_of_lt e
  simp [eqGuard, binOp, Op.intBits, BitVec.ofInt_natCast, Nat.mod_eq_of_lt ha, Nat.mod_eq_of_lt hb, hw]
section conv
variable {s d : TypeId} {x : Int} {a : Nat} {k : IntKind} {K : AV → Prop}
instance convN [hd : KindIs P d .i64] [hs : KindIs P s k] [h : NatOf x a] : Stp (Do (fun u => aConvN s d (.val (.int k x)) u P) K) (Need (a ≤ 9223372036854775807) (K (.val (.int .i64 (a : Int))))) :=
  ⟨fun ⟨h1, h2⟩ => s_conv_i64 hd.h (by rw [h.eq]; omega) (by rw [h.eq]; omega) hs.h (by rw [h.eq]; exact h2)⟩
instance (priority := 90) convI [hd : KindIs P d .i64] [hs : KindIs P s k] : Stp (Do (fun u => aConvN s d (.val (.int k x)) u P) K) (Need (-9223372036854775808 ≤ x ∧ x ≤ 9223372036854775807) (K (.val (.int .i64 x)))) :=
  ⟨fun ⟨h1, h2⟩ => s_conv_i64 hd.h h1.1 h1.2 hs.h h2⟩
end conv

section w8
variable {t s d : TypeId} {x y : Int} {a b : Nat} {v w : UInt8} {kk k' : IntKind} {K : AV → Prop}
instance (priority := 1100) natLit8 (k : Nat) : NatOf (((no_index (@OfNat.ofNat UInt8 k UInt8.instOfNat)).toNat : Nat) : Int) (k % 256) := ⟨rfl⟩
theorem lt8 (v : UInt8) : v.toNat < 256 := UInt8.toNat_lt v
instance add8 [h : U8Of x v] [k : U8Of y w] : Stp (Do (aBin P .add t (.val (.int .u8 x)) (.val (.int .u8 y))) K) (K (W8 (v + w))) :=
  ⟨fun hK => ⟨_, r_add.2 rfl, by
    have e : IntKind.wrap .u8 (x + y) = (((v + w).toNat : Nat) : Int) := by rw [wrap_u8', h.eq, k.eq, UInt8.toNat_add]; omega
    rw [e]; exact hK⟩⟩
instance sub8 [h : U8Of x v] [k : U8Of y w] : Stp (Do (aBin P .sub t (.val (.int .u8 x)) (.val (.int .u8 y))) K) (K (W8 (v - w))) :=
  ⟨fun hK => ⟨_, r_sub.2 rfl, by
    have e : IntKind.wrap .u8 (x - y) = (((v - w).toNat : Nat) : Int) := by
      have := lt8 v
      have := lt8 w
      rw [wrap_u8', h.eq, k.eq, UInt8.toNat_sub]; omega
    rw [e]; exact hK⟩⟩
instance mul8 [h : U8Of x v] [k : U8Of y w] : Stp (Do (aBin P .mul t (.val (.int .u8 x)) (.val (.int .u8 y))) K) (K (W8 (v * w))) :=
  ⟨fun hK => ⟨_, r_mul.2 rfl, by
    have e : IntKind.wrap .u8 (x * y) = (((v * w).toNat : Nat) : Int) := by
      rw [wrap_u8', h.eq, k.eq, UInt8.toNat_mul, ← Int.natCast_mul]; omega
    rw [e]; exact hK⟩⟩
instance or8 [h : U8Of x v] [k : U8Of y w] : Stp (Do (aBin P .or t (.val (.int .u8 x)) (.val (.int .u8 y))) K) (K (W8 (v ||| w))) :=
  ⟨fun hK => g_or rfl (by rw [h.eq]; omega) (by rw [h.eq]; have := lt8 v; simp only [IntKind.bits]; omega) (by rw [k.eq]; omega) (by rw [k.eq]; have := lt8 w; simp only [IntKind.bits]; omega) (by
    rw [h.eq, k.eq, Int.toNat_natCast, Int.toNat_natCast, ← UInt8.toNat_or]; exact hK)⟩
instance and8 [h : U8Of x v] [k : U8Of y w] : Stp (Do (aBin P .and t (.val (.int .u8 x)) (.val (.int .u8 y))) K) (K (W8 (v &&& w))) :=
  ⟨fun hK => g_and rfl (by rw [h.eq]; omega) (by rw [h.eq]; have := lt8 v; simp only [IntKind.bits]; omega) (by rw [k.eq]; omega) (by rw [k.eq]; have := lt8 w; simp only [IntKind.bits]; omega) (by
    rw [h.eq, k.eq, Int.toNat_natCast, Int.toNat_natCast, ← UInt8.toNat_and]; exact hK)⟩
instance xor8 [h : U8Of x v] [k : U8Of y w] : Stp (Do (aBin P .xor t (.val (.int .u8 x)) (.val (.int .u8 y))) K) (K (W8 (v ^^^ w))) :=
  ⟨fun hK => g_xor rfl (by rw [h.eq]; omega) (by rw [h.eq]; have := lt8 v; simp only [IntKind.bits]; omega) (by rw [k.eq]; omega) (by rw [k.eq]; have := lt8 w; simp only [IntKind.bits]; omega) (by
    rw [h.eq, k.eq, Int.toNat_natCast, Int.toNat_natCast, ← UInt8.toNat_xor]; exact hK)⟩
instance shl8 [h : U8Of x v] [k : NatOf y b] : Stp (Do (aBin P .shl t (.val (.int .u8 x)) (.val (.int k' y))) K) (Need (b < 8) (K (W8 (v <<< UInt8.ofNat b)))) :=
  ⟨fun ⟨h1, h2⟩ => ⟨_, (r_shl (by rw [k.eq]; omega)).2 rfl, by
    have e : IntKind.wrap .u8 (x * 2 ^ min y.toNat (IntKind.bits .u8)) = (((v <<< UInt8.ofNat b).toNat : Nat) : Int) := by
      have hb : min (b : Int).toNat (IntKind.bits .u8) = b := by simp only [IntKind.bits, Int.toNat_natCast]; omega
      have hm : (UInt8.ofNat b).toNat % 8 = b := by simp only [UInt8.toNat_ofNat']; omega
      rw [h.eq, k.eq, hb, wrap_u8', UInt8.toNat_shiftLeft, hm, Nat.shiftLeft_eq, show (2 : Nat) ^ 8 = 256 from rfl, Int.natCast_emod, Int.natCast_mul, Int.natCast_pow]
      rfl
    rw [e]; exact h2⟩⟩
instance shr8 [h : U8Of x v] [k : NatOf y b] : Stp (Do (aBin P .shr t (.val (.int .u8 x)) (.val (.int k' y))) K) (Need (b < 8) (K (W8 (v >>> UInt8.ofNat b)))) :=
  ⟨fun ⟨h1, h2⟩ => ⟨_, (r_shr (by rw [k.eq]; omega)).2 rfl, by
    have e : x.fdiv (2 ^ min y.toNat (IntKind.bits .u8)) = (((v >>> UInt8.ofNat b).toNat : Nat) : Int) := by
      have hb : min (b : Int).toNat (IntKind.bits .u8) = b := by simp only [IntKind.bits, Int.toNat_natCast]; omega
      have hm : (UInt8.ofNat b).toNat % 8 = b := by simp only [UInt8.toNat_ofNat']; omega
      rw [h.eq, k.eq, hb, UInt8.toNat_shiftRight, hm, Nat.shiftRight_eq_div_pow, shr_nat]
    rw [e]; exact h2⟩⟩
instance quo8 [h : U8Of x v] [k : U8Of y w] : Stp (Do (aBin P .quo t (.val (.int .u8 x)) (.val (.int .u8 y))) K) (Need (0 < w.toNat) (K (W8 (v / w)))) :=
  ⟨fun ⟨h1, h2⟩ => ⟨_, (r_quo (by rw [k.eq]; omega)).2 rfl, by
    have e : IntKind.wrap .u8 (x.tdiv y) = (((v / w).toNat : Nat) : Int) := by
      have h3 := lt8 v
      have h4 := Nat.div_le_self v.toNat w.toNat
      have e0 : ((v.toNat : Nat) : Int).tdiv ((w.toNat : Nat) : Int) = ((v.toNat / w.toNat : Nat) : Int) := (Int.ofNat_tdiv _ _).symm
      rw [h.eq, k.eq, UInt8.toNat_div, e0, wrap_u8']
      generalize v.toNat / w.toNat = q at h4
      omega
    rw [e]; exact h2⟩⟩
instance (priority := 1100) rem8 [h : U8Of x v] [k : U8Of y w] : Stp (Do (aBin P .rem t (.val (.int .u8 x)) (.val (.int .u8 y))) K) (Need (0 < w.toNat) (K (W8 (v % w)))) :=
  ⟨fun ⟨h1, h2⟩ => ⟨_, (r_rem (by rw [k.eq]; omega)).2 rfl, by
    have e : x.tmod y = (((v % w).toNat : Nat) : Int) := by
      rw [h.eq, k.eq, UInt8.toNat_mod, Int.ofNat_tmod]
    rw [e]; exact h2⟩⟩
instance not8 [h : U8Of x v] : Stp (Do (aUn P .xor (.val (.int .u8 x))) K) (K (W8 (~~~v))) :=
  ⟨fun hK => ⟨W8 (~~~v), ⟨_, rfl, fun w0 => by
    have hv := lt8 v
    have e1 : BitVec.ofInt 8 (IntKind.max .u8) = BitVec.allOnes 8 := by decide
    have e2 : BitVec.ofInt 8 ((v.toNat : Nat) : Int) = v.toBitVec := by rw [BitVec.ofInt_natCast]; simp
    have e3 : IntKind.wrap .u8 (((BitVec.allOnes 8 ^^^ v.toBitVec).toNat : Nat) : Int) = (((~~~v).toNat : Nat) : Int) := by
      have h1 : (~~~v).toNat = (BitVec.allOnes 8 ^^^ v.toBitVec).toNat := by
        rw [BitVec.allOnes_xor]; rfl
      rw [h1]
      have h2 := (BitVec.allOnes 8 ^^^ v.toBitVec).isLt
      rw [wrap_u8']; omega
    rw [h.eq]
    simp only [Op.unary, Op.intBits, IntKind.bits, IntKind.signed, Bool.false_eq_true, if_false, e1, e2]
    show (pure (Value.int .u8 (IntKind.wrap .u8 ((BitVec.allOnes 8 ^^^ v.toBitVec).toNat : Int))) : Sem Value).run P w0 = _
    rw [e3]; rfl⟩, hK⟩⟩
instance conv8 [hd : KindIs P d .u8] [hs : KindIs P s kk] [h : NatOf x a] : Stp (Do (fun u => aConvN s d (.val (.int kk x)) u P) K) (K (W8 (UInt8.ofNat a))) :=
  ⟨fun hK => s_conv hd.h hs.h (by
    have e : IntKind.wrap .u8 x = (((UInt8.ofNat a).toNat : Nat) : Int) := by rw [wrap_u8', h.eq, UInt8.toNat_ofNat']; omega
    rw [e]; exact hK)⟩
instance (priority := 90) convi8 [hd : KindIs P d .u8] [hs : KindIs P s kk] : Stp (Do (fun u => aConvN s d (.val (.int kk x)) u P) K) (Need (0 ≤ x) (K (W8 (UInt8.ofNat x.toNat)))) :=
  ⟨fun ⟨h1, hK⟩ => s_conv hd.h hs.h (by
    have e : IntKind.wrap .u8 x = (((UInt8.ofNat x.toNat).toNat : Nat) : Int) := by rw [wrap_u8', UInt8.toNat_ofNat']; omega
    rw [e]; exact hK)⟩
instance (priority := 1100) convs8 [hd : KindIs P d .u8] [hs : KindIs P s .u8] [h : U8Of x v] : Stp (Do (fun u => aConvN s d (.val (.int .u8 x)) u P) K) (K (W8 v)) :=
  ⟨fun hK => s_conv hd.h hs.h (by
    have := lt8 v
    have e : IntKind.wrap .u8 x = ((v.toNat : Nat) : Int) := by rw [wrap_u8', h.eq]; omega
    rw [e]; exact hK)⟩
instance (priority := 1100) min8 {t' : TypeId} [h : U8Of x v] [k : U8Of y w] : Stp (Do (aBuiltin P .min #[t, t'] [.val (.int .u8 x), .val (.int .u8 y)]) K) (K (W8 (if v.toNat ≤ w.toNat then v else w))) :=
  ⟨fun hK => s_min (by
    have e : min x y = (((if v.toNat ≤ w.toNat then v else w).toNat : Nat) : Int) := by rw [h.eq, k.eq]; split <;> omega
    rw [e]; exact hK)⟩
end w8
section w32
variable {t s d : TypeId} {x y : Int} {a b : Nat} {v w : UInt32} {kk k' : IntKind} {K : AV → Prop}
instance (priority := 1100) natLit32 (k : Nat) : NatOf (((no_index (@OfNat.ofNat UInt32 k UInt32.instOfNat)).toNat : Nat) : Int) (k % 4294967296) := ⟨rfl⟩
theorem lt32 (v : UInt32) : v.toNat < 4294967296 := UInt32.toNat_lt v
instance add32 [h : U32Of x v] [k : U32Of y w] : Stp (Do (aBin P .add t (.val (.int .u32 x)) (.val (.int .u32 y))) K) (K (W32 (v + w))) :=
  ⟨fun hK => ⟨_, r_add.2 rfl, by
    have e : IntKind.wrap .u32 (x + y) = (((v + w).toNat : Nat) : Int) := by rw [wrap_u32', h.eq, k.eq, UInt32.toNat_add]; omega
    rw [e]; exact hK⟩⟩
instance sub32 [h : U32Of x v] [k : U32Of y w] : Stp (Do (aBin P .sub t (.val (.int .u32 x)) (.val (.int .u32 y))) K) (K (W32 (v - w))) :=
  ⟨fun hK => ⟨_, r_sub.2 rfl, by
    have e : IntKind.wrap .u32 (x - y) = (((v - w).toNat : Nat) : Int) := by
      have := lt32 v
      have := lt32 w
      rw [wrap_u32', h.eq, k.eq, UInt32.toNat_sub]; omega
    rw [e]; exact hK⟩⟩
instance mul32 [h : U32Of x v] [k : U32Of y w] : Stp (Do (aBin P .mul t (.val (.int .u32 x)) (.val (.int .u32 y))) K) (K (W32 (v * w))) :=
  ⟨fun hK => ⟨_, r_mul.2 rfl, by
    have e : IntKind.wrap .u32 (x * y) = (((v * w).toNat : Nat) : Int) := by
      rw [wrap_u32', h.eq, k.eq, UInt32.toNat_mul, ← Int.natCast_mul]; omega
    rw [e]; exact hK⟩⟩
instance or32 [h : U32Of x v] [k : U32Of y w] : Stp (Do (aBin P .or t (.val (.int .u32 x)) (.val (.int .u32 y))) K) (K (W32 (v ||| w))) :=
  ⟨fun hK => g_or rfl (by rw [h.eq]; omega) (by rw [h.eq]; have := lt32 v; simp only [IntKind.bits]; omega) (by rw [k.eq]; omega) (by rw [k.eq]; have := lt32 w; simp only [IntKind.bits]; omega) (by
    rw [h.eq, k.eq, Int.toNat_natCast, Int.toNat_natCast, ← UInt32.toNat_or]; exact hK)⟩
instance and32 [h : U32Of x v] [k : U32Of y w] : Stp (Do (aBin P .and t (.val (.int .u32 x)) (.val (.int .u32 y))) K) (K (W32 (v &&& w))) :=
  ⟨fun hK => g_and rfl (by rw [h.eq]; omega) (by rw [h.eq]; have := lt32 v; simp only [IntKind.bits]; omega) (by rw [k.eq]; omega) (by rw [k.eq]; have := lt32 w; simp only [IntKind.bits]; omega) (by
    rw [h.eq, k.eq, Int.toNat_natCast, Int.toNat_natCast, ← UInt32.toNat_and]; exact hK)⟩
instance xor32 [h : U32Of x v] [k : U32Of y w] : Stp (Do (aBin P .xor t (.val (.int .u32 x)) (.val (.int .u32 y))) K) (K (W32 (v ^^^ w))) :=
  ⟨fun hK => g_xor rfl (by rw [h.eq]; omega) (by rw [h.eq]; have := lt32 v; simp only [IntKind.bits]; omega) (by rw [k.eq]; omega) (by rw [k.eq]; have := lt32 w; simp only [IntKind.bits]; omega) (by
    rw [h.eq, k.eq, Int.toNat_natCast, Int.toNat_natCast, ← UInt32.toNat_xor]; exact hK)⟩
instance shl32 [h : U32Of x v] [k : NatOf y b] : Stp (Do (aBin P .shl t (.val (.int .u32 x)) (.val (.int k' y))) K) (Need (b < 32) (K (W32 (v <<< UInt32.ofNat b)))) :=
  ⟨fun ⟨h1, h2⟩ => ⟨_, (r_shl (by rw [k.eq]; omega)).2 rfl, by
    have e : IntKind.wrap .u32 (x * 2 ^ min y.toNat (IntKind.bits .u32)) = (((v <<< UInt32.ofNat b).toNat : Nat) : Int) := by
      have hb : min (b : Int).toNat (IntKind.bits .u32) = b := by simp only [IntKind.bits, Int.toNat_natCast]; omega
      have hm : (UInt32.ofNat b).toNat % 32 = b := by simp only [UInt32.toNat_ofNat']; omega
      rw [h.eq, k.eq, hb, wrap_u32', UInt32.toNat_shiftLeft, hm, Nat.shiftLeft_eq, show (2 : Nat) ^ 32 = 4294967296 from rfl, Int.natCast_emod, Int.natCast_mul, Int.natCast_pow]
      rfl
    rw [e]; exact h2⟩⟩
instance shr32 [h : U32Of x v] [k : NatOf y b] : Stp (Do (aBin P .shr t (.val (.int .u32 x)) (.val (.int k' y))) K) (Need (b < 32) (K (W32 (v >>> UInt32.ofNat b)))) :=
  ⟨fun ⟨h1, h2⟩ => ⟨_, (r_shr (by rw [k.eq]; omega)).2 rfl, by
    have e : x.fdiv (2 ^ min y.toNat (IntKind.bits .u32)) = (((v >>> UInt32.ofNat b).toNat : Nat) : Int) := by
      have hb : min (b : Int).toNat (IntKind.bits .u32) = b := by simp only [IntKind.bits, Int.toNat_natCast]; omega
      have hm : (UInt32.ofNat b).toNat % 32 = b := by simp only [UInt32.toNat_ofNat']; omega
      rw [h.eq, k.eq, hb, UInt32.toNat_shiftRight, hm, Nat.shiftRight_eq_div_pow, shr_nat]
    rw [e]; exact h2⟩⟩
instance quo32 [h : U32Of x v] [k : U32Of y w] : Stp (Do (aBin P .quo t (.val (.int .u32 x)) (.val (.int .u32 y))) K) (Need (0 < w.toNat) (K (W32 (v / w)))) :=
  ⟨fun ⟨h1, h2⟩ => ⟨_, (r_quo (by rw [k.eq]; omega)).2 rfl, by
    have e : IntKind.wrap .u32 (x.tdiv y) = (((v / w).toNat : Nat) : Int) := by
      have h3 := lt32 v
      have h4 := Nat.div_le_self v.toNat w.toNat
      have e0 : ((v.toNat : Nat) : Int).tdiv ((w.toNat : Nat) : Int) = ((v.toNat / w.toNat : Nat) : Int) := (Int.ofNat_tdiv _ _).symm
      rw [h.eq, k.eq, UInt32.toNat_div, e0, wrap_u32']
      generalize v.toNat / w.toNat = q at h4
      omega
    rw [e]; exact h2⟩⟩
instance (priority := 1100) rem32 [h : U32Of x v] [k : U32Of y w] : Stp (Do (aBin P .rem t (.val (.int .u32 x)) (.val (.int .u32 y))) K) (Need (0 < w.toNat) (K (W32 (v % w)))) :=
  ⟨fun ⟨h1, h2⟩ => ⟨_, (r_rem (by rw [k.eq]; omega)).2 rfl, by
    have e : x.tmod y = (((v % w).toNat : Nat) : Int) := by
      rw [h.eq, k.eq, UInt32.toNat_mod, Int.ofNat_tmod]
    rw [e]; exact h2⟩⟩
instance not32 [h : U32Of x v] : Stp (Do (aUn P .xor (.val (.int .u32 x))) K) (K (W32 (~~~v))) :=
  ⟨fun hK => ⟨W32 (~~~v), ⟨_, rfl, fun w0 => by
    have hv := lt32 v
    have e1 : BitVec.ofInt 32 (IntKind.max .u32) = BitVec.allOnes 32 := by decide
    have e2 : BitVec.ofInt 32 ((v.toNat : Nat) : Int) = v.toBitVec := by rw [BitVec.ofInt_natCast]; simp
    have e3 : IntKind.wrap .u32 (((BitVec.allOnes 32 ^^^ v.toBitVec).toNat : Nat) : Int) = (((~~~v).toNat : Nat) : Int) := by
      have h1 : (~~~v).toNat = (BitVec.allOnes 32 ^^^ v.toBitVec).toNat := by
        rw [BitVec.allOnes_xor]; rfl
      rw [h1]
      have h2 := (BitVec.allOnes 32 ^^^ v.toBitVec).isLt
      rw [wrap_u32']; omega
    rw [h.eq]
    simp only [Op.unary, Op.intBits, IntKind.bits, IntKind.signed, Bool.false_eq_true, if_false, e1, e2]
    show (pure (Value.int .u32 (IntKind.wrap .u32 ((BitVec.allOnes 32 ^^^ v.toBitVec).toNat : Int))) : Sem Value).run P w0 = _
    rw [e3]; rfl⟩, hK⟩⟩
instance conv32 [hd : KindIs P d .u32] [hs : KindIs P s kk] [h : NatOf x a] : Stp (Do (fun u => aConvN s d (.val (.int kk x)) u P) K) (K (W32 (UInt32.ofNat a))) :=
  ⟨fun hK => s_conv hd.h hs.h (by
    have e : IntKind.wrap .u32 x = (((UInt32.ofNat a).toNat : Nat) : Int) := by rw [wrap_u32', h.eq, UInt32.toNat_ofNat']; omega
    rw [e]; exact hK)⟩
instance (priority := 90) convi32 [hd : KindIs P d .u32] [hs : KindIs P s kk] : Stp (Do (fun u => aConvN s d (.val (.int kk x)) u P) K) (Need (0 ≤ x) (K (W32 (UInt32.ofNat x.toNat)))) :=
  ⟨fun ⟨h1, hK⟩ => s_conv hd.h hs.h (by
    have e : IntKind.wrap .u32 x = (((UInt32.ofNat x.toNat).toNat : Nat) : Int) := by rw [wrap_u32', UInt32.toNat_ofNat']; omega
    rw [e]; exact hK)⟩
instance (priority := 1100) convs32 [hd : KindIs P d .u32] [hs : KindIs P s .u32] [h : U32Of x v] : Stp (Do (fun u => aConvN s d (.val (.int .u32 x)) u P) K) (K (W32 v)) :=
  ⟨fun hK => s_conv hd.h hs.h (by
    have := lt32 v
    have e : IntKind.wrap .u32 x = ((v.toNat : Nat) : Int) := by rw [wrap_u32', h.eq]; omega
    rw [e]; exact hK)⟩
instance (priority := 1100) min32 {t' : TypeId} [h : U32Of x v] [k : U32Of y w] : Stp (Do (aBuiltin P .min #[t, t'] [.val (.int .u32 x), .val (.int .u32 y)]) K) (K (W32 (if v.toNat ≤ w.toNat then v else w))) :=
  ⟨fun hK => s_min (by
    have e : min x y = (((if v.toNat ≤ w.toNat then v else w).toNat : Nat) : Int) := by rw [h.eq, k.eq]; split <;> omega
    rw [e]; exact hK)⟩
end w32
section w64
variable {t s d : TypeId} {x y : Int} {a b : Nat} {v w : UInt64} {kk k' : IntKind} {K : AV → Prop}
instance (priority := 1100) natLit64 (k : Nat) : NatOf (((no_index (@OfNat.ofNat UInt64 k UInt64.instOfNat)).toNat : Nat) : Int) (k % 18446744073709551616) := ⟨rfl⟩
theorem lt64 (v : UInt64) : v.toNat < 18446744073709551616 := UInt64.toNat_lt v
instance add64 [h : U64Of x v] [k : U64Of y w] : Stp (Do (aBin P .add t (.val (.int .u64 x)) (.val (.int .u64 y))) K) (K (W64 (v + w))) :=
  ⟨fun hK => ⟨_, r_add.2 rfl, by
    have e : IntKind.wrap .u64 (x + y) = (((v + w).toNat : Nat) : Int) := by rw [wrap_u64', h.eq, k.eq, UInt64.toNat_add]; omega
    rw [e]; exact hK⟩⟩
instance sub64 [h : U64Of x v] [k : U64Of y w] : Stp (Do (aBin P .sub t (.val (.int .u64 x)) (.val (.int .u64 y))) K) (K (W64 (v - w))) :=
  ⟨fun hK => ⟨_, r_sub.2 rfl, by
    have e : IntKind.wrap .u64 (x - y) = (((v - w).toNat : Nat) : Int) := by
      have := lt64 v
      have := lt64 w
      rw [wrap_u64', h.eq, k.eq, UInt64.toNat_sub]; omega
    rw [e]; exact hK⟩⟩
instance mul64 [h : U64Of x v] [k : U64Of y w] : Stp (Do (aBin P .mul t (.val (.int .u64 x)) (.val (.int .u64 y))) K) (K (W64 (v * w))) :=
  ⟨fun hK => ⟨_, r_mul.2 rfl, by
    have e : IntKind.wrap .u64 (x * y) = (((v * w).toNat : Nat) : Int) := by
      rw [wrap_u64', h.eq, k.eq, UInt64.toNat_mul, ← Int.natCast_mul]; omega
    rw [e]; exact hK⟩⟩
instance or64 [h : U64Of x v] [k : U64Of y w] : Stp (Do (aBin P .or t (.val (.int .u64 x)) (.val (.int .u64 y))) K) (K (W64 (v ||| w))) :=
  ⟨fun hK => g_or rfl (by rw [h.eq]; omega) (by rw [h.eq]; have := lt64 v; simp only [IntKind.bits]; omega) (by rw [k.eq]; omega) (by rw [k.eq]; have := lt64 w; simp only [IntKind.bits]; omega) (by
    rw [h.eq, k.eq, Int.toNat_natCast, Int.toNat_natCast, ← UInt64.toNat_or]; exact hK)⟩
instance and64 [h : U64Of x v] [k : U64Of y w] : Stp (Do (aBin P .and t (.val (.int .u64 x)) (.val (.int .u64 y))) K) (K (W64 (v &&& w))) :=
  ⟨fun hK => g_and rfl (by rw [h.eq]; omega) (by rw [h.eq]; have := lt64 v; simp only [IntKind.bits]; omega) (by rw [k.eq]; omega) (by rw [k.eq]; have := lt64 w; simp only [IntKind.bits]; omega) (by
    rw [h.eq, k.eq, Int.toNat_natCast, Int.toNat_natCast, ← UInt64.toNat_and]; exact hK)⟩
instance xor64 [h : U64Of x v] [k : U64Of y w] : Stp (Do (aBin P .xor t (.val (.int .u64 x)) (.val (.int .u64 y))) K) (K (W64 (v ^^^ w))) :=
  ⟨fun hK => g_xor rfl (by rw [h.eq]; omega) (by rw [h.eq]; have := lt64 v; simp only [IntKind.bits]; omega) (by rw [k.eq]; omega) (by rw [k.eq]; have := lt64 w; simp only [IntKind.bits]; omega) (by
    rw [h.eq, k.eq, Int.toNat_natCast, Int.toNat_natCast, ← UInt64.toNat_xor]; exact hK)⟩
instance shl64 [h : U64Of x v] [k : NatOf y b] : Stp (Do (aBin P .shl t (.val (.int .u64 x)) (.val (.int k' y))) K) (Need (b < 64) (K (W64 (v <<< UInt64.ofNat b)))) :=
  ⟨fun ⟨h1, h2⟩ => ⟨_, (r_shl (by rw [k.eq]; omega)).2 rfl, by
    have e : IntKind.wrap .u64 (x * 2 ^ min y.toNat (IntKind.bits .u64)) = (((v <<< UInt64.ofNat b).toNat : Nat) : Int) := by
      have hb : min (b : Int).toNat (IntKind.bits .u64) = b := by simp only [IntKind.bits, Int.toNat_natCast]; omega
      have hm : (UInt64.ofNat b).toNat % 64 = b := by simp only [UInt64.toNat_ofNat']; omega
      rw [h.eq, k.eq, hb, wrap_u64', UInt64.toNat_shiftLeft, hm, Nat.shiftLeft_eq, show (2 : Nat) ^ 64 = 18446744073709551616 from rfl, Int.natCast_emod, Int.natCast_mul, Int.natCast_pow]
      rfl
    rw [e]; exact h2⟩⟩
instance shr64 [h : U64Of x v] [k : NatOf y b] : Stp (Do (aBin P .shr t (.val (.int .u64 x)) (.val (.int k' y))) K) (Need (b < 64) (K (W64 (v >>> UInt64.ofNat b)))) :=
  ⟨fun ⟨h1, h2⟩ => ⟨_, (r_shr (by rw [k.eq]; omega)).2 rfl, by
    have e : x.fdiv (2 ^ min y.toNat (IntKind.bits .u64)) = (((v >>> UInt64.ofNat b).toNat : Nat) : Int) := by
      have hb : min (b : Int).toNat (IntKind.bits .u64) = b := by simp only [IntKind.bits, Int.toNat_natCast]; omega
      have hm : (UInt64.ofNat b).toNat % 64 = b := by simp only [UInt64.toNat_ofNat']; omega
      rw [h.eq, k.eq, hb, UInt64.toNat_shiftRight, hm, Nat.shiftRight_eq_div_pow, shr_nat]
    rw [e]; exact h2⟩⟩
instance quo64 [h : U64Of x v] [k : U64Of y w] : Stp (Do (aBin P .quo t (.val (.int .u64 x)) (.val (.int .u64 y))) K) (Need (0 < w.toNat) (K (W64 (v / w)))) :=
  ⟨fun ⟨h1, h2⟩ => ⟨_, (r_quo (by rw [k.eq]; omega)).2 rfl, by
    have e : IntKind.wrap .u64 (x.tdiv y) = (((v / w).toNat : Nat) : Int) := by
      have h3 := lt64 v
      have h4 := Nat.div_le_self v.toNat w.toNat
      have e0 : ((v.toNat : Nat) : Int).tdiv ((w.toNat : Nat) : Int) = ((v.toNat / w.toNat : Nat) : Int) := (Int.ofNat_tdiv _ _).symm
      rw [h.eq, k.eq, UInt64.toNat_div, e0, wrap_u64']
      generalize v.toNat / w.toNat = q at h4
      omega
    rw [e]; exact h2⟩⟩
instance (priority := 1100) rem64 [h : U64Of x v] [k : U64Of y w] : Stp (Do (aBin P .rem t (.val (.int .u64 x)) (.val (.int .u64 y))) K) (Need (0 < w.toNat) (K (W64 (v % w)))) :=
  ⟨fun ⟨h1, h2⟩ => ⟨_, (r_rem (by rw [k.eq]; omega)).2 rfl, by
    have e : x.tmod y = (((v % w).toNat : Nat) : Int) := by
      rw [h.eq, k.eq, UInt64.toNat_mod, Int.ofNat_tmod]
    rw [e]; exact h2⟩⟩
instance not64 [h : U64Of x v] : Stp (Do (aUn P .xor (.val (.int .u64 x))) K) (K (W64 (~~~v))) :=
  ⟨fun hK => ⟨W64 (~~~v), ⟨_, rfl, fun w0 => by
    have hv := lt64 v
    have e1 : BitVec.ofInt 64 (IntKind.max .u64) = BitVec.allOnes 64 := by decide
    have e2 : BitVec.ofInt 64 ((v.toNat : Nat) : Int) = v.toBitVec := by rw [BitVec.ofInt_natCast]; simp
    have e3 : IntKind.wrap .u64 (((BitVec.allOnes 64 ^^^ v.toBitVec).toNat : Nat) : Int) = (((~~~v).toNat : Nat) : Int) := by
      have h1 : (~~~v).toNat = (BitVec.allOnes 64 ^^^ v.toBitVec).toNat := by
        rw [BitVec.allOnes_xor]; rfl
      rw [h1]
      have h2 := (BitVec.allOnes 64 ^^^ v.toBitVec).isLt
      rw [wrap_u64']; omega
    rw [h.eq]
    simp only [Op.unary, Op.intBits, IntKind.bits, IntKind.signed, Bool.false_eq_true, if_false, e1, e2]
    show (pure (Value.int .u64 (IntKind.wrap .u64 ((BitVec.allOnes 64 ^^^ v.toBitVec).toNat : Int))) : Sem Value).run P w0 = _
    rw [e3]; rfl⟩, hK⟩⟩
instance conv64 [hd : KindIs P d .u64] [hs : KindIs P s kk] [h : NatOf x a] : Stp (Do (fun u => aConvN s d (.val (.int kk x)) u P) K) (K (W64 (UInt64.ofNat a))) :=
  ⟨fun hK => s_conv hd.h hs.h (by
    have e : IntKind.wrap .u64 x = (((UInt64.ofNat a).toNat : Nat) : Int) := by rw [wrap_u64', h.eq, UInt64.toNat_ofNat']; omega
    rw [e]; exact hK)⟩
instance (priority := 90) convi64 [hd : KindIs P d .u64] [hs : KindIs P s kk] : Stp (Do (fun u => aConvN s d (.val (.int kk x)) u P) K) (Need (0 ≤ x) (K (W64 (UInt64.ofNat x.toNat)))) :=
  ⟨fun ⟨h1, hK⟩ => s_conv hd.h hs.h (by
    have e : IntKind.wrap .u64 x = (((UInt64.ofNat x.toNat).toNat : Nat) : Int) := by rw [wrap_u64', UInt64.toNat_ofNat']; omega
    rw [e]; exact hK)⟩
instance (priority := 1100) convs64 [hd : KindIs P d .u64] [hs : KindIs P s .u64] [h : U64Of x v] : Stp (Do (fun u => aConvN s d (.val (.int .u64 x)) u P) K) (K (W64 v)) :=
  ⟨fun hK => s_conv hd.h hs.h (by
    have := lt64 v
    have e : IntKind.wrap .u64 x = ((v.toNat : Nat) : Int) := by rw [wrap_u64', h.eq]; omega
    rw [e]; exact hK)⟩
instance (priority := 1100) min64 {t' : TypeId} [h : U64Of x v] [k : U64Of y w] : Stp (Do (aBuiltin P .min #[t, t'] [.val (.int .u64 x), .val (.int .u64 y)]) K) (K (W64 (if v.toNat ≤ w.toNat then v else w))) :=
  ⟨fun hK => s_min (by
    have e : min x y = (((if v.toNat ≤ w.toNat then v else w).toNat : Nat) : Int) := by rw [h.eq, k.eq]; split <;> omega
    rw [e]; exact hK)⟩
end w64
instance (priority := 1200) : NatOf (((0 : UInt8).toNat : Nat) : Int) 0 := ⟨rfl⟩
instance (priority := 1200) : NatOf (((1 : UInt8).toNat : Nat) : Int) 1 := ⟨rfl⟩
instance (priority := 1200) : NatOf (((2 : UInt8).toNat : Nat) : Int) 2 := ⟨rfl⟩
instance (priority := 1200) : NatOf (((3 : UInt8).toNat : Nat) : Int) 3 := ⟨rfl⟩
instance (priority := 1200) : NatOf (((4 : UInt8).toNat : Nat) : Int) 4 := ⟨rfl⟩
instance (priority := 1200) : NatOf (((5 : UInt8).toNat : Nat) : Int) 5 := ⟨rfl⟩
instance (priority := 1200) : NatOf (((6 : UInt8).toNat : Nat) : Int) 6 := ⟨rfl⟩
instance (priority := 1200) : NatOf (((7 : UInt8).toNat : Nat) : Int) 7 := ⟨rfl⟩
instance (priority := 1200) : NatOf (((8 : UInt8).toNat : Nat) : Int) 8 := ⟨rfl⟩
instance (priority := 1200) : NatOf (((9 : UInt8).toNat : Nat) : Int) 9 := ⟨rfl⟩
instance (priority := 1200) : NatOf (((10 : UInt8).toNat : Nat) : Int) 10 := ⟨rfl⟩
instance (priority := 1200) : NatOf (((11 : UInt8).toNat : Nat) : Int) 11 := ⟨rfl⟩
instance (priority := 1200) : NatOf (((12 : UInt8).toNat : Nat) : Int) 12 := ⟨rfl⟩
instance (priority := 1200) : NatOf (((13 : UInt8).toNat : Nat) : Int) 13 := ⟨rfl⟩
instance (priority := 1200) : NatOf (((14 : UInt8).toNat : Nat) : Int) 14 := ⟨rfl⟩
instance (priority := 1200) : NatOf (((15 : UInt8).toNat : Nat) : Int) 15 := ⟨rfl⟩
instance (priority := 1200) : NatOf (((16 : UInt8).toNat : Nat) : Int) 16 := ⟨rfl⟩
instance (priority := 1200) : NatOf (((24 : UInt8).toNat : Nat) : Int) 24 := ⟨rfl⟩
instance (priority := 1200) : NatOf (((31 : UInt8).toNat : Nat) : Int) 31 := ⟨rfl⟩
instance (priority := 1200) : NatOf (((32 : UInt8).toNat : Nat) : Int) 32 := ⟨rfl⟩
instance (priority := 1200) : NatOf (((48 : UInt8).toNat : Nat) : Int) 48 := ⟨rfl⟩
instance (priority := 1200) : NatOf (((56 : UInt8).toNat : Nat) : Int) 56 := ⟨rfl⟩
instance (priority := 1200) : NatOf (((63 : UInt8).toNat : Nat) : Int) 63 := ⟨rfl⟩
instance (priority := 1200) : NatOf (((64 : UInt8).toNat : Nat) : Int) 64 := ⟨rfl⟩
instance (priority := 1200) : NatOf (((120 : UInt8).toNat : Nat) : Int) 120 := ⟨rfl⟩
instance (priority := 1200) : NatOf (((127 : UInt8).toNat : Nat) : Int) 127 := ⟨rfl⟩
instance (priority := 1200) : NatOf (((128 : UInt8).toNat : Nat) : Int) 128 := ⟨rfl⟩
instance (priority := 1200) : NatOf (((255 : UInt8).toNat : Nat) : Int) 255 := ⟨rfl⟩
instance (priority := 1200) : NatOf (((0 : UInt32).toNat : Nat) : Int) 0 := ⟨rfl⟩
instance (priority := 1200) : NatOf (((1 : UInt32).toNat : Nat) : Int) 1 := ⟨rfl⟩
instance (priority := 1200) : NatOf (((2 : UInt32).toNat : Nat) : Int) 2 := ⟨rfl⟩
instance (priority := 1200) : NatOf (((3 : UInt32).toNat : Nat) : Int) 3 := ⟨rfl⟩
instance (priority := 1200) : NatOf (((4 : UInt32).toNat : Nat) : Int) 4 := ⟨rfl⟩
instance (priority := 1200) : NatOf (((5 : UInt32).toNat : Nat) : Int) 5 := ⟨rfl⟩
instance (priority := 1200) : NatOf (((6 : UInt32).toNat : Nat) : Int) 6 := ⟨rfl⟩
instance (priority := 1200) : NatOf (((7 : UInt32).toNat : Nat) : Int) 7 := ⟨rfl⟩
instance (priority := 1200) : NatOf (((8 : UInt32).toNat : Nat) : Int) 8 := ⟨rfl⟩
instance (priority := 1200) : NatOf (((9 : UInt32).toNat : Nat) : Int) 9 := ⟨rfl⟩
instance (priority := 1200) : NatOf (((10 : UInt32).toNat : Nat) : Int) 10 := ⟨rfl⟩
instance (priority := 1200) : NatOf (((11 : UInt32).toNat : Nat) : Int) 11 := ⟨rfl⟩
instance (priority := 1200) : NatOf (((12 : UInt32).toNat : Nat) : Int) 12 := ⟨rfl⟩
instance (priority := 1200) : NatOf (((13 : UInt32).toNat : Nat) : Int) 13 := ⟨rfl⟩
instance (priority := 1200) : NatOf (((14 : UInt32).toNat : Nat) : Int) 14 := ⟨rfl⟩
instance (priority := 1200) : NatOf (((15 : UInt32).toNat : Nat) : Int) 15 := ⟨rfl⟩
instance (priority := 1200) : NatOf (((16 : UInt32).toNat : Nat) : Int) 16 := ⟨rfl⟩
instance (priority := 1200) : NatOf (((24 : UInt32).toNat : Nat) : Int) 24 := ⟨rfl⟩
instance (priority := 1200) : NatOf (((31 : UInt32).toNat : Nat) : Int) 31 := ⟨rfl⟩
instance (priority := 1200) : NatOf (((32 : UInt32).toNat : Nat) : Int) 32 := ⟨rfl⟩
instance (priority := 1200) : NatOf (((48 : UInt32).toNat : Nat) : Int) 48 := ⟨rfl⟩
instance (priority := 1200) : NatOf (((56 : UInt32).toNat : Nat) : Int) 56 := ⟨rfl⟩
instance (priority := 1200) : NatOf (((63 : UInt32).toNat : Nat) : Int) 63 := ⟨rfl⟩
instance (priority := 1200) : NatOf (((64 : UInt32).toNat : Nat) : Int) 64 := ⟨rfl⟩
instance (priority := 1200) : NatOf (((120 : UInt32).toNat : Nat) : Int) 120 := ⟨rfl⟩
instance (priority := 1200) : NatOf (((127 : UInt32).toNat : Nat) : Int) 127 := ⟨rfl⟩
instance (priority := 1200) : NatOf (((128 : UInt32).toNat : Nat) : Int) 128 := ⟨rfl⟩
instance (priority := 1200) : NatOf (((255 : UInt32).toNat : Nat) : Int) 255 := ⟨rfl⟩
instance (priority := 1200) : NatOf (((0 : UInt64).toNat : Nat) : Int) 0 := ⟨rfl⟩
instance (priority := 1200) : NatOf (((1 : UInt64).toNat : Nat) : Int) 1 := ⟨rfl⟩
instance (priority := 1200) : NatOf (((2 : UInt64).toNat : Nat) : Int) 2 := ⟨rfl⟩
instance (priority := 1200) : NatOf (((3 : UInt64).toNat : Nat) : Int) 3 := ⟨rfl⟩
instance (priority := 1200) : NatOf (((4 : UInt64).toNat : Nat) : Int) 4 := ⟨rfl⟩
instance (priority := 1200) : NatOf (((5 : UInt64).toNat : Nat) : Int) 5 := ⟨rfl⟩
instance (priority := 1200) : NatOf (((6 : UInt64).toNat : Nat) : Int) 6 := ⟨rfl⟩
instance (priority := 1200) : NatOf (((7 : UInt64).toNat : Nat) : Int) 7 := ⟨rfl⟩
instance (priority := 1200) : NatOf (((8 : UInt64).toNat : Nat) : Int) 8 := ⟨rfl⟩
instance (priority := 1200) : NatOf (((9 : UInt64).toNat : Nat) : Int) 9 := ⟨rfl⟩
instance (priority := 1200) : NatOf (((10 : UInt64).toNat : Nat) : Int) 10 := ⟨rfl⟩
instance (priority := 1200) : NatOf (((11 : UInt64).toNat : Nat) : Int) 11 := ⟨rfl⟩
instance (priority := 1200) : NatOf (((12 : UInt64).toNat : Nat) : Int) 12 := ⟨rfl⟩
instance (priority := 1200) : NatOf (((13 : UInt64).toNat : Nat) : Int) 13 := ⟨rfl⟩
instance (priority := 1200) : NatOf (((14 : UInt64).toNat : Nat) : Int) 14 := ⟨rfl⟩
instance (priority := 1200) : NatOf (((15 : UInt64).toNat : Nat) : Int) 15 := ⟨rfl⟩
instance (priority := 1200) : NatOf (((16 : UInt64).toNat : Nat) : Int) 16 := ⟨rfl⟩
instance (priority := 1200) : NatOf (((24 : UInt64).toNat : Nat) : Int) 24 := ⟨rfl⟩
instance (priority := 1200) : NatOf (((31 : UInt64).toNat : Nat) : Int) 31 := ⟨rfl⟩
instance (priority := 1200) : NatOf (((32 : UInt64).toNat : Nat) : Int) 32 := ⟨rfl⟩
instance (priority := 1200) : NatOf (((48 : UInt64).toNat : Nat) : Int) 48 := ⟨rfl⟩
instance (priority := 1200) : NatOf (((56 : UInt64).toNat : Nat) : Int) 56 := ⟨rfl⟩
instance (priority := 1200) : NatOf (((63 : UInt64).toNat : Nat) : Int) 63 := ⟨rfl⟩
instance (priority := 1200) : NatOf (((64 : UInt64).toNat : Nat) : Int) 64 := ⟨rfl⟩
instance (priority := 1200) : NatOf (((120 : UInt64).toNat : Nat) : Int) 120 := ⟨rfl⟩
instance (priority := 1200) : NatOf (((127 : UInt64).toNat : Nat) : Int) 127 := ⟨rfl⟩
instance (priority := 1200) : NatOf (((128 : UInt64).toNat : Nat) : Int) 128 := ⟨rfl⟩
instance (priority := 1200) : NatOf (((255 : UInt64).toNat : Nat) : Int) 255 := ⟨rfl⟩
end Go.Ab
