/- The sum of a text: what its functions do. -/
import Derived.Test.YtobhbepiaibceaaSp14
import Derived.Test.YtobhbepiaibceaaSt13
set_option linter.unusedVariables false
set_option linter.unusedSimpArgs false
namespace Go.Ab
def math_bits_RotateLeft32.mark : Mark := ⟨fun t => false, fun t => false, fun t => false, fun t => false, fun t => false⟩
def math_bits_RotateLeft32.ann : Ann := ⟨fun n => [], fun n => none, fun n => none⟩
/-- 'math/bits.RotateLeft32' -/
def math_bits_RotateLeft32.sh (a0 a1 : AV) (σ : Store) (Q : AEnd → Store → Prop) : Prop :=
  Do (fun x => aConvN 3 149 a1 x Go.Proofs.Try.prog) fun t7 =>
  Do (aBin Go.Proofs.Try.prog .and 149 t7 (W64 31)) fun t8 =>
  Do (aBin Go.Proofs.Try.prog .shl 187 a0 t8) fun t11 =>
  Do (aBin Go.Proofs.Try.prog .sub 149 (W64 32) t8) fun t14 =>
  Do (aBin Go.Proofs.Try.prog .shr 187 a0 t14) fun t15 =>
  Do (aBin Go.Proofs.Try.prog .or 187 t11 t15) fun t16 =>
  Q (.ret t16) σ
theorem math_bits_RotateLeft32.eq (a0 a1 : AV) (σ : Store) (Q : AEnd → Store → Prop) : vc (semOf Go.Proofs.Try.prog math_bits_RotateLeft32.mark) Go.Proofs.Try.f151.ntmps math_bits_RotateLeft32.ann (bodyOf Go.Proofs.Try.f151) (endK [.tmp 4] Q) (argFr [a0, a1]) σ = math_bits_RotateLeft32.sh a0 a1 σ Q := by kernel_rfl
theorem math_bits_RotateLeft32.go {a0 a1 : AV} {σ : Store} {Q : AEnd → Store → Prop} (h : math_bits_RotateLeft32.sh a0 a1 σ Q) : ACalls Go.Proofs.Try.prog 151 [a0, a1] σ Q :=
  acalls_of_eq [.tmp 4] Go.Proofs.Try.func151 (by kernel_rfl) (by kernel_rfl) (by kernel_rfl) (by kernel_rfl) (math_bits_RotateLeft32.eq a0 a1 σ Q) h
theorem rot_ok (x : UInt32) (n : Nat) (h0 : 0 < n) (h1 : n < 32) : aPure Go.Proofs.Try.prog 151 [W32 x, I .i64 (-(n : Int))] (W32 (rotr x n)) := by
  refine math_bits_RotateLeft32.go ?_
  unfold math_bits_RotateLeft32.sh
  refine s_conv (k := .i64) (k' := .u64) (by kernel_rfl) (by kernel_rfl) ?_
  have e : IntKind.wrap .u64 (-(n : Int)) = (((UInt64.ofNat (18446744073709551616 - n)).toNat : Nat) : Int) := by
    rw [u64_len (by omega)]
    simp only [IntKind.wrap, IntKind.bits, IntKind.signed, Bool.false_and]
    rw [if_neg (by simp)]
    omega
  rw [e]
  have e2 : (UInt64.ofNat (18446744073709551616 - n) &&& 31).toNat = 32 - n := by
    rw [UInt64.toNat_and, u64_len (by omega), show UInt64.toNat 31 = 2 ^ 5 - 1 from rfl, Nat.and_two_pow_sub_one_eq_mod]
    omega
  have e3 : (32 - (UInt64.ofNat (18446744073709551616 - n) &&& 31)).toNat = n := by
    rw [UInt64.toNat_sub, e2, show UInt64.toNat 32 = 32 from rfl]
    omega
  repeat' (first | with_reducible apply Stp.go | with_reducible refine imp fun _ => ?_ | (with_reducible refine hyp ?_ ?_; first | assumption | exact leftT_mem (by assumption)) | (with_reducible refine need ?_ ?_; first | trivial | omega | exact ⟨by assumption, by omega⟩ | (simp only [List.length_append, List.length_cons, List.length_nil, List.length_map, List.length_take, List.length_drop, List.length_replicate, List.length_set]; omega)) | (with_reducible refine fact ?_ ?_; first | trivial | exact ⟨rfl, rfl⟩ | kernel_rfl) | with_reducible refine choT (by assumption) ?_ | with_reducible refine choF (by assumption) ?_ | with_reducible refine choF' (by assumption) ?_ | (with_reducible refine altT ?_ ?_; first | omega | (simp only [List.length_append, List.length_cons, List.length_nil, List.length_map, List.length_take, List.length_drop, List.length_replicate, List.length_set]; omega)) | with_reducible refine altF ?_ | with_reducible refine all fun _ => ?_ | with_reducible refine both ?_ ?_ | (with_reducible refine choT ?_ ?_; omega) | (with_reducible refine choF ?_ ?_; omega) | with_reducible refine cho (fun _ => ?_) (fun _ => ?_))
  rw [e2, e3]
  refine ⟨?_, rfl⟩
  rw [UInt32.or_comm]
  rfl
instance {x : UInt32} : PC Go.Proofs.Try.prog 151 [.val (.int .u32 (x.toNat : Nat)), .val (.int .i64 (-2))] True (W32 (rotr x 2)) := ⟨fun _ => PC.of (rot_ok x 2 (by decide) (by decide))⟩
instance {x : UInt32} : PC Go.Proofs.Try.prog 151 [.val (.int .u32 (x.toNat : Nat)), .val (.int .i64 (-6))] True (W32 (rotr x 6)) := ⟨fun _ => PC.of (rot_ok x 6 (by decide) (by decide))⟩
instance {x : UInt32} : PC Go.Proofs.Try.prog 151 [.val (.int .u32 (x.toNat : Nat)), .val (.int .i64 (-7))] True (W32 (rotr x 7)) := ⟨fun _ => PC.of (rot_ok x 7 (by decide) (by decide))⟩
instance {x : UInt32} : PC Go.Proofs.Try.prog 151 [.val (.int .u32 (x.toNat : Nat)), .val (.int .i64 (-11))] True (W32 (rotr x 11)) := ⟨fun _ => PC.of (rot_ok x 11 (by decide) (by decide))⟩
instance {x : UInt32} : PC Go.Proofs.Try.prog 151 [.val (.int .u32 (x.toNat : Nat)), .val (.int .i64 (-13))] True (W32 (rotr x 13)) := ⟨fun _ => PC.of (rot_ok x 13 (by decide) (by decide))⟩
instance {x : UInt32} : PC Go.Proofs.Try.prog 151 [.val (.int .u32 (x.toNat : Nat)), .val (.int .i64 (-17))] True (W32 (rotr x 17)) := ⟨fun _ => PC.of (rot_ok x 17 (by decide) (by decide))⟩
instance {x : UInt32} : PC Go.Proofs.Try.prog 151 [.val (.int .u32 (x.toNat : Nat)), .val (.int .i64 (-18))] True (W32 (rotr x 18)) := ⟨fun _ => PC.of (rot_ok x 18 (by decide) (by decide))⟩
instance {x : UInt32} : PC Go.Proofs.Try.prog 151 [.val (.int .u32 (x.toNat : Nat)), .val (.int .i64 (-19))] True (W32 (rotr x 19)) := ⟨fun _ => PC.of (rot_ok x 19 (by decide) (by decide))⟩
instance {x : UInt32} : PC Go.Proofs.Try.prog 151 [.val (.int .u32 (x.toNat : Nat)), .val (.int .i64 (-22))] True (W32 (rotr x 22)) := ⟨fun _ => PC.of (rot_ok x 22 (by decide) (by decide))⟩
instance {x : UInt32} : PC Go.Proofs.Try.prog 151 [.val (.int .u32 (x.toNat : Nat)), .val (.int .i64 (-25))] True (W32 (rotr x 25)) := ⟨fun _ => PC.of (rot_ok x 25 (by decide) (by decide))⟩
instance : FoldC (List.replicate 64 (.val (.int .u32 0))) ((List.replicate 64 (0 : UInt32)).map wrd) := ⟨rfl⟩
instance : FoldC [.val (.int .u32 0), .val (.int .u32 0), .val (.int .u32 0), .val (.int .u32 0), .val (.int .u32 0), .val (.int .u32 0), .val (.int .u32 0), .val (.int .u32 0)] ((List.replicate 8 (0 : UInt32)).map wrd) := ⟨rfl⟩
instance : FoldC [.val (.int .u8 0), .val (.int .u8 0), .val (.int .u8 0), .val (.int .u8 0), .val (.int .u8 0), .val (.int .u8 0), .val (.int .u8 0), .val (.int .u8 0), .val (.int .u8 0), .val (.int .u8 0), .val (.int .u8 0), .val (.int .u8 0), .val (.int .u8 0), .val (.int .u8 0), .val (.int .u8 0), .val (.int .u8 0), .val (.int .u8 0), .val (.int .u8 0), .val (.int .u8 0), .val (.int .u8 0), .val (.int .u8 0), .val (.int .u8 0), .val (.int .u8 0), .val (.int .u8 0), .val (.int .u8 0), .val (.int .u8 0), .val (.int .u8 0), .val (.int .u8 0), .val (.int .u8 0), .val (.int .u8 0), .val (.int .u8 0), .val (.int .u8 0)] ((List.replicate 32 (0 : UInt8)).map byt) := ⟨rfl⟩
def sum_words.mark : Mark := ⟨fun t => false, fun t => false, fun t => false, fun t => false, fun t => false⟩
def sum_words.ann : Ann := ⟨fun n => [], fun n => none, fun n => none⟩
/-- 'marlstone/sum.words' -/
def sum_words.sh (σ : Store) (Q : AEnd → Store → Prop) : Prop :=
  aNewVar 190 ((List.replicate 64 (.val (.int .u32 0)))) σ fun t0 σ =>
  Do (aLit ((List.replicate 64 (.val (.int .u32 0)))) ((List.range 64).map fun i => (i * 1, 1)) ([(0, (W32 1116352408)), (1, (W32 1899447441)), (2, (W32 3049323471)), (3, (W32 3921009573)), (4, (W32 961987163)), (5, (W32 1508970993)), (6, (W32 2453635748)), (7, (W32 2870763221)), (8, (W32 3624381080)), (9, (W32 310598401)), (10, (W32 607225278)), (11, (W32 1426881987)), (12, (W32 1925078388)), (13, (W32 2162078206)), (14, (W32 2614888103)), (15, (W32 3248222580)), (16, (W32 3835390401)), (17, (W32 4022224774)), (18, (W32 264347078)), (19, (W32 604807628)), (20, (W32 770255983)), (21, (W32 1249150122)), (22, (W32 1555081692)), (23, (W32 1996064986)), (24, (W32 2554220882)), (25, (W32 2821834349)), (26, (W32 2952996808)), (27, (W32 3210313671)), (28, (W32 3336571891)), (29, (W32 3584528711)), (30, (W32 113926993)), (31, (W32 338241895))] ++ ([(32, (W32 666307205)), (33, (W32 773529912)), (34, (W32 1294757372)), (35, (W32 1396182291)), (36, (W32 1695183700)), (37, (W32 1986661051)), (38, (W32 2177026350)), (39, (W32 2456956037)), (40, (W32 2730485921)), (41, (W32 2820302411)), (42, (W32 3259730800)), (43, (W32 3345764771)), (44, (W32 3516065817)), (45, (W32 3600352804)), (46, (W32 4094571909)), (47, (W32 275423344)), (48, (W32 430227734)), (49, (W32 506948616)), (50, (W32 659060556)), (51, (W32 883997877)), (52, (W32 958139571)), (53, (W32 1322822218)), (54, (W32 1537002063)), (55, (W32 1747873779)), (56, (W32 1955562222)), (57, (W32 2024104815)), (58, (W32 2227730452)), (59, (W32 2361852424)), (60, (W32 2428436474)), (61, (W32 2756734187)), (62, (W32 3204031479)), (63, (W32 3329325298))]))) fun t1 =>
  storeA 64 t0 t1 σ fun u σ_1 =>
  Do (loadA true 64 t0 σ_1) fun r0 => Q (.ret r0) σ_1
theorem sum_words.eq (σ : Store) (Q : AEnd → Store → Prop) : vc (semOf Go.Proofs.Try.prog sum_words.mark) Go.Proofs.Try.f143.ntmps sum_words.ann (bodyOf Go.Proofs.Try.f143) (endK [.cell 0 true 64] Q) (argFr []) σ = sum_words.sh  σ Q := by kernel_rfl
theorem sum_words.go {σ : Store} {Q : AEnd → Store → Prop} (h : sum_words.sh  σ Q) : ACalls Go.Proofs.Try.prog 143 [] σ Q :=
  acalls_of_eq [.cell 0 true 64] Go.Proofs.Try.func143 (by kernel_rfl) (by kernel_rfl) (by kernel_rfl) (by kernel_rfl) (sum_words.eq  σ Q) h
theorem words_ok : aPure Go.Proofs.Try.prog 143 [] (.agg (shaK.map wrd)) := by
  refine ACalls.fin (sum_words.go ?_)
  unfold sum_words.sh
  repeat' (first | with_reducible apply Stp.go | with_reducible refine imp fun _ => ?_ | (with_reducible refine hyp ?_ ?_; first | assumption | exact leftT_mem (by assumption)) | (with_reducible refine need ?_ ?_; first | trivial | omega | exact ⟨by assumption, by omega⟩ | (simp only [List.length_append, List.length_cons, List.length_nil, List.length_map, List.length_take, List.length_drop, List.length_replicate, List.length_set]; omega)) | (with_reducible refine fact ?_ ?_; first | trivial | exact ⟨rfl, rfl⟩ | kernel_rfl) | with_reducible refine choT (by assumption) ?_ | with_reducible refine choF (by assumption) ?_ | with_reducible refine choF' (by assumption) ?_ | (with_reducible refine altT ?_ ?_; first | omega | (simp only [List.length_append, List.length_cons, List.length_nil, List.length_map, List.length_take, List.length_drop, List.length_replicate, List.length_set]; omega)) | with_reducible refine altF ?_ | with_reducible refine all fun _ => ?_ | with_reducible refine both ?_ ?_ | (with_reducible refine choT ?_ ?_; omega) | (with_reducible refine choF ?_ ?_; omega) | with_reducible refine cho (fun _ => ?_) (fun _ => ?_))
  refine ⟨.agg (shaK.map wrd), ⟨by unfold partsOne; decide +kernel, shaK.map wrd, by kernel_rfl, rfl⟩, ?_⟩
  repeat' (first | with_reducible apply Stp.go | with_reducible refine imp fun _ => ?_ | (with_reducible refine hyp ?_ ?_; first | assumption | exact leftT_mem (by assumption)) | (with_reducible refine need ?_ ?_; first | trivial | omega | exact ⟨by assumption, by omega⟩ | (simp only [List.length_append, List.length_cons, List.length_nil, List.length_map, List.length_take, List.length_drop, List.length_replicate, List.length_set]; omega)) | (with_reducible refine fact ?_ ?_; first | trivial | exact ⟨rfl, rfl⟩ | kernel_rfl) | with_reducible refine choT (by assumption) ?_ | with_reducible refine choF (by assumption) ?_ | with_reducible refine choF' (by assumption) ?_ | (with_reducible refine altT ?_ ?_; first | omega | (simp only [List.length_append, List.length_cons, List.length_nil, List.length_map, List.length_take, List.length_drop, List.length_replicate, List.length_set]; omega)) | with_reducible refine altF ?_ | with_reducible refine all fun _ => ?_ | with_reducible refine both ?_ ?_ | (with_reducible refine choT ?_ ?_; omega) | (with_reducible refine choF ?_ ?_; omega) | with_reducible refine cho (fun _ => ?_) (fun _ => ?_))
  refine ⟨_, _, _, rfl, Sub.app_nil _, rfl, rfl⟩
instance : PC Go.Proofs.Try.prog 143 [] True (.agg (shaK.map wrd)) := ⟨fun _ => PC.of words_ok⟩
/-- What sums: its words, the constants, the part of a block that is held. -/
def hsCs (h k : List UInt32) (p : List UInt8) (q : Nat) (s : UInt64) : List AV := h.map wrd ++ (k.map wrd ++ (p.map byt ++ [I .i64 (q : Nat), W64 s]))
section hs
variable {h k : List UInt32} {p : List UInt8} {q : Nat} {s : UInt64} {o a b : Nat}
def hsOk (h k : List UInt32) (p : List UInt8) : Prop := h.length = 8 ∧ k.length = 64 ∧ p.length = 64
theorem hs_len (hh : hsOk h k p) : (hsCs h k p q s).length = 138 := by
  obtain ⟨h1, h2, h3⟩ := hh
  simp [hsCs, h1, h2, h3]
theorem hs_drop8 (hh : hsOk h k p) : (hsCs h k p q s).drop 8 = k.map wrd ++ (p.map byt ++ [I .i64 (q : Nat), W64 s]) := by
  rw [hsCs, show 8 = (h.map wrd).length by simp [hh.1], List.drop_left]
theorem hs_drop72 (hh : hsOk h k p) : (hsCs h k p q s).drop 72 = p.map byt ++ [I .i64 (q : Nat), W64 s] := by
  rw [show 72 = 8 + 64 from rfl, ← List.drop_drop, hs_drop8 hh, show 64 = (k.map wrd).length by simp [hh.2.1], List.drop_left]
theorem hs_drop136 (hh : hsOk h k p) : (hsCs h k p q s).drop 136 = [I .i64 (q : Nat), W64 s] := by
  rw [show 136 = 72 + 64 from rfl, ← List.drop_drop, hs_drop72 hh, show 64 = (p.map byt).length by simp [hh.2.2], List.drop_left]
instance (priority := 900) : ElemAt (hsCs h k p q s) o (hsOk h k p ∧ o < 8) (W32 (h.getD o default)) := ⟨fun ⟨hh, ho⟩ => ⟨by rw [hs_len hh]; omega, by
  have h1 := hh.1
  rw [hsCs, List.drop_append_of_le_length (by simp; omega), List.take_append_of_le_length (by simp; omega), drop_one (inferInstance : EncOne wrd) (by omega)]; rfl⟩⟩
instance (priority := 1100) : ElemAt (hsCs h k p q s) (8 + a) (hsOk h k p ∧ a < 64) (W32 (k.getD a default)) := ⟨fun ⟨hh, ho⟩ => ⟨by rw [hs_len hh]; omega, by
  have h1 := hh.2.1
  rw [← List.drop_drop, hs_drop8 hh, List.drop_append_of_le_length (by simp; omega), List.take_append_of_le_length (by simp; omega), drop_one (inferInstance : EncOne wrd) (by omega)]; rfl⟩⟩
instance (priority := 1100) : ElemAt (hsCs h k p q s) (72 + a) (hsOk h k p ∧ a < 64) (W8 (p.getD a default)) := ⟨fun ⟨hh, ho⟩ => ⟨by rw [hs_len hh]; omega, by
  have h1 := hh.2.2
  rw [← List.drop_drop, hs_drop72 hh, List.drop_append_of_le_length (by simp; omega), List.take_append_of_le_length (by simp; omega), drop_one (inferInstance : EncOne byt) (by omega)]; rfl⟩⟩
instance (priority := 1200) : ElemAt (hsCs h k p q s) 136 (hsOk h k p) (I .i64 (q : Nat)) := ⟨fun hh => ⟨by rw [hs_len hh]; omega, by rw [hs_drop136 hh]; rfl⟩⟩
instance (priority := 1200) : ElemAt (hsCs h k p q s) 137 (hsOk h k p) (W64 s) := ⟨fun hh => ⟨by rw [hs_len hh]; omega, by rw [show 137 = 136 + 1 from rfl, ← List.drop_drop, hs_drop136 hh]; rfl⟩⟩
theorem splice_at {cs pre post : List AV} {o : Nat} {x y : AV} (e : cs = pre ++ x :: post) (ho : o = pre.length) : splice cs o [y] = pre ++ y :: post := by
  subst e; subst ho
  simp [splice, List.drop_append]
theorem hs_136 (hh : hsOk h k p) : hsCs h k p q s = (h.map wrd ++ (k.map wrd ++ p.map byt)) ++ I .i64 (q : Nat) :: [W64 s] := by simp [hsCs]
instance (priority := 1200) {x : Int} {n : Nat} [hx : NatOf x n] : SetAt (hsCs h k p q s) 136 (.val (.int .i64 x)) (hsOk h k p) (hsCs h k p n s) := ⟨fun hh => ⟨by rw [hs_len hh]; omega, by
  rw [splice_at (hs_136 hh) (by simp [hh.1, hh.2.1, hh.2.2]), hx.eq]
  simp [hsCs]⟩, rfl, rfl⟩
instance (priority := 1200) {x : Int} {w : UInt64} [hx : U64Of x w] : SetAt (hsCs h k p q s) 137 (.val (.int .u64 x)) (hsOk h k p) (hsCs h k p q w) := ⟨fun hh => ⟨by rw [hs_len hh]; omega, by
  rw [splice_at (pre := h.map wrd ++ (k.map wrd ++ (p.map byt ++ [I .i64 (q : Nat)]))) (x := W64 s) (post := []) (by simp [hsCs]) (by simp [hh.1, hh.2.1, hh.2.2]), hx.eq]
  simp [hsCs]⟩, rfl, rfl⟩
instance (priority := 900) {x : Int} {w : UInt32} [hx : U32Of x w] : SetAt (hsCs h k p q s) o (.val (.int .u32 x)) (hsOk h k p ∧ o < 8) (hsCs (h.set o w) k p q s) := ⟨fun ⟨hh, ho⟩ => ⟨by rw [hs_len hh]; omega, by
  have h1 := hh.1
  have e := splice_map (f := wrd) (l := h) (o := o) (by omega) w
  have e2 : wrd w = .val (.int .u32 x) := by rw [hx.eq]; rfl
  rw [e2] at e
  rw [hsCs, hsCs, ← e]
  unfold splice
  rw [List.take_append_of_le_length (by simp; omega), List.drop_append_of_le_length (by simp; omega)]
  simp⟩, rfl, rfl⟩
instance (priority := 65) ldHs {t : TypeId} {σ rest : Store} {put : Ent → Store} {K : AV → Prop} [hv : VarAt b σ t (hsCs h k p q s) put rest] : Stp (Do (loadA true 8 (ptrAt b 0) σ) K) (Need (hsOk h k p) (K (.agg (h.map wrd)))) := ⟨fun ⟨hh, hK⟩ => by
  obtain ⟨σ1, σ2, e, _⟩ := hv.at_
  refine ⟨_, ⟨by decide, fun h => by (cases h), rfl, t, _, by rw [e]; exact List.mem_append.2 (.inr (List.mem_cons_self ..)), by rw [hs_len hh]; exact Nat.le_of_ble_eq_true rfl, ?_⟩, hK⟩
  have h1 := hh.1
  show _ = mkV true (((hsCs h k p q s).drop 0).take 8)
  rw [List.drop_zero, hsCs, show 8 = (h.map wrd).length by simp [h1], List.take_left]
  rfl⟩
end hs
def sum_Hash_block.mark : Mark := ⟨fun t => Nat.beq t 70 || Nat.beq t 72 || Nat.beq t 78 || Nat.beq t 80 || Nat.beq t 114 || Nat.beq t 116 || Nat.beq t 119 || Nat.beq t 145 || Nat.beq t 147 || Nat.beq t 150, fun t => false, fun t => false, fun t => false, fun t => false⟩
def sum_Hash_block.ann : Ann := ⟨fun n => bif Nat.beq n 2 then [0, 1, 4, 18] else bif Nat.beq n 7 then [0, 4, 6] else bif Nat.beq n 15 then [0, 4, 11, 104] else bif Nat.beq n 23 then [0, 11, 187] else [], fun n => none, fun n => none⟩
/-- '(*marlstone/sum.Hash).block' -/
def sum_Hash_block.sh (a0 a1 : AV) (σ : Store) (Q : AEnd → Store → Prop) : Prop :=
  aNewVar 190 ((List.replicate 64 (.val (.int .u32 0)))) σ fun t4 σ =>
  aLoop (fun go vs σ_1 =>
    At vs 0 fun s0 => At vs 1 fun s1 => At vs 2 fun s4 => At vs 3 fun s18 => Do (aBin Go.Proofs.Try.prog .lss 3 s18 (.val (.int .i64 16))) fun t19 =>
    aCond t19
      (Do (aBin Go.Proofs.Try.prog .mul 3 (.val (.int .i64 4)) s18) fun t24 =>
    Do (aIndexAddr .slice 1 s1 t24) fun t25 =>
    Do (loadA false 1 t25 σ_1) fun t26 =>
    Do (fun x => aConvN 5 187 t26 x Go.Proofs.Try.prog) fun t27 =>
    Do (aBin Go.Proofs.Try.prog .shl 187 t27 (W64 24)) fun t28 =>
    Do (aBin Go.Proofs.Try.prog .mul 3 (.val (.int .i64 4)) s18) fun t31 =>
    Do (aBin Go.Proofs.Try.prog .add 3 t31 (.val (.int .i64 1))) fun t32 =>
    Do (aIndexAddr .slice 1 s1 t32) fun t33 =>
    Do (loadA false 1 t33 σ_1) fun t34 =>
    Do (fun x => aConvN 5 187 t34 x Go.Proofs.Try.prog) fun t35 =>
    Do (aBin Go.Proofs.Try.prog .shl 187 t35 (W64 16)) fun t36 =>
    Do (aBin Go.Proofs.Try.prog .or 187 t28 t36) fun t37 =>
    Do (aBin Go.Proofs.Try.prog .mul 3 (.val (.int .i64 4)) s18) fun t40 =>
    Do (aBin Go.Proofs.Try.prog .add 3 t40 (.val (.int .i64 2))) fun t41 =>
    Do (aIndexAddr .slice 1 s1 t41) fun t42 =>
    Do (loadA false 1 t42 σ_1) fun t43 =>
    Do (fun x => aConvN 5 187 t43 x Go.Proofs.Try.prog) fun t44 =>
    Do (aBin Go.Proofs.Try.prog .shl 187 t44 (W64 8)) fun t45 =>
    Do (aBin Go.Proofs.Try.prog .or 187 t37 t45) fun t46 =>
    Do (aBin Go.Proofs.Try.prog .mul 3 (.val (.int .i64 4)) s18) fun t49 =>
    Do (aBin Go.Proofs.Try.prog .add 3 t49 (.val (.int .i64 3))) fun t50 =>
    Do (aIndexAddr .slice 1 s1 t50) fun t51 =>
    Do (loadA false 1 t51 σ_1) fun t52 =>
    Do (fun x => aConvN 5 187 t52 x Go.Proofs.Try.prog) fun t53 =>
    Do (aBin Go.Proofs.Try.prog .or 187 t46 t53) fun t54 =>
    Do (aIndexAddr (.array 64) 1 s4 s18) fun t55 =>
    storeA 1 t55 t54 σ_1 fun u σ_2 =>
    Do (aBin Go.Proofs.Try.prog .add 3 s18 (.val (.int .i64 1))) fun t56 =>
    go [s0, s1, s4, t56] σ_2)
      (aLoop (fun go_1 vs_1 σ_3 =>
    At vs_1 0 fun s0_1 => At vs_1 1 fun s4_1 => At vs_1 2 fun s6 => Do (aBin Go.Proofs.Try.prog .lss 3 s6 (.val (.int .i64 64))) fun t58 =>
    aCond t58
      (Do (aBin Go.Proofs.Try.prog .sub 3 s6 (.val (.int .i64 15))) fun t62 =>
    Do (aIndexAddr (.array 64) 1 s4_1 t62) fun t63 =>
    Do (loadA false 1 t63 σ_3) fun t64 =>
    Do (aBin Go.Proofs.Try.prog .sub 3 s6 (.val (.int .i64 2))) fun t66 =>
    Do (aIndexAddr (.array 64) 1 s4_1 t66) fun t67 =>
    Do (loadA false 1 t67 σ_3) fun t68 =>
    Do (aPureC Go.Proofs.Try.prog 151 [t64, (.val (.int .i64 (-7)))]) fun t70 =>
    Do (aPureC Go.Proofs.Try.prog 151 [t64, (.val (.int .i64 (-18)))]) fun t72 =>
    Do (aBin Go.Proofs.Try.prog .xor 187 t70 t72) fun t73 =>
    Do (aBin Go.Proofs.Try.prog .shr 187 t64 (W64 3)) fun t75 =>
    Do (aBin Go.Proofs.Try.prog .xor 187 t73 t75) fun t76 =>
    Do (aPureC Go.Proofs.Try.prog 151 [t68, (.val (.int .i64 (-17)))]) fun t78 =>
    Do (aPureC Go.Proofs.Try.prog 151 [t68, (.val (.int .i64 (-19)))]) fun t80 =>
    Do (aBin Go.Proofs.Try.prog .xor 187 t78 t80) fun t81 =>
    Do (aBin Go.Proofs.Try.prog .shr 187 t68 (W64 10)) fun t83 =>
    Do (aBin Go.Proofs.Try.prog .xor 187 t81 t83) fun t84 =>
    Do (aBin Go.Proofs.Try.prog .sub 3 s6 (.val (.int .i64 7))) fun t88 =>
    Do (aIndexAddr (.array 64) 1 s4_1 t88) fun t89 =>
    Do (loadA false 1 t89 σ_3) fun t90 =>
    Do (aBin Go.Proofs.Try.prog .add 187 t84 t90) fun t91 =>
    Do (aBin Go.Proofs.Try.prog .add 187 t91 t76) fun t93 =>
    Do (aBin Go.Proofs.Try.prog .sub 3 s6 (.val (.int .i64 16))) fun t95 =>
    Do (aIndexAddr (.array 64) 1 s4_1 t95) fun t96 =>
    Do (loadA false 1 t96 σ_3) fun t97 =>
    Do (aBin Go.Proofs.Try.prog .add 187 t93 t97) fun t98 =>
    Do (aIndexAddr (.array 64) 1 s4_1 s6) fun t99 =>
    storeA 1 t99 t98 σ_3 fun u_1 σ_4 =>
    Do (aBin Go.Proofs.Try.prog .add 3 s6 (.val (.int .i64 1))) fun t60 =>
    go_1 [s0_1, s4_1, t60] σ_4)
      (Do (aNil s0_1) fun t101 =>
  Do (aFieldAddr 0 8 t101) fun t102 =>
  Do (loadA true 8 t102 σ_3) fun t103 =>
  aNewVar 189 [.val (.int .u32 0), .val (.int .u32 0), .val (.int .u32 0), .val (.int .u32 0), .val (.int .u32 0), .val (.int .u32 0), .val (.int .u32 0), .val (.int .u32 0)] σ_3 fun t11 σ_5 =>
  storeA 8 t11 t103 σ_5 fun u_2 σ_6 =>
  aLoop (fun go_2 vs_2 σ_7 =>
    At vs_2 0 fun s0_2 => At vs_2 1 fun s4_2 => At vs_2 2 fun s11 => At vs_2 3 fun s104 => Do (aBin Go.Proofs.Try.prog .lss 3 s104 (.val (.int .i64 64))) fun t105 =>
    aCond t105
      (Do (aIndexAddr (.array 8) 1 s11 (.val (.int .i64 0))) fun t107 =>
    Do (loadA false 1 t107 σ_7) fun t108 =>
    Do (aIndexAddr (.array 8) 1 s11 (.val (.int .i64 4))) fun t109 =>
    Do (loadA false 1 t109 σ_7) fun t110 =>
    Do (aIndexAddr (.array 8) 1 s11 (.val (.int .i64 7))) fun t111 =>
    Do (loadA false 1 t111 σ_7) fun t112 =>
    Do (aPureC Go.Proofs.Try.prog 151 [t110, (.val (.int .i64 (-6)))]) fun t114 =>
    Do (aPureC Go.Proofs.Try.prog 151 [t110, (.val (.int .i64 (-11)))]) fun t116 =>
    Do (aBin Go.Proofs.Try.prog .xor 187 t114 t116) fun t117 =>
    Do (aPureC Go.Proofs.Try.prog 151 [t110, (.val (.int .i64 (-25)))]) fun t119 =>
    Do (aBin Go.Proofs.Try.prog .xor 187 t117 t119) fun t120 =>
    Do (aBin Go.Proofs.Try.prog .add 187 t112 t120) fun t121 =>
    Do (aIndexAddr (.array 8) 1 s11 (.val (.int .i64 5))) fun t123 =>
    Do (loadA false 1 t123 σ_7) fun t124 =>
    Do (aBin Go.Proofs.Try.prog .and 187 t110 t124) fun t125 =>
    Do (aUn Go.Proofs.Try.prog .xor t110) fun t127 =>
    Do (aIndexAddr (.array 8) 1 s11 (.val (.int .i64 6))) fun t128 =>
    Do (loadA false 1 t128 σ_7) fun t129 =>
    Do (aBin Go.Proofs.Try.prog .and 187 t127 t129) fun t130 =>
    Do (aBin Go.Proofs.Try.prog .xor 187 t125 t130) fun t131 =>
    Do (aBin Go.Proofs.Try.prog .add 187 t121 t131) fun t132 =>
    Do (aNil s0_2) fun t135 =>
    Do (aFieldAddr 8 64 t135) fun t136 =>
    Do (aIndexAddr (.array 64) 1 t136 s104) fun t137 =>
    Do (loadA false 1 t137 σ_7) fun t138 =>
    Do (aBin Go.Proofs.Try.prog .add 187 t132 t138) fun t139 =>
    Do (aIndexAddr (.array 64) 1 s4_2 s104) fun t141 =>
    Do (loadA false 1 t141 σ_7) fun t142 =>
    Do (aBin Go.Proofs.Try.prog .add 187 t139 t142) fun t143 =>
    Do (aPureC Go.Proofs.Try.prog 151 [t108, (.val (.int .i64 (-2)))]) fun t145 =>
    Do (aPureC Go.Proofs.Try.prog 151 [t108, (.val (.int .i64 (-13)))]) fun t147 =>
    Do (aBin Go.Proofs.Try.prog .xor 187 t145 t147) fun t148 =>
    Do (aPureC Go.Proofs.Try.prog 151 [t108, (.val (.int .i64 (-22)))]) fun t150 =>
    Do (aBin Go.Proofs.Try.prog .xor 187 t148 t150) fun t151 =>
    Do (aIndexAddr (.array 8) 1 s11 (.val (.int .i64 1))) fun t153 =>
    Do (loadA false 1 t153 σ_7) fun t154 =>
    Do (aBin Go.Proofs.Try.prog .and 187 t108 t154) fun t155 =>
    Do (aIndexAddr (.array 8) 1 s11 (.val (.int .i64 2))) fun t157 =>
    Do (loadA false 1 t157 σ_7) fun t158 =>
    Do (aBin Go.Proofs.Try.prog .and 187 t108 t158) fun t159 =>
    Do (aBin Go.Proofs.Try.prog .xor 187 t155 t159) fun t160 =>
    Do (aIndexAddr (.array 8) 1 s11 (.val (.int .i64 1))) fun t161 =>
    Do (loadA false 1 t161 σ_7) fun t162 =>
    Do (aIndexAddr (.array 8) 1 s11 (.val (.int .i64 2))) fun t163 =>
    Do (loadA false 1 t163 σ_7) fun t164 =>
    Do (aBin Go.Proofs.Try.prog .and 187 t162 t164) fun t165 =>
    Do (aBin Go.Proofs.Try.prog .xor 187 t160 t165) fun t166 =>
    Do (aBin Go.Proofs.Try.prog .add 187 t151 t166) fun t167 =>
    Do (aBin Go.Proofs.Try.prog .add 187 t143 t167) fun t170 =>
    Do (aIndexAddr (.array 8) 1 s11 (.val (.int .i64 1))) fun t172 =>
    Do (loadA false 1 t172 σ_7) fun t173 =>
    Do (aIndexAddr (.array 8) 1 s11 (.val (.int .i64 2))) fun t174 =>
    Do (loadA false 1 t174 σ_7) fun t175 =>
    Do (aIndexAddr (.array 8) 1 s11 (.val (.int .i64 3))) fun t176 =>
    Do (loadA false 1 t176 σ_7) fun t177 =>
    Do (aBin Go.Proofs.Try.prog .add 187 t177 t143) fun t179 =>
    Do (aIndexAddr (.array 8) 1 s11 (.val (.int .i64 5))) fun t181 =>
    Do (loadA false 1 t181 σ_7) fun t182 =>
    Do (aIndexAddr (.array 8) 1 s11 (.val (.int .i64 6))) fun t183 =>
    Do (loadA false 1 t183 σ_7) fun t184 =>
    Do (aLit [.val (.int .u32 0), .val (.int .u32 0), .val (.int .u32 0), .val (.int .u32 0), .val (.int .u32 0), .val (.int .u32 0), .val (.int .u32 0), .val (.int .u32 0)] [(0, 1), (1, 1), (2, 1), (3, 1), (4, 1), (5, 1), (6, 1), (7, 1)] [(0, t170), (1, t108), (2, t173), (3, t175), (4, t179), (5, t110), (6, t182), (7, t184)]) fun t185 =>
    storeA 8 s11 t185 σ_7 fun u_3 σ_8 =>
    Do (aBin Go.Proofs.Try.prog .add 3 s104 (.val (.int .i64 1))) fun t186 =>
    go_2 [s0_2, s4_2, s11, t186] σ_8)
      (aLoop (fun go_3 vs_3 σ_9 =>
    At vs_3 0 fun s0_3 => At vs_3 1 fun s11_1 => At vs_3 2 fun s187 => Do (aBin Go.Proofs.Try.prog .lss 3 s187 (.val (.int .i64 8))) fun t188 =>
    aCond t188
      (Do (aNil s0_3) fun t192 =>
    Do (aFieldAddr 0 8 t192) fun t193 =>
    Do (aIndexAddr (.array 8) 1 t193 s187) fun t194 =>
    Do (loadA false 1 t194 σ_9) fun t195 =>
    Do (aIndexAddr (.array 8) 1 s11_1 s187) fun t197 =>
    Do (loadA false 1 t197 σ_9) fun t198 =>
    Do (aBin Go.Proofs.Try.prog .add 187 t195 t198) fun t199 =>
    Do (aNil s0_3) fun t200 =>
    Do (aFieldAddr 0 8 t200) fun t201 =>
    Do (aIndexAddr (.array 8) 1 t201 s187) fun t202 =>
    storeA 1 t202 t199 σ_9 fun u_4 σ_10 =>
    Do (aBin Go.Proofs.Try.prog .add 3 s187 (.val (.int .i64 1))) fun t203 =>
    go_3 [s0_3, s11_1, t203] σ_10)
      (Q (.ret (.tuple [])) σ_9))
    [s0_2, s11, (.val (.int .i64 0))] σ_7))
    [s0_1, s4_1, t11, (.val (.int .i64 0))] σ_6))
    [s0, s4, (.val (.int .i64 16))] σ_1))
    [a0, a1, t4, (.val (.int .i64 0))] σ
theorem sum_Hash_block.eq (a0 a1 : AV) (σ : Store) (Q : AEnd → Store → Prop) : vc (semOf Go.Proofs.Try.prog sum_Hash_block.mark) Go.Proofs.Try.f144.ntmps sum_Hash_block.ann (bodyOf Go.Proofs.Try.f144) (endK [] Q) (argFr [a0, a1]) σ = sum_Hash_block.sh a0 a1 σ Q := by kernel_rfl
theorem sum_Hash_block.go {a0 a1 : AV} {σ : Store} {Q : AEnd → Store → Prop} (h : sum_Hash_block.sh a0 a1 σ Q) : ACalls Go.Proofs.Try.prog 144 [a0, a1] σ Q :=
  acalls_of_eq [] Go.Proofs.Try.func144 (by kernel_rfl) (by kernel_rfl) (by kernel_rfl) (by kernel_rfl) (sum_Hash_block.eq a0 a1 σ Q) h
theorem set_sched {b : List UInt8} {t n : Nat} (h : t < n) (x : UInt32) (hx : x = (sched b (t + 1)).getD t 0) : (sched b t ++ List.replicate (n - t) 0).set t x = sched b (t + 1) ++ List.replicate (n - (t + 1)) 0 := by
  obtain ⟨m, hm⟩ : ∃ m, n - t = m + 1 := ⟨n - t - 1, by omega⟩
  rw [hm, show n - (t + 1) = m by omega, List.set_append_right _ _ (by rw [sched_length]; omega), sched_length, Nat.sub_self, List.replicate_succ, List.set_cons_zero]
  have e : sched b (t + 1) = sched b t ++ [x] := by
    rw [hx]
    conv => lhs; rw [sched]
    conv => rhs; rw [sched]
    rw [getD_app_r _ _ _ _ (by rw [sched_length]; omega), sched_length, Nat.sub_self]
    rfl
  rw [e]
  simp
theorem get_sched {b : List UInt8} {t j : Nat} (r : List UInt32) (h : j < t) : (sched b t ++ r).getD j default = (sched b t).getD j 0 := by
  rw [getD_app_l _ _ _ _ (by rw [sched_length]; exact h)]
  rfl
theorem sched_at (b : List UInt8) (t : Nat) : (sched b (t + 1)).getD t 0 = if t < 16 then be32 (b.getD (4 * t) 0) (b.getD (4 * t + 1) 0) (b.getD (4 * t + 2) 0) (b.getD (4 * t + 3) 0) else wNext (sched b t) := by
  conv => lhs; rw [sched]
  rw [getD_app_r _ _ _ _ (by rw [sched_length]; omega), sched_length, Nat.sub_self]
  rfl
/-- Words added, so far. -/
def addTo (h S : List UInt32) (i : Nat) : List UInt32 := addW (h.take i) (S.take i) ++ h.drop i
theorem addTo_length {h S : List UInt32} (hh : h.length = 8) (hS : S.length = 8) {i : Nat} (hi : i ≤ 8) : (addTo h S i).length = 8 := by
  simp [addTo, addW, hh, hS]; omega
theorem addTo_get {h S : List UInt32} (hh : h.length = 8) (hS : S.length = 8) {i : Nat} (hi : i < 8) : (addTo h S i).getD i default = h.getD i default := by
  have e : (addW (h.take i) (S.take i)).length = i := by simp [addW, hh, hS]; omega
  rw [addTo, getD_app_r _ _ _ _ (by omega), e, Nat.sub_self, drop_cons_d (by omega)]
  rfl
theorem addTo_set {h S : List UInt32} (hh : h.length = 8) (hS : S.length = 8) {i : Nat} (hi : i < 8) : (addTo h S i).set i ((addTo h S i).getD i default + S.getD i default) = addTo h S (i + 1) := by
  have e : (addW (h.take i) (S.take i)).length = i := by simp [addW, hh, hS]; omega
  rw [addTo_get hh hS hi, addTo, List.set_append_right _ _ (by omega), e, Nat.sub_self, drop_cons_d (show i < h.length by omega), List.set_cons_zero]
  rw [addTo, take_succ_d (show i < h.length by omega), take_succ_d (show i < S.length by omega)]
  unfold addW
  rw [List.zipWith_append (by simp [hh, hS])]
  simp
theorem addTo_all {h S : List UInt32} (hh : h.length = 8) (hS : S.length = 8) : addTo h S 8 = addW h S := by
  rw [addTo, List.take_of_length_le (by omega), List.take_of_length_le (by omega), List.drop_of_length_le (by omega), List.append_nil]
abbrev HT : TypeId := 194
set_option maxHeartbeats 1000000 in
theorem block_ok (b : Nat) (h : List UInt32) (p : List UInt8) (q : Nat) (s : UInt64) (hh : hsOk h shaK p) : ACalls Go.Proofs.Try.prog 144 [ptrAt b 0, .val (.slice (some ⟨b, 72, none⟩) 64 64)] [.var b HT (hsCs h shaK p q s)]
    fun x σ' => x = .ret (.tuple []) ∧ σ' = [.var b HT (hsCs (shaBlock h p) shaK p q s)] := by
  have h8 := hh.1
  refine ACalls.fin (sum_Hash_block.go ?_)
  unfold sum_Hash_block.sh
  repeat' (first | with_reducible apply Stp.go | with_reducible refine imp fun _ => ?_ | (with_reducible refine hyp ?_ ?_; first | assumption | exact leftT_mem (by assumption)) | (with_reducible refine need ?_ ?_; first | trivial | omega | exact ⟨by assumption, by omega⟩ | (simp only [List.length_append, List.length_cons, List.length_nil, List.length_map, List.length_take, List.length_drop, List.length_replicate, List.length_set]; omega)) | (with_reducible refine fact ?_ ?_; first | trivial | exact ⟨rfl, rfl⟩ | kernel_rfl) | with_reducible refine choT (by assumption) ?_ | with_reducible refine choF (by assumption) ?_ | with_reducible refine choF' (by assumption) ?_ | (with_reducible refine altT ?_ ?_; first | omega | (simp only [List.length_append, List.length_cons, List.length_nil, List.length_map, List.length_take, List.length_drop, List.length_replicate, List.length_set]; omega)) | with_reducible refine altF ?_ | with_reducible refine all fun _ => ?_ | with_reducible refine both ?_ ?_ | (with_reducible refine choT ?_ ?_; omega) | (with_reducible refine choF ?_ ?_; omega) | with_reducible refine cho (fun _ => ?_) (fun _ => ?_))
  rename_i w
  refine loopI (β := Nat) (fun t => t ≤ 16) (fun t => [ptrAt b 0, .val (.slice (some ⟨b, 72, none⟩) 64 64), ptrAt w 0, I .i64 (t : Nat)]) (fun t => [.var w 190 ((sched p t ++ List.replicate (64 - t) 0).map wrd), .var b HT (hsCs h shaK p q s)]) (fun t => 16 - t) 0 (Nat.zero_le _) (Sub.refl _ _) ?_
  intro t ht
  by_cases hlt : t < 16
  · have hlen : (sched p t ++ List.replicate (64 - t) 0).length = 64 := by simp [sched_length]; omega
    repeat' (first | with_reducible apply Stp.go | with_reducible refine imp fun _ => ?_ | (with_reducible refine hyp ?_ ?_; first | assumption | exact leftT_mem (by assumption)) | (with_reducible refine need ?_ ?_; first | trivial | omega | exact ⟨by assumption, by omega⟩ | (simp only [List.length_append, List.length_cons, List.length_nil, List.length_map, List.length_take, List.length_drop, List.length_replicate, List.length_set]; omega)) | (with_reducible refine fact ?_ ?_; first | trivial | exact ⟨rfl, rfl⟩ | kernel_rfl) | with_reducible refine choT (by assumption) ?_ | with_reducible refine choF (by assumption) ?_ | with_reducible refine choF' (by assumption) ?_ | (with_reducible refine altT ?_ ?_; first | omega | (simp only [List.length_append, List.length_cons, List.length_nil, List.length_map, List.length_take, List.length_drop, List.length_replicate, List.length_set]; omega)) | with_reducible refine altF ?_ | with_reducible refine all fun _ => ?_ | with_reducible refine both ?_ ?_ | (with_reducible refine choT ?_ ?_; omega) | (with_reducible refine choF ?_ ?_; omega) | with_reducible refine cho (fun _ => ?_) (fun _ => ?_))
    refine again (t + 1) (by omega) (by omega) ?_
    rw [set_sched (n := 64) (by omega) _ (by rw [sched_at, if_pos hlt]; exact be32_or _ _ _ _)]
    exact Sub.refl _ _
  · have e : t = 16 := by omega
    subst e
    repeat' (first | with_reducible apply Stp.go | with_reducible refine imp fun _ => ?_ | (with_reducible refine hyp ?_ ?_; first | assumption | exact leftT_mem (by assumption)) | (with_reducible refine need ?_ ?_; first | trivial | omega | exact ⟨by assumption, by omega⟩ | (simp only [List.length_append, List.length_cons, List.length_nil, List.length_map, List.length_take, List.length_drop, List.length_replicate, List.length_set]; omega)) | (with_reducible refine fact ?_ ?_; first | trivial | exact ⟨rfl, rfl⟩ | kernel_rfl) | with_reducible refine choT (by assumption) ?_ | with_reducible refine choF (by assumption) ?_ | with_reducible refine choF' (by assumption) ?_ | (with_reducible refine altT ?_ ?_; first | omega | (simp only [List.length_append, List.length_cons, List.length_nil, List.length_map, List.length_take, List.length_drop, List.length_replicate, List.length_set]; omega)) | with_reducible refine altF ?_ | with_reducible refine all fun _ => ?_ | with_reducible refine both ?_ ?_ | (with_reducible refine choT ?_ ?_; omega) | (with_reducible refine choF ?_ ?_; omega) | with_reducible refine cho (fun _ => ?_) (fun _ => ?_))
    refine loopI (β := Nat) (fun t => 16 ≤ t ∧ t ≤ 64) (fun t => [ptrAt b 0, ptrAt w 0, I .i64 (t : Nat)]) (fun t => [.var w 190 ((sched p t ++ List.replicate (64 - t) 0).map wrd), .var b HT (hsCs h shaK p q s)]) (fun t => 64 - t) 16 (by decide) (Sub.refl _ _) ?_
    rintro t ⟨ht0, ht1⟩
    by_cases hlt : t < 64
    · have hlen : (sched p t ++ List.replicate (64 - t) 0).length = 64 := by simp [sched_length]; omega
      repeat' (first | with_reducible apply Stp.go | with_reducible refine imp fun _ => ?_ | (with_reducible refine hyp ?_ ?_; first | assumption | exact leftT_mem (by assumption)) | (with_reducible refine need ?_ ?_; first | trivial | omega | exact ⟨by assumption, by omega⟩ | (simp only [List.length_append, List.length_cons, List.length_nil, List.length_map, List.length_take, List.length_drop, List.length_replicate, List.length_set]; omega)) | (with_reducible refine fact ?_ ?_; first | trivial | exact ⟨rfl, rfl⟩ | kernel_rfl) | with_reducible refine choT (by assumption) ?_ | with_reducible refine choF (by assumption) ?_ | with_reducible refine choF' (by assumption) ?_ | (with_reducible refine altT ?_ ?_; first | omega | (simp only [List.length_append, List.length_cons, List.length_nil, List.length_map, List.length_take, List.length_drop, List.length_replicate, List.length_set]; omega)) | with_reducible refine altF ?_ | with_reducible refine all fun _ => ?_ | with_reducible refine both ?_ ?_ | (with_reducible refine choT ?_ ?_; omega) | (with_reducible refine choF ?_ ?_; omega) | with_reducible refine cho (fun _ => ?_) (fun _ => ?_))
      refine again (t + 1) (by omega) ⟨by omega, by omega⟩ ?_
      rw [get_sched _ (show t - 15 < t by omega), get_sched _ (show t - 2 < t by omega), get_sched _ (show t - 7 < t by omega), get_sched _ (show t - 16 < t by omega)]
      rw [set_sched (n := 64) (by omega) _ (by
        rw [sched_at, if_neg (by omega)]
        unfold wNext
        rw [sched_length])]
      exact Sub.refl _ _
    · have e : t = 64 := by omega
      subst e
      have e : sched p 64 ++ List.replicate (64 - 64) 0 = sched p 64 := by simp
      rw [e]
      have hl64 : (sched p 64).length = 64 := sched_length _ _
      obtain ⟨W, hW⟩ : ∃ W, W = sched p 64 := ⟨_, rfl⟩
      rw [← hW] at hl64 ⊢
      repeat' (first | with_reducible apply Stp.go | with_reducible refine imp fun _ => ?_ | (with_reducible refine hyp ?_ ?_; first | assumption | exact leftT_mem (by assumption)) | (with_reducible refine need ?_ ?_; first | trivial | omega | exact ⟨by assumption, by omega⟩ | (simp only [List.length_append, List.length_cons, List.length_nil, List.length_map, List.length_take, List.length_drop, List.length_replicate, List.length_set]; omega)) | (with_reducible refine fact ?_ ?_; first | trivial | exact ⟨rfl, rfl⟩ | kernel_rfl) | with_reducible refine choT (by assumption) ?_ | with_reducible refine choF (by assumption) ?_ | with_reducible refine choF' (by assumption) ?_ | (with_reducible refine altT ?_ ?_; first | omega | (simp only [List.length_append, List.length_cons, List.length_nil, List.length_map, List.length_take, List.length_drop, List.length_replicate, List.length_set]; omega)) | with_reducible refine altF ?_ | with_reducible refine all fun _ => ?_ | with_reducible refine both ?_ ?_ | (with_reducible refine choT ?_ ?_; omega) | (with_reducible refine choF ?_ ?_; omega) | with_reducible refine cho (fun _ => ?_) (fun _ => ?_))
      rename_i v
      refine loopI (β := Nat) (fun t => t ≤ 64) (fun t => [ptrAt b 0, ptrAt w 0, ptrAt v 0, I .i64 (t : Nat)]) (fun t => [.var v 189 ((shaRounds W h t).map wrd), .var w 190 (W.map wrd), .var b HT (hsCs h shaK p q s)]) (fun t => 64 - t) 0 (Nat.zero_le _) (Sub.refl _ _) ?_
      intro t ht
      have hr8 := shaRounds_length W hh.1 t
      by_cases hlt : t < 64
      · repeat' (first | with_reducible apply Stp.go | with_reducible refine imp fun _ => ?_ | (with_reducible refine hyp ?_ ?_; first | assumption | exact leftT_mem (by assumption)) | (with_reducible refine need ?_ ?_; first | trivial | omega | exact ⟨by assumption, by omega⟩ | (simp only [List.length_append, List.length_cons, List.length_nil, List.length_map, List.length_take, List.length_drop, List.length_replicate, List.length_set]; omega)) | (with_reducible refine fact ?_ ?_; first | trivial | exact ⟨rfl, rfl⟩ | kernel_rfl) | with_reducible refine choT (by assumption) ?_ | with_reducible refine choF (by assumption) ?_ | with_reducible refine choF' (by assumption) ?_ | (with_reducible refine altT ?_ ?_; first | omega | (simp only [List.length_append, List.length_cons, List.length_nil, List.length_map, List.length_take, List.length_drop, List.length_replicate, List.length_set]; omega)) | with_reducible refine altF ?_ | with_reducible refine all fun _ => ?_ | with_reducible refine both ?_ ?_ | (with_reducible refine choT ?_ ?_; omega) | (with_reducible refine choF ?_ ?_; omega) | with_reducible refine cho (fun _ => ?_) (fun _ => ?_))
        refine need ⟨hr8, rfl⟩ ?_
        repeat' (first | with_reducible apply Stp.go | with_reducible refine imp fun _ => ?_ | (with_reducible refine hyp ?_ ?_; first | assumption | exact leftT_mem (by assumption)) | (with_reducible refine need ?_ ?_; first | trivial | omega | exact ⟨by assumption, by omega⟩ | (simp only [List.length_append, List.length_cons, List.length_nil, List.length_map, List.length_take, List.length_drop, List.length_replicate, List.length_set]; omega)) | (with_reducible refine fact ?_ ?_; first | trivial | exact ⟨rfl, rfl⟩ | kernel_rfl) | with_reducible refine choT (by assumption) ?_ | with_reducible refine choF (by assumption) ?_ | with_reducible refine choF' (by assumption) ?_ | (with_reducible refine altT ?_ ?_; first | omega | (simp only [List.length_append, List.length_cons, List.length_nil, List.length_map, List.length_take, List.length_drop, List.length_replicate, List.length_set]; omega)) | with_reducible refine altF ?_ | with_reducible refine all fun _ => ?_ | with_reducible refine both ?_ ?_ | (with_reducible refine choT ?_ ?_; omega) | (with_reducible refine choF ?_ ?_; omega) | with_reducible refine cho (fun _ => ?_) (fun _ => ?_))
        refine again (t + 1) (by omega) (by omega) ?_
        exact Sub.refl _ _
      · have e : t = 64 := by omega
        subst e
        obtain ⟨S, hS⟩ : ∃ S, S = shaRounds W h 64 := ⟨_, rfl⟩
        rw [← hS] at hr8 ⊢
        repeat' (first | with_reducible apply Stp.go | with_reducible refine imp fun _ => ?_ | (with_reducible refine hyp ?_ ?_; first | assumption | exact leftT_mem (by assumption)) | (with_reducible refine need ?_ ?_; first | trivial | omega | exact ⟨by assumption, by omega⟩ | (simp only [List.length_append, List.length_cons, List.length_nil, List.length_map, List.length_take, List.length_drop, List.length_replicate, List.length_set]; omega)) | (with_reducible refine fact ?_ ?_; first | trivial | exact ⟨rfl, rfl⟩ | kernel_rfl) | with_reducible refine choT (by assumption) ?_ | with_reducible refine choF (by assumption) ?_ | with_reducible refine choF' (by assumption) ?_ | (with_reducible refine altT ?_ ?_; first | omega | (simp only [List.length_append, List.length_cons, List.length_nil, List.length_map, List.length_take, List.length_drop, List.length_replicate, List.length_set]; omega)) | with_reducible refine altF ?_ | with_reducible refine all fun _ => ?_ | with_reducible refine both ?_ ?_ | (with_reducible refine choT ?_ ?_; omega) | (with_reducible refine choF ?_ ?_; omega) | with_reducible refine cho (fun _ => ?_) (fun _ => ?_))
        refine loopI (β := Nat) (fun i => i ≤ 8) (fun i => [ptrAt b 0, ptrAt v 0, I .i64 (i : Nat)]) (fun i => [.var v 189 (S.map wrd), .var w 190 (W.map wrd), .var b HT (hsCs (addTo h S i) shaK p q s)]) (fun i => 8 - i) 0 (Nat.zero_le _) (Sub.refl _ _) ?_
        intro i hi
        have hh2 : hsOk (addTo h S i) shaK p := ⟨addTo_length hh.1 hr8 hi, hh.2⟩
        by_cases hlt : i < 8
        · repeat' (first | with_reducible apply Stp.go | with_reducible refine imp fun _ => ?_ | (with_reducible refine hyp ?_ ?_; first | assumption | exact leftT_mem (by assumption)) | (with_reducible refine need ?_ ?_; first | trivial | omega | exact ⟨by assumption, by omega⟩ | (simp only [List.length_append, List.length_cons, List.length_nil, List.length_map, List.length_take, List.length_drop, List.length_replicate, List.length_set]; omega)) | (with_reducible refine fact ?_ ?_; first | trivial | exact ⟨rfl, rfl⟩ | kernel_rfl) | with_reducible refine choT (by assumption) ?_ | with_reducible refine choF (by assumption) ?_ | with_reducible refine choF' (by assumption) ?_ | (with_reducible refine altT ?_ ?_; first | omega | (simp only [List.length_append, List.length_cons, List.length_nil, List.length_map, List.length_take, List.length_drop, List.length_replicate, List.length_set]; omega)) | with_reducible refine altF ?_ | with_reducible refine all fun _ => ?_ | with_reducible refine both ?_ ?_ | (with_reducible refine choT ?_ ?_; omega) | (with_reducible refine choF ?_ ?_; omega) | with_reducible refine cho (fun _ => ?_) (fun _ => ?_))
          refine again (i + 1) (by omega) (by omega) ?_
          rw [addTo_set hh.1 hr8 hlt]
          exact Sub.refl _ _
        · have e : i = 8 := by omega
          subst e
          repeat' (first | with_reducible apply Stp.go | with_reducible refine imp fun _ => ?_ | (with_reducible refine hyp ?_ ?_; first | assumption | exact leftT_mem (by assumption)) | (with_reducible refine need ?_ ?_; first | trivial | omega | exact ⟨by assumption, by omega⟩ | (simp only [List.length_append, List.length_cons, List.length_nil, List.length_map, List.length_take, List.length_drop, List.length_replicate, List.length_set]; omega)) | (with_reducible refine fact ?_ ?_; first | trivial | exact ⟨rfl, rfl⟩ | kernel_rfl) | with_reducible refine choT (by assumption) ?_ | with_reducible refine choF (by assumption) ?_ | with_reducible refine choF' (by assumption) ?_ | (with_reducible refine altT ?_ ?_; first | omega | (simp only [List.length_append, List.length_cons, List.length_nil, List.length_map, List.length_take, List.length_drop, List.length_replicate, List.length_set]; omega)) | with_reducible refine altF ?_ | with_reducible refine all fun _ => ?_ | with_reducible refine both ?_ ?_ | (with_reducible refine choT ?_ ?_; omega) | (with_reducible refine choF ?_ ?_; omega) | with_reducible refine cho (fun _ => ?_) (fun _ => ?_))
          refine ⟨_, _, _, rfl, subS (τ := [.var b HT (hsCs (addTo h S 8) shaK p q s)]) _, rfl, ?_⟩
          rw [addTo_all hh.1 hr8, hS, hW]
          rfl
end Go.Ab
