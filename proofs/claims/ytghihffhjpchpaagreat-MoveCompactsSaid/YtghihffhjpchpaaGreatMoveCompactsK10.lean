/- The texts that this claim needs, part 10: a logic over abstract values, its steps, what the functions do. No condition of its own. -/
import Derived.Laws.IdiomStrings
import Derived.Test.YtghihffhjpchpaaGreatMoveCompactsK9
set_option linter.unusedVariables false
set_option linter.unusedSimpArgs false
namespace Go.Ab
variable {P : Program}
theorem flat_byt : ∀ l : List UInt8, flat (l.map byt) = l.map byt
 | [] => rfl
 | b :: l => by
  have ih := flat_byt l
  unfold flat at ih ⊢
  rw [List.map_cons, List.flatMap_cons, ih]
  rfl
theorem rawV_text {s d e : TypeId} {l : List UInt8} {σ : Store} {post : AV → Store → Prop} (hs : P.underlying s = some .string) (hd : P.underlying d = some (.slice e)) (he : P.underlying e = some (.int .u8)) (hl : l.length ≤ maxLen)
  (hpost : ∀ v, post (.own v l.length) (.row v e 1 (l.map byt) 0 :: σ)) : rawV P s d (.val (.string ⟨l.toArray⟩)) σ post := by
 intro R w v hv hst
 have hv := hv.val_inv
 subst hv
 have hrun := run_bytes_of_string (P := P) w s d e ⟨l.toArray⟩ hs hd he
 have hsz : (⟨l.toArray⟩ : ByteArray).size = l.length := by simp [ByteArray.size]
 rw [hsz] at hrun
 have hge := grownCap_ge w l.length 0 e
 have hcm : grownCap w l.length 0 e ≤ maxLen := grownCap_le_maxLen w _ 0 e hl
 have hrow : (bytesRow ⟨l.toArray⟩ (grownCap w l.length 0 e)).size = grownCap w l.length 0 e := by simp [bytesRow, hsz]; omega
 have htake : (bytesRow ⟨l.toArray⟩ (grownCap w l.length 0 e)).toList.take l.length = l.map fun b => Value.int .u8 b.toNat := by
  simp [bytesRow]
 obtain ⟨g1, g2⟩ := st_newRow (R := R) (w' := w.drew.alloc (.cells (bytesRow ⟨l.toArray⟩ (grownCap w l.length 0 e)) e ((bytesRow ⟨l.toArray⟩ (grownCap w l.length 0 e)).size, (bytesRow ⟨l.toArray⟩ (grownCap w l.length 0 e)).size + 1))) hst
  ⟨rfl, rfl, rfl, by simp, fun k hk _ => by first | exact heap_alloc_old w.drew _ k hk | exact heap_alloc_old w.drew _ hk⟩ (v := .slice (some ⟨w.heap.size, 0, none⟩) l.length (grownCap w l.length 0 e)) (E := e) (sz := 1) (l := l.map byt) (vs := l.map fun b => Value.int .u8 b.toNat)
  ⟨by simp, .inr ⟨w.heap.size, _, _, by simp, Nat.zero_le _, ⟨_, .inr ⟨rfl, Nat.le_refl _⟩, heap_alloc_new w.drew _⟩, by simpa using hge, hcm, by rw [hrow]; omega, by rw [List.length_map, Nat.mul_one]; exact htake⟩⟩
  (by
   refine ⟨by rw [flat_byt, List.length_map, List.length_map], fun j u x hu hx => ?_⟩
   rw [flat_byt] at hu
   simp only [List.getElem?_map, Option.map_eq_some_iff] at hu hx
   obtain ⟨b, hb, rfl⟩ := hu
   obtain ⟨b', hb', rfl⟩ := hx
   rw [hb] at hb'
   cases hb'
   exact .val _)
  (by
   intro x hx
   obtain ⟨b, _, rfl⟩ := List.mem_map.1 hx
   rfl)
  (by decide) (told_len (inferInstance : Enc byt 1).told l) (by simpa using hl) (fun b hb => by simp only [Value.ownBlock, Option.some.injEq] at hb; omega)
 exact ⟨_, _, _, R, _, hrun, hpost _, .own (.inr ⟨_, _, rfl, by simpa using hge⟩), g1, g2⟩
class TextB (P : Program) (s d : TypeId) (e : outParam TypeId) : Prop where
 h : P.underlying s = some .string ∧ P.underlying d = some (.slice e) ∧ P.underlying e = some (.int .u8)
instance convText {σ : Store} {s d e : TypeId} {l : List UInt8} {k : AV → Store → Prop} [ht : TextB P s d e] : Stp (aHook (rawV P s d (.val (.string ⟨l.toArray⟩)) σ) k) (Need (l.length ≤ 9223372036854775807) (All fun v => k (.own v l.length) (.row v e 1 (l.map byt) 0 :: σ))) := ⟨fun ⟨h, hK⟩ => by
 obtain ⟨h1, h2, h3⟩ := ht.h
 exact ⟨fun u τ => ∃ v, u = .own v l.length ∧ τ = .row v e 1 (l.map byt) 0 :: σ, rawV_text h1 h2 h3 h (fun v => ⟨v, rfl, rfl⟩), fun u τ ⟨v, e1, e2⟩ => by rw [e1, e2]; exact hK v⟩⟩
end Go.Ab

namespace Go.Ab
open Go.Proofs
instance : TextB Tryz.prog 9 63 5 := ⟨by kernel_rfl, by kernel_rfl, by kernel_rfl⟩
def ref02_Padded.mark : Mark := ⟨fun t => false, fun t => Nat.beq t 7, fun t => false, fun t => false, fun t => false⟩
def ref02_Padded.ann : Ann := ⟨fun n => bif Nat.beq n 3 then [0, 3] else bif Nat.beq n 7 then [3, 4, 5] else [], fun n => none, fun n => none⟩
def ref02_Padded.sh (a0 : AV) (σ : Store) (Q : AEnd → Store → Prop) : Prop :=
 aHook (rawV Tryz.prog 9 63 a0 σ) fun t7 σ =>
 Do (aSlLit (mkE [.val (.int .u8 0)]) 1 1 [(0, (W8 128))]) fun t9 =>
 aAppend 5 1 1 t7 t9 σ (subK fun t10 σ_1 =>
 aLoop (fun go vs σ_2 =>
 At vs 0 fun s0 => At vs 1 fun s3 => Do (aBuiltin Tryz.prog .len #[63] [s3]) fun t12 =>
 Do (aBin Tryz.prog .rem 3 t12 (.val (.int .i64 64))) fun t13 =>
 Do (aBin Tryz.prog .neq 3 t13 (.val (.int .i64 56))) fun t14 =>
 aCond t14
 (Do (aSlLit (mkE [.val (.int .u8 0)]) 1 1 [(0, (W8 0))]) fun t16 =>
 aAppend 5 1 1 s3 t16 σ_2 (subK fun t17 σ_3 =>
 go [s0, t17] σ_3))
 (Do (aBuiltin Tryz.prog .len #[9] [s0]) fun t19 =>
 Do (fun x => aConvN 3 138 t19 x Tryz.prog) fun t20 =>
 Do (aBin Tryz.prog .mul 138 t20 (W64 8)) fun t21 =>
 aLoop (fun go_1 vs_1 σ_4 =>
 At vs_1 0 fun s3_1 => At vs_1 1 fun s4 => At vs_1 2 fun s5 => Do (aBin Tryz.prog .geq 3 s5 (.val (.int .i64 0))) fun t23 =>
 aCond t23
 (Do (aBin Tryz.prog .mul 3 (.val (.int .i64 8)) s5) fun t29 =>
 Do (fun x => aConvN 3 62 t29 x Tryz.prog) fun t30 =>
 Do (aBin Tryz.prog .shr 138 s4 t30) fun t31 =>
 Do (fun x => aConvN 138 5 t31 x Tryz.prog) fun t32 =>
 Do (aSlLit (mkE [.val (.int .u8 0)]) 1 1 [(0, t32)]) fun t33 =>
 aAppend 5 1 1 s3_1 t33 σ_4 (subK fun t34 σ_5 =>
 Do (aBin Tryz.prog .sub 3 s5 (.val (.int .i64 1))) fun t25 =>
 go_1 [t34, s4, t25] σ_5))
 (Q (.ret s3_1) σ_4))
 [s3, t21, (.val (.int .i64 7))] σ_2))
 [a0, t10] σ_1)
theorem ref02_Padded.eq (a0 : AV) (σ : Store) (Q : AEnd → Store → Prop) : vc (semOf Tryz.prog ref02_Padded.mark) Tryz.f148.ntmps ref02_Padded.ann (bodyOf Tryz.f148) (endK [.tmp 2] Q) (argFr [a0]) σ = ref02_Padded.sh a0 σ Q := by kernel_rfl
theorem ref02_Padded.go {a0 : AV} {σ : Store} {Q : AEnd → Store → Prop} (h : ref02_Padded.sh a0 σ Q) : ACalls Tryz.prog 148 [a0] σ Q :=
 acalls_of_eq [.tmp 2] Tryz.func148 (by kernel_rfl) (by kernel_rfl) (by kernel_rfl) (by kernel_rfl) (ref02_Padded.eq a0 σ Q) h
def padZ (n : Nat) : Nat := (119 - n % 64) % 64
theorem Padded_ok (l : List UInt8) (hl : l.length ≤ 100000000000000) : aPure Tryz.prog 148 [S l] (.lst 1 ((l ++ shaTail l.length).map byt) .ro) := by
 refine ACalls.fin (ref02_Padded.go ?_)
 unfold ref02_Padded.sh
 have h128 : ([128] : List UInt8).length = 1 := rfl
 have h00 : ([0] : List UInt8).length = 1 := rfl
 repeat' (with_reducible first|apply Stp.go|refine imp fun _=>?_|refine zq ?_|refine zt ?_|refine zf ?_|refine zg ?_|refine za ?_|refine altF ?_|refine all fun _=>?_|refine both ?_ ?_|refine zu ?_|refine zv ?_|refine cho (fun _=>?_) fun _=>?_|refine zw ?_)
 rename_i v0 v1
 refine loopI (β := Nat × Value) (fun x => x.1 ≤ padZ l.length) (fun x => [S l, .own x.2 (l ++ [128] ++ List.replicate x.1 0).length]) (fun x => [.row x.2 5 1 ((l ++ [128] ++ List.replicate x.1 0).map byt) 0]) (fun x => padZ l.length - x.1) (0, v1) (Nat.zero_le _) ?_ ?_
 ·simp only [List.replicate_zero, List.append_nil]
  exact Sub.refl _ _
 rintro ⟨z, v⟩ hz
 dsimp only at hz ⊢
 have hzl : (l ++ [128] ++ List.replicate z (0 : UInt8)).length = l.length + 1 + z := by simp; omega
 have hzp : padZ l.length < 64 := Nat.mod_lt _ (by decide)
 by_cases hlt : z < padZ l.length
 ·have hne : ¬ (l ++ [128] ++ List.replicate z (0 : UInt8)).length % 64 = 56 := by
   rw [hzl]; unfold padZ at hlt; omega
  repeat' (with_reducible first|apply Stp.go|refine imp fun _=>?_|refine zq ?_|refine zt ?_|refine zf ?_|refine zg ?_|refine za ?_|refine altF ?_|refine all fun _=>?_|refine both ?_ ?_|refine zu ?_|refine zv ?_|refine cho (fun _=>?_) fun _=>?_|refine zw ?_)
  rename_i w
  refine again (z + 1, w) (by dsimp only; omega) (by dsimp only; omega) ?_
  dsimp only
  rw [show l ++ [128] ++ List.replicate (z + 1) (0 : UInt8) = l ++ [128] ++ List.replicate z 0 ++ [0] by rw [List.replicate_succ', List.append_assoc (l ++ [128])]]
  exact subS _
 ·have he : z = padZ l.length := by omega
  have heq : (l ++ [128] ++ List.replicate z (0 : UInt8)).length % 64 = 56 := by
   rw [hzl, he]; unfold padZ; omega
  have hfin : l ++ shaTail l.length = l ++ [128] ++ List.replicate z 0 ++ be64 (8 * l.length) := by
   rw [he, shaTail, padZ]; simp
  rw [hfin]
  generalize l ++ [128] ++ List.replicate z (0 : UInt8) = B at *
  have h8 : (be64 (8 * l.length)).length = 8 := rfl
  repeat' (with_reducible first|apply Stp.go|refine imp fun _=>?_|refine zq ?_|refine zt ?_|refine zf ?_|refine zg ?_|refine za ?_|refine altF ?_|refine all fun _=>?_|refine both ?_ ?_|refine zu ?_|refine zv ?_|refine cho (fun _=>?_) fun _=>?_|refine zw ?_)
  refine loopI (β := Nat × Value) (fun x => x.1 ≤ 8) (fun x => [.own x.2 (B ++ (be64 (8 * l.length)).take x.1).length, W64 (UInt64.ofNat l.length * 8), I .i64 (7 - (x.1 : Int))]) (fun x => [.row x.2 5 1 ((B ++ (be64 (8 * l.length)).take x.1).map byt) 0]) (fun x => 8 - x.1) (0, v) (Nat.zero_le _) ?_ ?_
  ·simp only [List.take_zero, List.append_nil]
   exact Sub.refl _ _
  rintro ⟨k, v⟩ hk
  dsimp only at hk ⊢
  have hBk : (B ++ (be64 (8 * l.length)).take k).length = B.length + k := by simp only [List.length_append, List.length_take, h8]; omega
  have hm8 : (UInt64.ofNat l.length * 8).toNat = 8 * l.length := by
   rw [UInt64.toNat_mul, u64_len (by omega)]
   show l.length * 8 % 18446744073709551616 = _
   omega
  have hb : ∀ s, s < 64 → UInt8.ofNat ((UInt64.ofNat l.length * 8) >>> UInt64.ofNat s).toNat = UInt8.ofNat (8 * l.length / 2 ^ s) := fun s hs => by
   rw [UInt64.toNat_shiftRight, hm8, u64_len (by omega), Nat.mod_eq_of_lt hs, Nat.shiftRight_eq_div_pow]
  match k, hk with
  | 0, _ =>
   have e2 : B ++ (be64 (8 * l.length)).take 1 = B ++ (be64 (8 * l.length)).take 0 ++ [UInt8.ofNat ((UInt64.ofNat l.length * 8) >>> UInt64.ofNat 56).toNat] := by
    rw [hb 56 (by decide), List.append_assoc]; rfl
   repeat' (with_reducible first|apply Stp.go|refine imp fun _=>?_|refine zq ?_|refine zt ?_|refine zf ?_|refine zg ?_|refine za ?_|refine altF ?_|refine all fun _=>?_|refine both ?_ ?_|refine zu ?_|refine zv ?_|refine cho (fun _=>?_) fun _=>?_|refine zw ?_)
   rename_i w
   refine again (1, w) (by dsimp only; omega) (by dsimp only; omega) ?_
   dsimp only
   rw [e2]
   exact Sub.refl _ _
  | 1, _ =>
   have e2 : B ++ (be64 (8 * l.length)).take 2 = B ++ (be64 (8 * l.length)).take 1 ++ [UInt8.ofNat ((UInt64.ofNat l.length * 8) >>> UInt64.ofNat 48).toNat] := by
    rw [hb 48 (by decide), List.append_assoc]; rfl
   repeat' (with_reducible first|apply Stp.go|refine imp fun _=>?_|refine zq ?_|refine zt ?_|refine zf ?_|refine zg ?_|refine za ?_|refine altF ?_|refine all fun _=>?_|refine both ?_ ?_|refine zu ?_|refine zv ?_|refine cho (fun _=>?_) fun _=>?_|refine zw ?_)
   rename_i w
   refine again (2, w) (by dsimp only; omega) (by dsimp only; omega) ?_
   dsimp only
   rw [e2]
   exact Sub.refl _ _
  | 2, _ =>
   have e2 : B ++ (be64 (8 * l.length)).take 3 = B ++ (be64 (8 * l.length)).take 2 ++ [UInt8.ofNat ((UInt64.ofNat l.length * 8) >>> UInt64.ofNat 40).toNat] := by
    rw [hb 40 (by decide), List.append_assoc]; rfl
   repeat' (with_reducible first|apply Stp.go|refine imp fun _=>?_|refine zq ?_|refine zt ?_|refine zf ?_|refine zg ?_|refine za ?_|refine altF ?_|refine all fun _=>?_|refine both ?_ ?_|refine zu ?_|refine zv ?_|refine cho (fun _=>?_) fun _=>?_|refine zw ?_)
   rename_i w
   refine again (3, w) (by dsimp only; omega) (by dsimp only; omega) ?_
   dsimp only
   rw [e2]
   exact Sub.refl _ _
  | 3, _ =>
   have e2 : B ++ (be64 (8 * l.length)).take 4 = B ++ (be64 (8 * l.length)).take 3 ++ [UInt8.ofNat ((UInt64.ofNat l.length * 8) >>> UInt64.ofNat 32).toNat] := by
    rw [hb 32 (by decide), List.append_assoc]; rfl
   repeat' (with_reducible first|apply Stp.go|refine imp fun _=>?_|refine zq ?_|refine zt ?_|refine zf ?_|refine zg ?_|refine za ?_|refine altF ?_|refine all fun _=>?_|refine both ?_ ?_|refine zu ?_|refine zv ?_|refine cho (fun _=>?_) fun _=>?_|refine zw ?_)
   rename_i w
   refine again (4, w) (by dsimp only; omega) (by dsimp only; omega) ?_
   dsimp only
   rw [e2]
   exact Sub.refl _ _
  | 4, _ =>
   have e2 : B ++ (be64 (8 * l.length)).take 5 = B ++ (be64 (8 * l.length)).take 4 ++ [UInt8.ofNat ((UInt64.ofNat l.length * 8) >>> UInt64.ofNat 24).toNat] := by
    rw [hb 24 (by decide), List.append_assoc]; rfl
   repeat' (with_reducible first|apply Stp.go|refine imp fun _=>?_|refine zq ?_|refine zt ?_|refine zf ?_|refine zg ?_|refine za ?_|refine altF ?_|refine all fun _=>?_|refine both ?_ ?_|refine zu ?_|refine zv ?_|refine cho (fun _=>?_) fun _=>?_|refine zw ?_)
   rename_i w
   refine again (5, w) (by dsimp only; omega) (by dsimp only; omega) ?_
   dsimp only
   rw [e2]
   exact Sub.refl _ _
  | 5, _ =>
   have e2 : B ++ (be64 (8 * l.length)).take 6 = B ++ (be64 (8 * l.length)).take 5 ++ [UInt8.ofNat ((UInt64.ofNat l.length * 8) >>> UInt64.ofNat 16).toNat] := by
    rw [hb 16 (by decide), List.append_assoc]; rfl
   repeat' (with_reducible first|apply Stp.go|refine imp fun _=>?_|refine zq ?_|refine zt ?_|refine zf ?_|refine zg ?_|refine za ?_|refine altF ?_|refine all fun _=>?_|refine both ?_ ?_|refine zu ?_|refine zv ?_|refine cho (fun _=>?_) fun _=>?_|refine zw ?_)
   rename_i w
   refine again (6, w) (by dsimp only; omega) (by dsimp only; omega) ?_
   dsimp only
   rw [e2]
   exact Sub.refl _ _
  | 6, _ =>
   have e2 : B ++ (be64 (8 * l.length)).take 7 = B ++ (be64 (8 * l.length)).take 6 ++ [UInt8.ofNat ((UInt64.ofNat l.length * 8) >>> UInt64.ofNat 8).toNat] := by
    rw [hb 8 (by decide), List.append_assoc]; rfl
   repeat' (with_reducible first|apply Stp.go|refine imp fun _=>?_|refine zq ?_|refine zt ?_|refine zf ?_|refine zg ?_|refine za ?_|refine altF ?_|refine all fun _=>?_|refine both ?_ ?_|refine zu ?_|refine zv ?_|refine cho (fun _=>?_) fun _=>?_|refine zw ?_)
   rename_i w
   refine again (7, w) (by dsimp only; omega) (by dsimp only; omega) ?_
   dsimp only
   rw [e2]
   exact Sub.refl _ _
  | 7, _ =>
   have e2 : B ++ (be64 (8 * l.length)).take 8 = B ++ (be64 (8 * l.length)).take 7 ++ [UInt8.ofNat ((UInt64.ofNat l.length * 8) >>> UInt64.ofNat 0).toNat] := by
    rw [hb 0 (by decide), Nat.pow_zero, Nat.div_one, List.append_assoc]; rfl
   repeat' (with_reducible first|apply Stp.go|refine imp fun _=>?_|refine zq ?_|refine zt ?_|refine zf ?_|refine zg ?_|refine za ?_|refine altF ?_|refine all fun _=>?_|refine both ?_ ?_|refine zu ?_|refine zv ?_|refine cho (fun _=>?_) fun _=>?_|refine zw ?_)
   rename_i w
   refine again (8, w) (by dsimp only; omega) (by dsimp only; omega) ?_
   dsimp only
   rw [e2]
   exact Sub.refl _ _
  | 8, _ =>
   repeat' (with_reducible first|apply Stp.go|refine imp fun _=>?_|refine zq ?_|refine zt ?_|refine zf ?_|refine zg ?_|refine za ?_|refine altF ?_|refine all fun _=>?_|refine both ?_ ?_|refine zu ?_|refine zv ?_|refine cho (fun _=>?_) fun _=>?_|refine zw ?_)
   exact ⟨_, _, _, rfl, retOwn (Sub.refl _ _), rfl, rfl⟩
instance {l : List UInt8} : PC Tryz.prog 148 [S l] (l.length ≤ 100000000000000) (.lst 1 ((l ++ shaTail l.length).map byt) .ro) := ⟨fun hl => PC.of (Padded_ok l hl)⟩
end Go.Ab

namespace Go.Ab
open Go.Proofs
def ref02_turned.mark : Mark := ⟨fun t => false, fun t => false, fun t => false, fun t => false, fun t => false⟩
def ref02_turned.ann : Ann := ⟨fun n => [], fun n => none, fun n => none⟩
def ref02_turned.sh (a0 a1 : AV) (σ : Store) (Q : AEnd → Store → Prop) : Prop :=
 Do (fun x => aConvN 3 62 a1 x Tryz.prog) fun t7 =>
 Do (aBin Tryz.prog .shr 159 a0 t7) fun t8 =>
 Do (aBin Tryz.prog .sub 3 (.val (.int .i64 32)) a1) fun t11 =>
 Do (fun x => aConvN 3 62 t11 x Tryz.prog) fun t12 =>
 Do (aBin Tryz.prog .shl 159 a0 t12) fun t13 =>
 Do (aBin Tryz.prog .or 159 t8 t13) fun t14 =>
 Q (.ret t14) σ
theorem ref02_turned.eq (a0 a1 : AV) (σ : Store) (Q : AEnd → Store → Prop) : vc (semOf Tryz.prog ref02_turned.mark) Tryz.f150.ntmps ref02_turned.ann (bodyOf Tryz.f150) (endK [.tmp 4] Q) (argFr [a0, a1]) σ = ref02_turned.sh a0 a1 σ Q := by kernel_rfl
theorem ref02_turned.go {a0 a1 : AV} {σ : Store} {Q : AEnd → Store → Prop} (h : ref02_turned.sh a0 a1 σ Q) : ACalls Tryz.prog 150 [a0, a1] σ Q :=
 acalls_of_eq [.tmp 4] Tryz.func150 (by kernel_rfl) (by kernel_rfl) (by kernel_rfl) (by kernel_rfl) (ref02_turned.eq a0 a1 σ Q) h
theorem turned_ok (x : UInt32) (n : Nat) (h1 : 1 ≤ n) (hn : n ≤ 31) : aPure Tryz.prog 150 [W32 x, I .i64 (n : Nat)] (W32 (rotr x n)) := by
 refine ACalls.fin (ref02_turned.go ?_)
 unfold ref02_turned.sh
 have e1 : n % 18446744073709551616 = n := Nat.mod_eq_of_lt (by omega)
 have e2 : (32 - n) % 18446744073709551616 = 32 - n := Nat.mod_eq_of_lt (by omega)
 repeat' (with_reducible first|apply Stp.go|refine imp fun _=>?_|refine zq ?_|refine zt ?_|refine zf ?_|refine zg ?_|refine za ?_|refine altF ?_|refine all fun _=>?_|refine both ?_ ?_|refine zu ?_|refine zv ?_|refine cho (fun _=>?_) fun _=>?_|refine zw ?_)
 refine ⟨_, _, _, rfl, Sub.refl _ _, ?_, rfl⟩
 rw [e1, e2]
 rfl
instance {x : UInt32} {n : Nat} {y : Int} [hy : NatOf y n] : PC Tryz.prog 150 [W32 x, .val (.int .i64 y)] (1 ≤ n ∧ n ≤ 31) (W32 (rotr x n)) := ⟨fun h => by rw [hy.eq]; exact PC.of (turned_ok x n h.1 h.2)⟩
def ref02_Constants.mark : Mark := ⟨fun t => false, fun t => false, fun t => false, fun t => false, fun t => false⟩
def ref02_Constants.ann : Ann := ⟨fun n => [], fun n => none, fun n => none⟩
def ref02_Constants.sh (σ : Store) (Q : AEnd → Store → Prop) : Prop :=
 Do (aSlLit (mkE [.val (.int .u32 0)]) 1 64 ([(0, (W32 1116352408)), (1, (W32 1899447441)), (2, (W32 3049323471)), (3, (W32 3921009573)), (4, (W32 961987163)), (5, (W32 1508970993)), (6, (W32 2453635748)), (7, (W32 2870763221)), (8, (W32 3624381080)), (9, (W32 310598401)), (10, (W32 607225278)), (11, (W32 1426881987)), (12, (W32 1925078388)), (13, (W32 2162078206)), (14, (W32 2614888103)), (15, (W32 3248222580)), (16, (W32 3835390401)), (17, (W32 4022224774)), (18, (W32 264347078)), (19, (W32 604807628)), (20, (W32 770255983)), (21, (W32 1249150122)), (22, (W32 1555081692)), (23, (W32 1996064986)), (24, (W32 2554220882)), (25, (W32 2821834349)), (26, (W32 2952996808)), (27, (W32 3210313671)), (28, (W32 3336571891)), (29, (W32 3584528711)), (30, (W32 113926993)), (31, (W32 338241895))] ++ ([(32, (W32 666307205)), (33, (W32 773529912)), (34, (W32 1294757372)), (35, (W32 1396182291)), (36, (W32 1695183700)), (37, (W32 1986661051)), (38, (W32 2177026350)), (39, (W32 2456956037)), (40, (W32 2730485921)), (41, (W32 2820302411)), (42, (W32 3259730800)), (43, (W32 3345764771)), (44, (W32 3516065817)), (45, (W32 3600352804)), (46, (W32 4094571909)), (47, (W32 275423344)), (48, (W32 430227734)), (49, (W32 506948616)), (50, (W32 659060556)), (51, (W32 883997877)), (52, (W32 958139571)), (53, (W32 1322822218)), (54, (W32 1537002063)), (55, (W32 1747873779)), (56, (W32 1955562222)), (57, (W32 2024104815)), (58, (W32 2227730452)), (59, (W32 2361852424)), (60, (W32 2428436474)), (61, (W32 2756734187)), (62, (W32 3204031479)), (63, (W32 3329325298))]))) fun t1 =>
 Q (.ret t1) σ
theorem ref02_Constants.eq (σ : Store) (Q : AEnd → Store → Prop) : vc (semOf Tryz.prog ref02_Constants.mark) Tryz.f147.ntmps ref02_Constants.ann (bodyOf Tryz.f147) (endK [.tmp 0] Q) (argFr []) σ = ref02_Constants.sh  σ Q := by kernel_rfl
theorem ref02_Constants.go {σ : Store} {Q : AEnd → Store → Prop} (h : ref02_Constants.sh  σ Q) : ACalls Tryz.prog 147 [] σ Q :=
 acalls_of_eq [.tmp 0] Tryz.func147 (by kernel_rfl) (by kernel_rfl) (by kernel_rfl) (by kernel_rfl) (ref02_Constants.eq  σ Q) h
theorem Constants_ok : aPure Tryz.prog 147 [] (.lst 1 (shaK.map wrd) .ro) := by
 refine ACalls.fin (ref02_Constants.go ?_)
 unfold ref02_Constants.sh
 refine ⟨.lst 1 (shaK.map wrd) .full, ⟨by unfold partsOne; decide +kernel, ⟨shaK.map wrd, rfl, told_len (inferInstance : Enc wrd 1).told shaK, by kernel_rfl, rfl⟩, fun l hl => ?_⟩, ?_⟩
 ·cases hl
  exact flat_one (inferInstance : Enc wrd 1) shaK
 exact ⟨_, _, _, rfl, retLst (Sub.app_nil _), rfl, rfl⟩
instance : PC Tryz.prog 147 [] True (.lst 1 (shaK.map wrd) .ro) := ⟨fun _ => PC.of Constants_ok⟩
end Go.Ab

namespace Go.Ab
open Go.Proofs
def wAcc (b : List UInt8) (t : Nat) : Nat → UInt32
 | 0 => 0
 | k + 1 => wAcc b t k * 256 + UInt32.ofNat (b.getD (4 * t + k) 0).toNat
theorem wAcc_four (b : List UInt8) (t : Nat) : wAcc b t 4 = be32 (b.getD (4 * t) 0) (b.getD (4 * t + 1) 0) (b.getD (4 * t + 2) 0) (b.getD (4 * t + 3) 0) := by
 simp only [wAcc, be32, Nat.add_zero, UInt32.ofNat_add, UInt32.ofNat_mul]
 simp
def ref02_schedule.mark : Mark := ⟨fun t => Nat.beq t 51 || Nat.beq t 53 || Nat.beq t 59 || Nat.beq t 61, fun t => Nat.beq t 12, fun t => false, fun t => Nat.beq t 29, fun t => false⟩
def ref02_schedule.ann : Ann := ⟨fun n => bif Nat.beq n 3 then [0, 3, 4] else bif Nat.beq n 7 then [0, 3, 4, 5, 6] else bif Nat.beq n 12 then [3, 7] else [], fun n => none, fun n => bif Nat.beq n 18 then some [3, 7] else none⟩
def ref02_schedule.sh (a0 : AV) (σ : Store) (Q : AEnd → Store → Prop) : Prop :=
 aRowL 159 (mkE [.val (.int .u32 0)]) 1 0 [] σ fun t12 σ =>
 aLoop (fun go vs σ_1 =>
 At vs 0 fun s0 => At vs 1 fun s3 => At vs 2 fun s4 => Do (aBin Tryz.prog .lss 3 s4 (.val (.int .i64 16))) fun t14 =>
 aCond t14
 (aLoop (fun go_1 vs_1 σ_2 =>
 At vs_1 0 fun s0_1 => At vs_1 1 fun s3_1 => At vs_1 2 fun s4_1 => At vs_1 3 fun s5 => At vs_1 4 fun s6 => Do (aBin Tryz.prog .lss 3 s6 (.val (.int .i64 4))) fun t18 =>
 aCond t18
 (Do (aBin Tryz.prog .mul 159 s5 (W32 256)) fun t22 =>
 Do (aBin Tryz.prog .mul 3 (.val (.int .i64 4)) s4_1) fun t25 =>
 Do (aBin Tryz.prog .add 3 t25 s6) fun t27 =>
 Do (aIndexAddr .slice 1 s0_1 t27) fun t28 =>
 Do (loadF false 1 t28) fun t29 =>
 Do (fun x => aConvN 5 159 t29 x Tryz.prog) fun t30 =>
 Do (aBin Tryz.prog .add 159 t22 t30) fun t31 =>
 Do (aBin Tryz.prog .add 3 s6 (.val (.int .i64 1))) fun t20 =>
 go_1 [s0_1, s3_1, s4_1, t31, t20] σ_2)
 (Do (aSlLit (mkE [.val (.int .u32 0)]) 1 1 [(0, s5)]) fun t34 =>
 aAppend 159 1 4 s3_1 t34 σ_2 (subK fun t35 σ_3 =>
 Do (aBin Tryz.prog .add 3 s4_1 (.val (.int .i64 1))) fun t16 =>
 go [s0_1, t35, t16] σ_3)))
 [s0, s3, s4, (W32 0), (.val (.int .i64 0))] σ_1)
 (aLoop (fun go_2 vs_2 σ_4 =>
 At vs_2 0 fun s3_2 => At vs_2 1 fun s7 => Do (aBin Tryz.prog .lss 3 s7 (.val (.int .i64 64))) fun t37 =>
 aCond t37
 (Do (aBin Tryz.prog .sub 3 s7 (.val (.int .i64 15))) fun t42 =>
 Do (aIndexAddr .slice 1 s3_2 t42) fun t43 =>
 Do (loadA false 1 t43 σ_4) fun t44 =>
 Do (aBin Tryz.prog .sub 3 s7 (.val (.int .i64 2))) fun t47 =>
 Do (aIndexAddr .slice 1 s3_2 t47) fun t48 =>
 Do (loadA false 1 t48 σ_4) fun t49 =>
 Do (aPureC Tryz.prog 150 [t44, (.val (.int .i64 7))]) fun t51 =>
 Do (aPureC Tryz.prog 150 [t44, (.val (.int .i64 18))]) fun t53 =>
 Do (aBin Tryz.prog .xor 159 t51 t53) fun t54 =>
 Do (aBin Tryz.prog .shr 159 t44 (W64 3)) fun t56 =>
 Do (aBin Tryz.prog .xor 159 t54 t56) fun t57 =>
 Do (aPureC Tryz.prog 150 [t49, (.val (.int .i64 17))]) fun t59 =>
 Do (aPureC Tryz.prog 150 [t49, (.val (.int .i64 19))]) fun t61 =>
 Do (aBin Tryz.prog .xor 159 t59 t61) fun t62 =>
 Do (aBin Tryz.prog .shr 159 t49 (W64 10)) fun t64 =>
 Do (aBin Tryz.prog .xor 159 t62 t64) fun t65 =>
 aJoin (fun j =>
 Do (aBin Tryz.prog .sub 3 s7 (.val (.int .i64 7))) fun t70 =>
 Do (aIndexAddr .slice 1 s3_2 t70) fun t71 =>
 Do (aBin Tryz.prog .sub 3 s7 (.val (.int .i64 16))) fun t78 =>
 Do (aIndexAddr .slice 1 s3_2 t78) fun t79 =>
 Both (Do (loadA false 1 t71 σ_4) fun t72 =>
 Do (aBin Tryz.prog .add 159 t65 t72) fun t73 =>
 Do (aBin Tryz.prog .add 159 t73 t57) fun t75 =>
 Do (loadA false 1 t79 σ_4) fun t80 =>
 Do (aBin Tryz.prog .add 159 t75 t80) fun t81 =>
 Do (aSlLit (mkE [.val (.int .u32 0)]) 1 1 [(0, t81)]) fun t82 =>
 aAppend 159 1 4 s3_2 t82 σ_4 (subK fun t83 σ_6 =>
 j [t83, s7] σ_6)) (Do (loadA false 1 t79 σ_4) fun t80_1 =>
 Do (loadA false 1 t71 σ_4) fun t72_1 =>
 Do (aBin Tryz.prog .add 159 t65 t72_1) fun t73_1 =>
 Do (aBin Tryz.prog .add 159 t73_1 t57) fun t75_1 =>
 Do (aBin Tryz.prog .add 159 t75_1 t80_1) fun t81_1 =>
 Do (aSlLit (mkE [.val (.int .u32 0)]) 1 1 [(0, t81_1)]) fun t82_1 =>
 aAppend 159 1 4 s3_2 t82_1 σ_4 (subK fun t83_1 σ_7 =>
 j [t83_1, s7] σ_7))) fun vs_3 σ_5 =>
 At vs_3 0 fun s3_3 => At vs_3 1 fun s7_1 => Do (aBin Tryz.prog .add 3 s7_1 (.val (.int .i64 1))) fun t39 =>
 go_2 [s3_3, t39] σ_5)
 (Q (.ret s3_2) σ_4))
 [s3, (.val (.int .i64 16))] σ_1))
 [a0, t12, (.val (.int .i64 0))] σ
theorem ref02_schedule.eq (a0 : AV) (σ : Store) (Q : AEnd → Store → Prop) : vc (semOf Tryz.prog ref02_schedule.mark) Tryz.f149.ntmps ref02_schedule.ann (bodyOf Tryz.f149) (endK [.tmp 2] Q) (argFr [a0]) σ = ref02_schedule.sh a0 σ Q := by kernel_rfl
theorem ref02_schedule.go {a0 : AV} {σ : Store} {Q : AEnd → Store → Prop} (h : ref02_schedule.sh a0 σ Q) : ACalls Tryz.prog 149 [a0] σ Q :=
 acalls_of_eq [.tmp 2] Tryz.func149 (by kernel_rfl) (by kernel_rfl) (by kernel_rfl) (by kernel_rfl) (ref02_schedule.eq a0 σ Q) h
theorem schedule_ok (b : List UInt8) (m : SM) (hb : b.length = 64) : aPure Tryz.prog 149 [.lst 1 (b.map byt) m] (.lst 1 ((sched b 64).map wrd) .ro) := by
 refine ACalls.fin (ref02_schedule.go ?_)
 unfold ref02_schedule.sh
 repeat' (with_reducible first|apply Stp.go|refine imp fun _=>?_|refine zq ?_|refine zt ?_|refine zf ?_|refine zg ?_|refine za ?_|refine altF ?_|refine all fun _=>?_|refine both ?_ ?_|refine zu ?_|refine zv ?_|refine cho (fun _=>?_) fun _=>?_|refine zw ?_)
 rename_i v0
 refine loopI (β := Nat × Value) (fun x => x.1 ≤ 16) (fun x => [.lst 1 (b.map byt) m, .own x.2 (sched b x.1).length, I .i64 (x.1 : Nat)]) (fun x => [.row x.2 159 1 ((sched b x.1).map wrd) 0]) (fun x => 16 - x.1) (0, v0) (Nat.zero_le _) (Sub.refl _ _) ?_
 rintro ⟨t, v⟩ ht
 dsimp only at ht ⊢
 have hsl := sched_length b t
 by_cases hlt : t < 16
 ·repeat' (with_reducible first|apply Stp.go|refine imp fun _=>?_|refine zq ?_|refine zt ?_|refine zf ?_|refine zg ?_|refine za ?_|refine altF ?_|refine all fun _=>?_|refine both ?_ ?_|refine zu ?_|refine zv ?_|refine cho (fun _=>?_) fun _=>?_|refine zw ?_)
  refine loopI (β := Nat) (fun k => k ≤ 4) (fun k => [.lst 1 (b.map byt) m, .own v (sched b t).length, I .i64 (t : Nat), W32 (wAcc b t k), I .i64 (k : Nat)]) (fun _ => [.row v 159 1 ((sched b t).map wrd) 0]) (fun k => 4 - k) 0 (Nat.zero_le _) (Sub.refl _ _) ?_
  intro k hk
  by_cases hkl : k < 4
  ·repeat' (with_reducible first|apply Stp.go|refine imp fun _=>?_|refine zq ?_|refine zt ?_|refine zf ?_|refine zg ?_|refine za ?_|refine altF ?_|refine all fun _=>?_|refine both ?_ ?_|refine zu ?_|refine zv ?_|refine cho (fun _=>?_) fun _=>?_|refine zw ?_)
   exact again (k + 1) (by omega) (by omega) (Sub.refl _ _)
  ·have e : k = 4 := by omega
   subst e
   repeat' (with_reducible first|apply Stp.go|refine imp fun _=>?_|refine zq ?_|refine zt ?_|refine zf ?_|refine zg ?_|refine za ?_|refine altF ?_|refine all fun _=>?_|refine both ?_ ?_|refine zu ?_|refine zv ?_|refine cho (fun _=>?_) fun _=>?_|refine zw ?_)
   rename_i w
   refine again (t + 1, w) (by dsimp only; omega) (by dsimp only; omega) ?_
   dsimp only
   rw [show sched b (t + 1) = sched b t ++ [wAcc b t 4] by rw [wAcc_four, sched, if_pos hlt]]
   exact subS _
 ·have e : t = 16 := by omega
  subst e
  repeat' (with_reducible first|apply Stp.go|refine imp fun _=>?_|refine zq ?_|refine zt ?_|refine zf ?_|refine zg ?_|refine za ?_|refine altF ?_|refine all fun _=>?_|refine both ?_ ?_|refine zu ?_|refine zv ?_|refine cho (fun _=>?_) fun _=>?_|refine zw ?_)
  refine loopI (β := Nat × Value) (fun x => 16 ≤ x.1 ∧ x.1 ≤ 64) (fun x => [.own x.2 (sched b x.1).length, I .i64 (x.1 : Nat)]) (fun x => [.row x.2 159 1 ((sched b x.1).map wrd) 0]) (fun x => 64 - x.1) (16, v) ⟨Nat.le_refl 16, show 16 ≤ 64 by decide⟩ (Sub.refl _ _) ?_
  rintro ⟨t, v⟩ ⟨ht, ht2⟩
  dsimp only at ht ht2 ⊢
  have hsl := sched_length b t
  by_cases hlt : t < 64
  ·have hs : sched b (t + 1) = sched b t ++ [wNext (sched b t)] := by rw [sched, if_neg (by omega)]
   have hw : wNext (sched b t) = (rotr ((sched b t).getD (t - 2) default) 17 ^^^ rotr ((sched b t).getD (t - 2) default) 19 ^^^ (sched b t).getD (t - 2) default >>> UInt32.ofNat 10) + (sched b t).getD (t - 7) default + (rotr ((sched b t).getD (t - 15) default) 7 ^^^ rotr ((sched b t).getD (t - 15) default) 18 ^^^ (sched b t).getD (t - 15) default >>> UInt32.ofNat 3) + (sched b t).getD (t - 16) default := by
    unfold wNext; rw [hsl]; rfl
   repeat' (with_reducible first|apply Stp.go|refine imp fun _=>?_|refine zq ?_|refine zt ?_|refine zf ?_|refine zg ?_|refine za ?_|refine altF ?_|refine all fun _=>?_|refine both ?_ ?_|refine zu ?_|refine zv ?_|refine cho (fun _=>?_) fun _=>?_|refine zw ?_)
   refine joinI (β := Value) (fun _ => True) (fun w => [.own w (sched b (t + 1)).length, I .i64 (t : Nat)]) (fun w => [.row w 159 1 ((sched b (t + 1)).map wrd) 0]) ?_ ?_
   ·rw [hs, hw]
    generalize sched b t = W at *
    repeat' (with_reducible first|apply Stp.go|refine imp fun _=>?_|refine zq ?_|refine zt ?_|refine zf ?_|refine zg ?_|refine za ?_|refine altF ?_|refine all fun _=>?_|refine both ?_ ?_|refine zu ?_|refine zv ?_|refine cho (fun _=>?_) fun _=>?_|refine zw ?_)
    all_goals
     rename_i w
     exact meet w trivial (subS _)
   ·rintro w _
    repeat' (with_reducible first|apply Stp.go|refine imp fun _=>?_|refine zq ?_|refine zt ?_|refine zf ?_|refine zg ?_|refine za ?_|refine altF ?_|refine all fun _=>?_|refine both ?_ ?_|refine zu ?_|refine zv ?_|refine cho (fun _=>?_) fun _=>?_|refine zw ?_)
    exact again (t + 1, w) (by dsimp only; omega) ⟨by dsimp only; omega, by dsimp only; omega⟩ (Sub.refl _ _)
  ·have e : t = 64 := by omega
   subst e
   repeat' (with_reducible first|apply Stp.go|refine imp fun _=>?_|refine zq ?_|refine zt ?_|refine zf ?_|refine zg ?_|refine za ?_|refine altF ?_|refine all fun _=>?_|refine both ?_ ?_|refine zu ?_|refine zv ?_|refine cho (fun _=>?_) fun _=>?_|refine zw ?_)
   exact ⟨_, _, _, rfl, retOwn (Sub.refl _ _), rfl, rfl⟩
instance {a : AV} {b : List UInt8} {m : SM} [h : IsL a byt 1 b m] : PC Tryz.prog 149 [a] (b.length = 64) (.lst 1 ((sched b 64).map wrd) .ro) := ⟨fun hl => ⟨[.lst 1 (b.map byt) m], ⟨h.sub, trivial⟩, schedule_ok b m hl⟩⟩
end Go.Ab

namespace Go.Ab
theorem by32_get (v : UInt32) {k : Nat} (hk : k < 4) : (by32 v).getD k default = UInt8.ofNat (v >>> UInt32.ofNat (24 - 8 * k)).toNat := by
 have hs : ∀ n, n < 32 → (v >>> UInt32.ofNat n).toNat = v.toNat / 2 ^ n := by
  intro n hn
  have e : (UInt32.ofNat n).toNat = n := by rw [UInt32.toNat_ofNat']; exact Nat.mod_eq_of_lt (by omega)
  rw [UInt32.toNat_shiftRight, e, Nat.mod_eq_of_lt hn, Nat.shiftRight_eq_div_pow]
 rw [hs _ (by omega)]
 match k, hk with
 | 0, _ => rfl
 | 1, _ => rfl
 | 2, _ => rfl
 | 3, _ => show UInt8.ofNat v.toNat = UInt8.ofNat (v.toNat / 2 ^ 0); rw [Nat.pow_zero, Nat.div_one]
theorem shaOut_get : ∀ (H : List UInt32) (i : Nat), i < 4 * H.length → (shaOut H).getD i default = UInt8.ofNat ((H.getD (i / 4) default) >>> UInt32.ofNat (24 - 8 * (i % 4))).toNat
 | [], i, h => by simp at h
 | v :: H, i, h => by
  have e : shaOut (v :: H) = by32 v ++ shaOut H := by simp [shaOut]
  have h4 : (by32 v).length = 4 := rfl
  by_cases hi : i < 4
  ·rw [e, getD_app_l _ _ _ _ (by omega), by32_get v hi, Nat.div_eq_of_lt hi, Nat.mod_eq_of_lt hi]
   rfl
  ·obtain ⟨j, rfl⟩ : ∃ j, i = j + 4 := ⟨i - 4, by omega⟩
   rw [e, getD_app_r _ _ _ _ (by omega), h4, Nat.add_sub_cancel, shaOut_get H j (by simp at h; omega), show (j + 4) / 4 = j / 4 + 1 by omega, show (j + 4) % 4 = j % 4 by omega]
   rfl
def outB (H : List UInt32) (i : Nat) : List UInt8 := (shaOut H).take i ++ List.replicate (32 - i) 0
theorem outB_length {H : List UInt32} (hH : H.length = 8) {i : Nat} (hi : i ≤ 32) : (outB H i).length = 32 := by
 simp [outB, shaOut_length, hH]; omega
theorem outB_set {H : List UInt32} (hH : H.length = 8) {i : Nat} (hi : i < 32) : (outB H i).set i (UInt8.ofNat ((H.getD (i / 4) default) >>> UInt32.ofNat (24 - 8 * (i % 4))).toNat) = outB H (i + 1) := by
 have hl := shaOut_length H
 have hs : (shaOut H).take (i + 1) = (shaOut H).take i ++ [(shaOut H).getD i default] := by
  rw [List.take_add_one, List.getD_eq_getElem?_getD, List.getElem?_eq_getElem (by omega)]; rfl
 have h2 : ((shaOut H).take i).length = i := by rw [List.length_take]; omega
 rw [← shaOut_get H i (by omega), outB, outB, hs, List.set_append_right _ _ (by omega), h2, Nat.sub_self, show 32 - i = (32 - (i + 1)) + 1 by omega, List.replicate_succ, List.set_cons_zero, List.append_assoc]
 rfl
def clrS (bits : Int) (c : List UInt8) (i : Nat) : List UInt8 := if bits ≤ i then c.set (i / 8) (c.getD (i / 8) default &&& ~~~((128 : UInt8) >>> UInt8.ofNat (i % 8))) else c
def clrN (bits : Int) (c : List UInt8) : Nat → List UInt8
 | 0 => c
 | i + 1 => clrS bits (clrN bits c i) i
def clrB (b : Int) (x : UInt8) : Nat → UInt8
 | 0 => x
 | j + 1 => if b ≤ j then clrB b x j &&& ~~~((128 : UInt8) >>> UInt8.ofNat j) else clrB b x j
theorem clrS_length (bits : Int) (c : List UInt8) (i : Nat) : (clrS bits c i).length = c.length := by
 unfold clrS; split <;> simp
theorem clrN_length (bits : Int) (c : List UInt8) : ∀ n, (clrN bits c n).length = c.length
 | 0 => rfl
 | n + 1 => by rw [clrN, clrS_length, clrN_length bits c n]
theorem clrN_get (bits : Int) {c : List UInt8} (hc : c.length = 32) : ∀ n, n ≤ 256 → ∀ k, k < 32 → (clrN bits c n).getD k default = clrB (bits - 8 * k) (c.getD k default) (min 8 (n - 8 * k))
 | 0, _, k, hk => by
  have e : min 8 (0 - 8 * k) = 0 := by omega
  rw [e]; rfl
 | n + 1, hn, k, hk => by
  have ih := clrN_get bits hc n (by omega)
  have hl := clrN_length bits c n
  rw [clrN]
  by_cases hk2 : k = n / 8
  ·subst hk2
   have e1 : min 8 (n - 8 * (n / 8)) = n % 8 := by omega
   have e2 : min 8 (n + 1 - 8 * (n / 8)) = n % 8 + 1 := by omega
   have ih := ih (n / 8) hk
   rw [e1] at ih
   rw [e2, clrB, clrS]
   by_cases hb : bits ≤ n
   ·rw [if_pos hb, if_pos (by omega), ← ih, List.getD_eq_getElem?_getD, List.getElem?_set_self (by omega)]
    rfl
   ·rw [if_neg hb, if_neg (by omega), ih]
  ·have e1 : min 8 (n + 1 - 8 * k) = min 8 (n - 8 * k) := by omega
   rw [e1, ← ih k hk, clrS]
   split
   ·rw [List.getD_eq_getElem?_getD, List.getElem?_set_ne (by omega), ← List.getD_eq_getElem?_getD]
   ·rfl
theorem all8' {p : UInt8 → Prop} (h : ∀ n : Fin 256, p (UInt8.ofNat n)) (c : UInt8) : p c := by
 have := h ⟨c.toNat, c.toNat_lt⟩
 simpa using this
theorem clrB_none {b : Int} (h : b ≤ 0) (x : UInt8) : ∀ j, clrB b x j = clrB 0 x j
 | 0 => rfl
 | j + 1 => by rw [clrB, clrB, if_pos (by omega), if_pos (by omega), clrB_none h x j]
theorem clrB_all {b : Int} (h : 8 ≤ b) (x : UInt8) : ∀ j, j ≤ 8 → clrB b x j = x
 | 0, _ => rfl
 | j + 1, hj => by rw [clrB, if_neg (by omega), clrB_all h x j (by omega)]
theorem clrB_keep (bits : Int) (k : Nat) (x : UInt8) : clrB (bits - 8 * k) x 8 = keepB bits k x := by
 unfold keepB
 generalize bits - 8 * k = b
 have h : b ≤ 0 ∨ b = 1 ∨ b = 2 ∨ b = 3 ∨ b = 4 ∨ b = 5 ∨ b = 6 ∨ b = 7 ∨ 8 ≤ b := by omega
 rcases h with h | rfl | rfl | rfl | rfl | rfl | rfl | rfl | h
 ·rw [clrB_none h, show b.toNat = 0 by omega]
  exact all8' (p := fun x => clrB 0 x 8 = UInt8.ofNat (x.toNat / 2 ^ (8 - min 8 0) * 2 ^ (8 - min 8 0))) (by decide +kernel) x
 ·exact all8' (p := fun x => clrB 1 x 8 = UInt8.ofNat (x.toNat / 2 ^ (8 - min 8 1) * 2 ^ (8 - min 8 1))) (by decide +kernel) x
 ·exact all8' (p := fun x => clrB 2 x 8 = UInt8.ofNat (x.toNat / 2 ^ (8 - min 8 2) * 2 ^ (8 - min 8 2))) (by decide +kernel) x
 ·exact all8' (p := fun x => clrB 3 x 8 = UInt8.ofNat (x.toNat / 2 ^ (8 - min 8 3) * 2 ^ (8 - min 8 3))) (by decide +kernel) x
 ·exact all8' (p := fun x => clrB 4 x 8 = UInt8.ofNat (x.toNat / 2 ^ (8 - min 8 4) * 2 ^ (8 - min 8 4))) (by decide +kernel) x
 ·exact all8' (p := fun x => clrB 5 x 8 = UInt8.ofNat (x.toNat / 2 ^ (8 - min 8 5) * 2 ^ (8 - min 8 5))) (by decide +kernel) x
 ·exact all8' (p := fun x => clrB 6 x 8 = UInt8.ofNat (x.toNat / 2 ^ (8 - min 8 6) * 2 ^ (8 - min 8 6))) (by decide +kernel) x
 ·exact all8' (p := fun x => clrB 7 x 8 = UInt8.ofNat (x.toNat / 2 ^ (8 - min 8 7) * 2 ^ (8 - min 8 7))) (by decide +kernel) x
 ·rw [clrB_all h x 8 (Nat.le_refl _), show min 8 b.toNat = 8 by omega]
  simp
theorem clrN_all (bits : Int) {c : List UInt8} (hc : c.length = 32) : clrN bits c 256 = c.mapIdx (keepB bits) := by
 apply List.ext_getElem (by rw [clrN_length, List.length_mapIdx])
 intro k h1 h2
 have hk : k < 32 := by rw [clrN_length] at h1; omega
 have e := clrN_get bits hc 256 (Nat.le_refl _) k hk
 rw [show min 8 (256 - 8 * k) = 8 by omega, clrB_keep, List.getD_eq_getElem?_getD, List.getElem?_eq_getElem h1, List.getD_eq_getElem?_getD, List.getElem?_eq_getElem (by omega)] at e
 rw [List.getElem_mapIdx]
 exact e
end Go.Ab

namespace Go.Ab
open Go.Proofs
instance (priority := 1300) litZr32 {offs : List (Nat × Nat)} {K : AV → Prop} : Stp (Do (aLit ([.val (.int .u8 0), .val (.int .u8 0), .val (.int .u8 0), .val (.int .u8 0), .val (.int .u8 0), .val (.int .u8 0), .val (.int .u8 0), .val (.int .u8 0), .val (.int .u8 0), .val (.int .u8 0), .val (.int .u8 0), .val (.int .u8 0), .val (.int .u8 0), .val (.int .u8 0), .val (.int .u8 0), .val (.int .u8 0), .val (.int .u8 0), .val (.int .u8 0), .val (.int .u8 0), .val (.int .u8 0), .val (.int .u8 0), .val (.int .u8 0), .val (.int .u8 0), .val (.int .u8 0), .val (.int .u8 0), .val (.int .u8 0), .val (.int .u8 0), .val (.int .u8 0), .val (.int .u8 0), .val (.int .u8 0), .val (.int .u8 0), .val (.int .u8 0)]) offs []) K) (K (.agg ((List.replicate 32 (0 : UInt8)).map byt))) := ⟨fun hK => ⟨_, ⟨fun p hp => by simp at hp, (List.replicate 32 (0 : UInt8)).map byt, rfl, rfl⟩, hK⟩⟩
def ref02_Of.mark : Mark := ⟨fun t => Nat.beq t 20 || Nat.beq t 22 || Nat.beq t 34 || Nat.beq t 46 || Nat.beq t 50 || Nat.beq t 55 || Nat.beq t 93 || Nat.beq t 97 || Nat.beq t 102, fun t => Nat.beq t 19 || Nat.beq t 35 || Nat.beq t 156, fun t => false, fun t => false, fun t => false⟩
def ref02_Of.ann : Ann := ⟨fun n => bif Nat.beq n 5 then [2, 3, 4, 5, 6] else bif Nat.beq n 11 then [2, 3, 4, 5, 6, 7, 8, 9] else bif Nat.beq n 21 then [2, 3, 4, 5, 6, 8, 16] else bif Nat.beq n 26 then [2, 3, 17, 18] else [], fun n => none, fun n => none⟩
def ref02_Of.sh (a0 : AV) (σ : Store) (Q : AEnd → Store → Prop) : Prop :=
 aNewVar 56 [.val (.int .u8 0), .val (.int .u8 0), .val (.int .u8 0), .val (.int .u8 0), .val (.int .u8 0), .val (.int .u8 0), .val (.int .u8 0), .val (.int .u8 0), .val (.int .u8 0), .val (.int .u8 0), .val (.int .u8 0), .val (.int .u8 0), .val (.int .u8 0), .val (.int .u8 0), .val (.int .u8 0), .val (.int .u8 0), .val (.int .u8 0), .val (.int .u8 0), .val (.int .u8 0), .val (.int .u8 0), .val (.int .u8 0), .val (.int .u8 0), .val (.int .u8 0), .val (.int .u8 0), .val (.int .u8 0), .val (.int .u8 0), .val (.int .u8 0), .val (.int .u8 0), .val (.int .u8 0), .val (.int .u8 0), .val (.int .u8 0), .val (.int .u8 0)] σ fun t2 σ =>
 aRowL 159 (mkE [.val (.int .u32 0)]) 1 8 [(0, (W32 1779033703)), (1, (W32 3144134277)), (2, (W32 1013904242)), (3, (W32 2773480762)), (4, (W32 1359893119)), (5, (W32 2600822924)), (6, (W32 528734635)), (7, (W32 1541459225))] σ fun t19 σ_1 =>
 Do (aPureC Tryz.prog 147 []) fun t20 =>
 Do (aPureC Tryz.prog 148 [a0]) fun t22 =>
 aLoop (fun go vs σ_2 =>
 At vs 0 fun s2 => At vs 1 fun s3 => At vs 2 fun s4 => At vs 3 fun s5 => At vs 4 fun s6 => Do (aBuiltin Tryz.prog .len #[63] [s5]) fun t25 =>
 Do (aBin Tryz.prog .lss 3 s6 t25) fun t26 =>
 aCond t26
 (Do (aBin Tryz.prog .add 3 s6 (.val (.int .i64 64))) fun t32 =>
 Do (aSlice .slice 1 s5 (some s6) (some t32) none) fun t33 =>
 Do (aPureC Tryz.prog 149 [t33]) fun t34 =>
 aRowL 159 (mkE [.val (.int .u32 0)]) 1 0 [] σ_2 fun t35 σ_3 =>
 aAppend 159 1 4 t35 s3 σ_3 (subK fun t38 σ_4 =>
 aLoop (fun go_1 vs_1 σ_5 =>
 At vs_1 0 fun s2_1 => At vs_1 1 fun s3_1 => At vs_1 2 fun s4_1 => At vs_1 3 fun s5_1 => At vs_1 4 fun s6_1 => At vs_1 5 fun s7 => At vs_1 6 fun s8 => At vs_1 7 fun s9 => Do (aBin Tryz.prog .lss 3 s9 (.val (.int .i64 64))) fun t40 =>
 aCond t40
 (Do (aIndexAddr .slice 1 s8 (.val (.int .i64 4))) fun t44 =>
 Do (loadA false 1 t44 σ_5) fun t45 =>
 Do (aPureC Tryz.prog 150 [t45, (.val (.int .i64 6))]) fun t46 =>
 Do (aIndexAddr .slice 1 s8 (.val (.int .i64 4))) fun t48 =>
 Do (loadA false 1 t48 σ_5) fun t49 =>
 Do (aPureC Tryz.prog 150 [t49, (.val (.int .i64 11))]) fun t50 =>
 Do (aBin Tryz.prog .xor 159 t46 t50) fun t51 =>
 Do (aIndexAddr .slice 1 s8 (.val (.int .i64 4))) fun t53 =>
 Do (loadA false 1 t53 σ_5) fun t54 =>
 Do (aPureC Tryz.prog 150 [t54, (.val (.int .i64 25))]) fun t55 =>
 Do (aBin Tryz.prog .xor 159 t51 t55) fun t56 =>
 Do (aIndexAddr .slice 1 s8 (.val (.int .i64 4))) fun t58 =>
 Do (loadA false 1 t58 σ_5) fun t59 =>
 Do (aIndexAddr .slice 1 s8 (.val (.int .i64 5))) fun t61 =>
 Do (loadA false 1 t61 σ_5) fun t62 =>
 Do (aBin Tryz.prog .and 159 t59 t62) fun t63 =>
 Do (aIndexAddr .slice 1 s8 (.val (.int .i64 4))) fun t65 =>
 Do (loadA false 1 t65 σ_5) fun t66 =>
 Do (aUn Tryz.prog .xor t66) fun t67 =>
 Do (aIndexAddr .slice 1 s8 (.val (.int .i64 6))) fun t69 =>
 Do (loadA false 1 t69 σ_5) fun t70 =>
 Do (aBin Tryz.prog .and 159 t67 t70) fun t71 =>
 Do (aBin Tryz.prog .xor 159 t63 t71) fun t72 =>
 Do (aIndexAddr .slice 1 s8 (.val (.int .i64 7))) fun t74 =>
 Do (loadA false 1 t74 σ_5) fun t75 =>
 Do (aBin Tryz.prog .add 159 t75 t56) fun t77 =>
 Do (aBin Tryz.prog .add 159 t77 t72) fun t79 =>
 Do (aIndexAddr .slice 1 s4_1 s9) fun t82 =>
 Do (loadA false 1 t82 σ_5) fun t83 =>
 Do (aBin Tryz.prog .add 159 t79 t83) fun t84 =>
 Do (aIndexAddr .slice 1 s7 s9) fun t87 =>
 Do (loadA false 1 t87 σ_5) fun t88 =>
 Do (aBin Tryz.prog .add 159 t84 t88) fun t89 =>
 Do (aIndexAddr .slice 1 s8 (.val (.int .i64 0))) fun t91 =>
 Do (loadA false 1 t91 σ_5) fun t92 =>
 Do (aPureC Tryz.prog 150 [t92, (.val (.int .i64 2))]) fun t93 =>
 Do (aIndexAddr .slice 1 s8 (.val (.int .i64 0))) fun t95 =>
 Do (loadA false 1 t95 σ_5) fun t96 =>
 Do (aPureC Tryz.prog 150 [t96, (.val (.int .i64 13))]) fun t97 =>
 Do (aBin Tryz.prog .xor 159 t93 t97) fun t98 =>
 Do (aIndexAddr .slice 1 s8 (.val (.int .i64 0))) fun t100 =>
 Do (loadA false 1 t100 σ_5) fun t101 =>
 Do (aPureC Tryz.prog 150 [t101, (.val (.int .i64 22))]) fun t102 =>
 Do (aBin Tryz.prog .xor 159 t98 t102) fun t103 =>
 Do (aIndexAddr .slice 1 s8 (.val (.int .i64 0))) fun t105 =>
 Do (loadA false 1 t105 σ_5) fun t106 =>
 Do (aIndexAddr .slice 1 s8 (.val (.int .i64 1))) fun t108 =>
 Do (loadA false 1 t108 σ_5) fun t109 =>
 Do (aBin Tryz.prog .and 159 t106 t109) fun t110 =>
 Do (aIndexAddr .slice 1 s8 (.val (.int .i64 0))) fun t112 =>
 Do (loadA false 1 t112 σ_5) fun t113 =>
 Do (aIndexAddr .slice 1 s8 (.val (.int .i64 2))) fun t115 =>
 Do (loadA false 1 t115 σ_5) fun t116 =>
 Do (aBin Tryz.prog .and 159 t113 t116) fun t117 =>
 Do (aBin Tryz.prog .xor 159 t110 t117) fun t118 =>
 Do (aIndexAddr .slice 1 s8 (.val (.int .i64 1))) fun t120 =>
 Do (loadA false 1 t120 σ_5) fun t121 =>
 Do (aIndexAddr .slice 1 s8 (.val (.int .i64 2))) fun t123 =>
 Do (loadA false 1 t123 σ_5) fun t124 =>
 Do (aBin Tryz.prog .and 159 t121 t124) fun t125 =>
 Do (aBin Tryz.prog .xor 159 t118 t125) fun t126 =>
 Do (aBin Tryz.prog .add 159 t103 t126) fun t129 =>
 Do (aBin Tryz.prog .add 159 t89 t129) fun t132 =>
 Do (aIndexAddr .slice 1 s8 (.val (.int .i64 0))) fun t134 =>
 Do (loadA false 1 t134 σ_5) fun t135 =>
 Do (aIndexAddr .slice 1 s8 (.val (.int .i64 1))) fun t137 =>
 Do (loadA false 1 t137 σ_5) fun t138 =>
 Do (aIndexAddr .slice 1 s8 (.val (.int .i64 2))) fun t140 =>
 Do (loadA false 1 t140 σ_5) fun t141 =>
 Do (aIndexAddr .slice 1 s8 (.val (.int .i64 3))) fun t143 =>
 Do (aIndexAddr .slice 1 s8 (.val (.int .i64 4))) fun t148 =>
 Do (loadA false 1 t148 σ_5) fun t149 =>
 Do (aIndexAddr .slice 1 s8 (.val (.int .i64 5))) fun t151 =>
 Do (loadA false 1 t151 σ_5) fun t152 =>
 Do (aIndexAddr .slice 1 s8 (.val (.int .i64 6))) fun t154 =>
 Do (loadA false 1 t154 σ_5) fun t155 =>
 Do (loadA false 1 t143 σ_5) fun t144 =>
 Do (aBin Tryz.prog .add 159 t144 t89) fun t146 =>
 aRowL 159 (mkE [.val (.int .u32 0)]) 1 8 [(0, t132), (1, t135), (2, t138), (3, t141), (4, t146), (5, t149), (6, t152), (7, t155)] σ_5 fun t156 σ_6 =>
 Do (aBin Tryz.prog .add 3 s9 (.val (.int .i64 1))) fun t42 =>
 go_1 [s2_1, s3_1, s4_1, s5_1, s6_1, s7, t156, t42] σ_6)
 (aLoop (fun go_2 vs_2 σ_7 =>
 At vs_2 0 fun s2_2 => At vs_2 1 fun s3_2 => At vs_2 2 fun s4_2 => At vs_2 3 fun s5_2 => At vs_2 4 fun s6_2 => At vs_2 5 fun s8_1 => At vs_2 6 fun s16 => Do (aBin Tryz.prog .lss 3 s16 (.val (.int .i64 8))) fun t158 =>
 aCond t158
 (Do (aIndexAddr .slice 1 s3_2 s16) fun t165 =>
 Do (loadA false 1 t165 σ_7) fun t166 =>
 Do (aIndexAddr .slice 1 s8_1 s16) fun t169 =>
 Do (loadA false 1 t169 σ_7) fun t170 =>
 Do (aBin Tryz.prog .add 159 t166 t170) fun t171 =>
 Do (aIndexAddr .slice 1 s3_2 s16) fun t172 =>
 storeA 1 t172 t171 σ_7 fun u σ_8 =>
 Do (aBin Tryz.prog .add 3 s16 (.val (.int .i64 1))) fun t160 =>
 go_2 [s2_2, s3_2, s4_2, s5_2, s6_2, s8_1, t160] σ_8)
 (Do (aBin Tryz.prog .add 3 s6_2 (.val (.int .i64 64))) fun t28 =>
 go [s2_2, s3_2, s4_2, s5_2, t28] σ_7))
 [s2_1, s3_1, s4_1, s5_1, s6_1, s8, (.val (.int .i64 0))] σ_5))
 [s2, s3, s4, s5, s6, t34, t38, (.val (.int .i64 0))] σ_4))
 (Do (aLit [.val (.int .u8 0), .val (.int .u8 0), .val (.int .u8 0), .val (.int .u8 0), .val (.int .u8 0), .val (.int .u8 0), .val (.int .u8 0), .val (.int .u8 0), .val (.int .u8 0), .val (.int .u8 0), .val (.int .u8 0), .val (.int .u8 0), .val (.int .u8 0), .val (.int .u8 0), .val (.int .u8 0), .val (.int .u8 0), .val (.int .u8 0), .val (.int .u8 0), .val (.int .u8 0), .val (.int .u8 0), .val (.int .u8 0), .val (.int .u8 0), .val (.int .u8 0), .val (.int .u8 0), .val (.int .u8 0), .val (.int .u8 0), .val (.int .u8 0), .val (.int .u8 0), .val (.int .u8 0), .val (.int .u8 0), .val (.int .u8 0), .val (.int .u8 0)] [(0, 1), (1, 1), (2, 1), (3, 1), (4, 1), (5, 1), (6, 1), (7, 1), (8, 1), (9, 1), (10, 1), (11, 1), (12, 1), (13, 1), (14, 1), (15, 1), (16, 1), (17, 1), (18, 1), (19, 1), (20, 1), (21, 1), (22, 1), (23, 1), (24, 1), (25, 1), (26, 1), (27, 1), (28, 1), (29, 1), (30, 1), (31, 1)] []) fun t173 =>
 aNewVar 56 [.val (.int .u8 0), .val (.int .u8 0), .val (.int .u8 0), .val (.int .u8 0), .val (.int .u8 0), .val (.int .u8 0), .val (.int .u8 0), .val (.int .u8 0), .val (.int .u8 0), .val (.int .u8 0), .val (.int .u8 0), .val (.int .u8 0), .val (.int .u8 0), .val (.int .u8 0), .val (.int .u8 0), .val (.int .u8 0), .val (.int .u8 0), .val (.int .u8 0), .val (.int .u8 0), .val (.int .u8 0), .val (.int .u8 0), .val (.int .u8 0), .val (.int .u8 0), .val (.int .u8 0), .val (.int .u8 0), .val (.int .u8 0), .val (.int .u8 0), .val (.int .u8 0), .val (.int .u8 0), .val (.int .u8 0), .val (.int .u8 0), .val (.int .u8 0)] σ_2 fun t17 σ_9 =>
 storeA 32 t17 t173 σ_9 fun u_1 σ_10 =>
 aLoop (fun go_3 vs_3 σ_11 =>
 At vs_3 0 fun s2_3 => At vs_3 1 fun s3_3 => At vs_3 2 fun s17 => At vs_3 3 fun s18 => Do (aBin Tryz.prog .lss 3 s18 (.val (.int .i64 32))) fun t175 =>
 aCond t175
 (Do (aBin Tryz.prog .quo 3 s18 (.val (.int .i64 4))) fun t181 =>
 Do (aIndexAddr .slice 1 s3_3 t181) fun t182 =>
 Do (loadA false 1 t182 σ_11) fun t183 =>
 Do (aBin Tryz.prog .rem 3 s18 (.val (.int .i64 4))) fun t185 =>
 Do (aBin Tryz.prog .mul 3 (.val (.int .i64 8)) t185) fun t186 =>
 Do (aBin Tryz.prog .sub 3 (.val (.int .i64 24)) t186) fun t187 =>
 Do (fun x => aConvN 3 62 t187 x Tryz.prog) fun t188 =>
 Do (aBin Tryz.prog .shr 159 t183 t188) fun t189 =>
 Do (fun x => aConvN 159 5 t189 x Tryz.prog) fun t190 =>
 Do (aIndexAddr (.array 32) 1 s17 s18) fun t191 =>
 storeA 1 t191 t190 σ_11 fun u_2 σ_12 =>
 Do (aBin Tryz.prog .add 3 s18 (.val (.int .i64 1))) fun t177 =>
 go_3 [s2_3, s3_3, s17, t177] σ_12)
 (Do (loadA true 32 s17 σ_11) fun t192 =>
 storeA 32 s2_3 t192 σ_11 fun u_3 σ_13 =>
 Do (loadA true 32 s2_3 σ_13) fun r2 => Q (.ret r2) σ_13))
 [s2, s3, t17, (.val (.int .i64 0))] σ_10))
 [t2, t19, t20, t22, (.val (.int .i64 0))] σ_1
theorem ref02_Of.eq (a0 : AV) (σ : Store) (Q : AEnd → Store → Prop) : vc (semOf Tryz.prog ref02_Of.mark) Tryz.f133.ntmps ref02_Of.ann (bodyOf Tryz.f133) (endK [.cell 2 true 32] Q) (argFr [a0]) σ = ref02_Of.sh a0 σ Q := by kernel_rfl
theorem ref02_Of.go {a0 : AV} {σ : Store} {Q : AEnd → Store → Prop} (h : ref02_Of.sh a0 σ Q) : ACalls Tryz.prog 133 [a0] σ Q :=
 acalls_of_eq [.cell 2 true 32] Tryz.func133 (by kernel_rfl) (by kernel_rfl) (by kernel_rfl) (by kernel_rfl) (ref02_Of.eq a0 σ Q) h
set_option maxHeartbeats 1000000 in
theorem ref02_Of_ok (l : List UInt8) (hl : l.length ≤ 100000000000000) : aPure Tryz.prog 133 [S l] (.agg ((sha l).map byt)) := by
 refine ACalls.fin (ref02_Of.go ?_)
 unfold ref02_Of.sh
 obtain ⟨h1, h2⟩ := shaTail_length l.length
 have hsh : sha l = shaOut (shaAll shaH (l ++ shaTail l.length)) := rfl
 have hpl : (l ++ shaTail l.length).length % 64 = 0 := by rw [List.length_append]; exact h1
 have hpm : (l ++ shaTail l.length).length ≤ 200000000000000 := by rw [List.length_append]; omega
 repeat' (with_reducible first|apply Stp.go|refine imp fun _=>?_|refine zq ?_|refine zt ?_|refine zf ?_|refine zg ?_|refine za ?_|refine altF ?_|refine all fun _=>?_|refine both ?_ ?_|refine zu ?_|refine zv ?_|refine cho (fun _=>?_) fun _=>?_|refine zw ?_)
 generalize l ++ shaTail l.length = p at *
 rw [hsh]
 rename_i bd vh
 refine loopI (β := Nat × Value × List UInt32) (fun x => 64 * x.1 ≤ p.length ∧ x.2.2.length = 8 ∧ shaAll x.2.2 (p.drop (64 * x.1)) = shaAll shaH p) (fun x => [ptrAt bd 0, .own x.2.1 x.2.2.length, .lst 1 (shaK.map wrd) .ro, .lst 1 (p.map byt) .ro, I .i64 ((64 * x.1 : Nat) : Int)])
  (fun x => [.row x.2.1 159 1 (x.2.2.map wrd) 0, .var bd 56 ((List.replicate 32 (0 : UInt8)).map byt)]) (fun x => p.length - 64 * x.1) (0, vh, shaH) ⟨Nat.zero_le _, rfl, rfl⟩ (Sub.refl _ _) ?_
 rintro ⟨q, vh, H⟩ ⟨hq, hH, hS⟩
 dsimp only at hq hH hS ⊢
 by_cases hlt : 64 * q < p.length
 ·have hq2 : 64 * q + 64 ≤ p.length := by omega
  have hbl : ((p.take (64 * q + 64)).drop (64 * q)).length = 64 := by simp only [List.length_drop, List.length_take]; omega
  have hkl : shaK.length = 64 := rfl
  have hwl := sched_length ((p.take (64 * q + 64)).drop (64 * q)) 64
  have hstep : shaAll (shaBlock H ((p.take (64 * q + 64)).drop (64 * q))) (p.drop (64 * (q + 1))) = shaAll shaH p := by
   rw [← hS, shaAll_ge (show 64 ≤ (p.drop (64 * q)).length by simp only [List.length_drop]; omega), List.drop_drop, List.drop_take, Nat.add_sub_cancel_left, show 64 * q + 64 = 64 * (q + 1) by omega]
  repeat' (with_reducible first|apply Stp.go|refine imp fun _=>?_|refine zq ?_|refine zt ?_|refine zf ?_|refine zg ?_|refine za ?_|refine altF ?_|refine all fun _=>?_|refine both ?_ ?_|refine zu ?_|refine zv ?_|refine cho (fun _=>?_) fun _=>?_|refine zw ?_)
  generalize hW : sched ((p.take (64 * q + 64)).drop (64 * q)) 64 = W at *
  rename_i v0 v1
  refine loopI (β := Nat × Value) (fun x => x.1 ≤ 64) (fun x => [ptrAt bd 0, .own vh H.length, .lst 1 (shaK.map wrd) .ro, .lst 1 (p.map byt) .ro, I .i64 ((64 * q : Nat) : Int), .lst 1 (W.map wrd) .ro, .own x.2 (shaRounds W H x.1).length, I .i64 (x.1 : Nat)])
   (fun x => [.row x.2 159 1 ((shaRounds W H x.1).map wrd) 0, .row vh 159 1 (H.map wrd) 0, .var bd 56 ((List.replicate 32 (0 : UInt8)).map byt)]) (fun x => 64 - x.1) (0, v1) (Nat.zero_le _) ?_ ?_
  ·rw [List.nil_append]
   exact Sub.refl _ _
  rintro ⟨t, v⟩ ht
  dsimp only at ht ⊢
  have hrl := shaRounds_length W hH t
  by_cases htl : t < 64
  ·repeat' (with_reducible first|apply Stp.go|refine imp fun _=>?_|refine zq ?_|refine zt ?_|refine zf ?_|refine zg ?_|refine za ?_|refine altF ?_|refine all fun _=>?_|refine both ?_ ?_|refine zu ?_|refine zv ?_|refine cho (fun _=>?_) fun _=>?_|refine zw ?_)
   rename_i w
   refine again (t + 1, w) (by dsimp only; omega) (by dsimp only; omega) ?_
   exact Sub.drop_ (List.Sublist.cons_cons _ (List.Sublist.cons _ (List.Sublist.refl _))) _
  ·have e : t = 64 := by omega
   subst e
   generalize hV : shaRounds W H 64 = V at *
   repeat' (with_reducible first|apply Stp.go|refine imp fun _=>?_|refine zq ?_|refine zt ?_|refine zf ?_|refine zg ?_|refine za ?_|refine altF ?_|refine all fun _=>?_|refine both ?_ ?_|refine zu ?_|refine zv ?_|refine cho (fun _=>?_) fun _=>?_|refine zw ?_)
   refine loopI (β := Nat) (fun i => i ≤ 8) (fun i => [ptrAt bd 0, .own vh (addTo H V i).length, .lst 1 (shaK.map wrd) .ro, .lst 1 (p.map byt) .ro, I .i64 ((64 * q : Nat) : Int), .own v V.length, I .i64 (i : Nat)])
    (fun i => [.row v 159 1 (V.map wrd) 0, .row vh 159 1 ((addTo H V i).map wrd) 0, .var bd 56 ((List.replicate 32 (0 : UInt8)).map byt)]) (fun i => 8 - i) 0 (Nat.zero_le _) ?_ ?_
   ·exact Sub.refl _ _
   intro i hi
   have hal := addTo_length hH hrl hi
   by_cases hil : i < 8
   ·have hse := addTo_set hH hrl hil
    have hal2 := addTo_length hH hrl (show i + 1 ≤ 8 by omega)
    repeat' (with_reducible first|apply Stp.go|refine imp fun _=>?_|refine zq ?_|refine zt ?_|refine zf ?_|refine zg ?_|refine za ?_|refine altF ?_|refine all fun _=>?_|refine both ?_ ?_|refine zu ?_|refine zv ?_|refine cho (fun _=>?_) fun _=>?_|refine zw ?_)
    refine again (i + 1) (by omega) (by omega) ?_
    rw [hse, hal, hal2]
    exact Sub.refl _ _
   ·have e : i = 8 := by omega
    subst e
    have hfin : addTo H V 8 = shaBlock H ((p.take (64 * q + 64)).drop (64 * q)) := by rw [addTo_all hH hrl, shaBlock, hW, hV]
    rw [hfin]
    repeat' (with_reducible first|apply Stp.go|refine imp fun _=>?_|refine zq ?_|refine zt ?_|refine zf ?_|refine zg ?_|refine za ?_|refine altF ?_|refine all fun _=>?_|refine both ?_ ?_|refine zu ?_|refine zv ?_|refine cho (fun _=>?_) fun _=>?_|refine zw ?_)
    refine again (q + 1, vh, shaBlock H ((p.take (64 * q + 64)).drop (64 * q))) (by dsimp only; omega) ⟨by dsimp only; omega, shaBlock_length hH _, hstep⟩ ?_
    exact Sub.drop_ (List.sublist_cons_self _ _) _
 ·have e0 : p.drop (64 * q) = [] := List.drop_of_length_le (by omega)
  rw [e0, shaAll_lt (by decide)] at hS
  rw [← hS]
  have hL := shaOut_length H
  rw [hH] at hL
  repeat' (with_reducible first|apply Stp.go|refine imp fun _=>?_|refine zq ?_|refine zt ?_|refine zf ?_|refine zg ?_|refine za ?_|refine altF ?_|refine all fun _=>?_|refine both ?_ ?_|refine zu ?_|refine zv ?_|refine cho (fun _=>?_) fun _=>?_|refine zw ?_)
  rename_i db
  refine loopI (β := Nat) (fun i => i ≤ 32) (fun i => [ptrAt bd 0, .own vh H.length, ptrAt db 0, I .i64 (i : Nat)]) (fun i => [.var db 56 ((outB H i).map byt), .row vh 159 1 (H.map wrd) 0, .var bd 56 ((List.replicate 32 (0 : UInt8)).map byt)]) (fun i => 32 - i) 0 (Nat.zero_le _) ?_ ?_
  ·have e1 : outB H 0 = List.replicate 32 0 := by simp [outB]
   rw [e1]
   exact Sub.refl _ _
  intro i hi
  have ho := outB_length hH hi
  by_cases hlt2 : i < 32
  ·have e24 : (24 - 8 * (i % 4)) % 18446744073709551616 = 24 - 8 * (i % 4) := Nat.mod_eq_of_lt (by omega)
   have hq4 : i / 4 < H.length := by omega
   have hset := outB_set hH hlt2
   repeat' (with_reducible first|apply Stp.go|refine imp fun _=>?_|refine zq ?_|refine zt ?_|refine zf ?_|refine zg ?_|refine za ?_|refine altF ?_|refine all fun _=>?_|refine both ?_ ?_|refine zu ?_|refine zv ?_|refine cho (fun _=>?_) fun _=>?_|refine zw ?_)
   refine again (i + 1) (by omega) (by omega) ?_
   rw [e24, hset]
   exact Sub.refl _ _
  ·have e : i = 32 := by omega
   subst e
   have e : outB H 32 = shaOut H := by
    rw [outB, List.take_of_length_le (by omega)]
    simp
   rw [e] at ho ⊢
   repeat' (with_reducible first|apply Stp.go|refine imp fun _=>?_|refine zq ?_|refine zt ?_|refine zf ?_|refine zg ?_|refine za ?_|refine altF ?_|refine all fun _=>?_|refine both ?_ ?_|refine zu ?_|refine zv ?_|refine cho (fun _=>?_) fun _=>?_|refine zw ?_)
   exact ⟨_, _, _, rfl, Sub.app_nil _, rfl, rfl⟩
instance {l : List UInt8} : PC Tryz.prog 133 [S l] (l.length ≤ 100000000000000) (.agg ((sha l).map byt)) := ⟨fun hl => PC.of (ref02_Of_ok l hl)⟩
end Go.Ab
