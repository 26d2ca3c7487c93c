/- MemChains. -/
import Derived.Test.YtcpbjmhhhdoafaaF37
import Derived.ChangeKeysEq
set_option linter.unusedVariables false
set_option linter.unusedSimpArgs false
namespace Go.Ab
abbrev bytv (b : UInt8) : Value := .int .u8 b.toNat
theorem run_items {P : Program} {e : TypeId} (he : P.underlying e = some (.int .u8)) (c c' : List UInt8) (d : Nat) (w : World) : ∀ is : List Nat, (∀ i ∈ is, i < c.length ∧ i < c'.length) →
    (Op.eqItems (d + 1) e 1 (c.map bytv).toArray (c'.map bytv).toArray is).run P w = .ok (is.all fun i => decide (c.getD i 0 = c'.getD i 0)) w
  | [], _ => by simp [Op.eqItems]
  | i :: is, h => by
    obtain ⟨h1, h2⟩ := h i List.mem_cons_self
    have ih := run_items he c c' d w is fun j hj => h j (List.mem_cons_of_mem _ hj)
    have p1 : (part e (c.map bytv).toArray (i * 1)).run P w = .ok (bytv (c.getD i 0)) w := part_plain he rfl (by simp [List.getD_eq_getElem?_getD, h1]) w
    have p2 : (part e (c'.map bytv).toArray (i * 1)).run P w = .ok (bytv (c'.getD i 0)) w := part_plain he rfl (by simp [List.getD_eq_getElem?_getD, h2]) w
    have p3 : (Op.equalIn (d + 1) e (bytv (c.getD i 0)) (bytv (c'.getD i 0))).run P w = .ok (decide (c.getD i 0 = c'.getD i 0)) w := by
      rw [run_equalIn_int w d e .u8 .u8 _ _ he]
      congr 1
      rw [Bool.eq_iff_iff, beq_iff_eq, decide_eq_true_eq]
      constructor
      · intro h; exact UInt8.toNat_inj.1 (Int.ofNat.inj h)
      · intro h; rw [h]
    simp only [Op.eqItems, Sem.run_bind, p1, p2, p3, Result.andThen_ok, List.all_cons]
    by_cases hh : c.getD i 0 = c'.getD i 0
    · rw [decide_eq_true hh]; simpa using ih
    · rw [decide_eq_false hh]; simp
theorem all_same {c c' : List UInt8} {n : Nat} (h : c.length = n) (h' : c'.length = n) : ((List.range n).all fun i => decide (c.getD i 0 = c'.getD i 0)) = decide (c = c') := by
  rw [Bool.eq_iff_iff, List.all_eq_true, decide_eq_true_eq]
  constructor
  · intro hh
    apply List.ext_getElem (by omega)
    intro i h1 h2
    have := hh i (List.mem_range.2 (by omega))
    simpa [List.getD_eq_getElem?_getD, h1, h2] using this
  · rintro rfl i _; simp
class ArrB (P : Program) (t : TypeId) (n : outParam Nat) : Prop where
  h : ∃ e, P.underlying t = some (.array n e) ∧ P.underlying e = some (.int .u8) ∧ (P.info? e).isSome = true ∧ P.cellsOf e = 1 ∧ P.eqGuardType P.depth t = false
theorem allVals_byt (c : List UInt8) : allVals (c.map byt) = some (c.map bytv) := by
  induction c with
  | nil => rfl
  | cons a c ih => simp [allVals, ih, byt]
theorem arr_plain (c : List UInt8) : plainV (.agg (c.map byt)) = some (.agg (c.map bytv).toArray) := by
  simp [plainV, allVals_byt]
section arr
variable {P : Program} {t : TypeId} {n : Nat} {c c' : List UInt8} {K : AV → Prop}
theorem run_arr [h : ArrB P t n] (h1 : c.length = n) (h2 : c'.length = n) (w : World) : (Op.equalIn 10000 t (.agg (c.map bytv).toArray) (.agg (c'.map bytv).toArray)).run P w = .ok (decide (c = c')) w := by
  obtain ⟨e, g1, g2, g3, g4, g5⟩ := h.h
  obtain ⟨i, g3⟩ := Option.isSome_iff_exists.1 g3
  show (Op.equalIn (9998 + 1 + 1) t _ _).run P w = _
  rw [run_equalIn_array w (9998 + 1) _ _ g1 g3, g4, run_items g2 c c' 9998 w _ (fun i hi => by have := List.mem_range.1 hi; omega), all_same h1 h2]
instance eqArr [h : ArrB P t n] : Stp (Do (aBin P .eql t (.agg (c.map byt)) (.agg (c'.map byt))) K) (Need (c.length = n ∧ c'.length = n) (K (.val (.bool (decide (c = c')))))) := ⟨fun ⟨⟨h1, h2⟩, hK⟩ => by
  refine ⟨_, (aBin_plain (arr_plain c) (arr_plain c') fun xo yo w => ?_).2 rfl, hK⟩
  obtain ⟨e, g1, g2, g3, g4, g5⟩ := h.h
  simp only [Sem.run_bind, run_eqGuard_agg w .eql t xo yo _ _ g5, Result.andThen_ok, run_eql_struct, run_arr (t := t) h1 h2 w, Result.andThen_ok]⟩
instance neqArr [h : ArrB P t n] : Stp (Do (aBin P .neq t (.agg (c.map byt)) (.agg (c'.map byt))) K) (Need (c.length = n ∧ c'.length = n) (K (.val (.bool (decide (¬ c = c')))))) := ⟨fun ⟨⟨h1, h2⟩, hK⟩ => by
  refine ⟨_, (aBin_plain (arr_plain c) (arr_plain c') fun xo yo w => ?_).2 rfl, hK⟩
  obtain ⟨e, g1, g2, g3, g4, g5⟩ := h.h
  simp only [Sem.run_bind, run_eqGuard_agg w .neq t xo yo _ _ g5, Result.andThen_ok, run_neq_struct, run_arr (t := t) h1 h2 w, Result.andThen_ok]
  congr 2
  by_cases he : c = c' <;> simp [he]⟩
end arr
instance : ArrB Go.Proofs.Try.prog 45 32 := ⟨⟨5, by kernel_rfl, by kernel_rfl, by kernel_rfl, by kernel_rfl, by kernel_rfl⟩⟩
def law10_MemChains.mark : Mark := ⟨fun t => Nat.beq t 15 || Nat.beq t 52, fun t => false, fun t => false, fun t => Nat.beq t 51, fun t => false⟩
def law10_MemChains.ann : Ann := ⟨fun n => bif Nat.beq n 10 then [0, 3, 6, 7, 8, 9] else [], fun n => none, fun n => bif Nat.beq n 21 then some [0, 3, 6, 7, 8, 9, 107] else none⟩
/-- 'marlstone/marlstonelaw10.MemChains' -/
def law10_MemChains.sh (a0 a1 : AV) (σ : Store) (Q : AEnd → Store → Prop) : Prop :=
  aNewVar 29 (a1 : AV).cells σ fun t3 σ =>
  Do (aPureC Go.Proofs.Try.prog 9 []) fun t15 =>
  aCall Go.Proofs.Try.prog 10 [] σ (fun t16 σ_1 =>
  aCall Go.Proofs.Try.prog 10 [] σ_1 (fun t17 σ_2 =>
  Do (aUn Go.Proofs.Try.prog .not t15) fun t19 =>
  Do (aGuard t19 false (aIs t16)) fun t21 =>
  Do (aGuard t19 false (aBin Go.Proofs.Try.prog .eql 23 t21 (.val (.pointer none)))) fun t22 =>
  Do (aPick t19 (.val (.bool true)) t22) fun t23 =>
  Do (aGuard t23 false (aIs t17)) fun t25 =>
  Do (aGuard t23 false (aBin Go.Proofs.Try.prog .eql 23 t25 (.val (.pointer none)))) fun t26 =>
  Do (aPick t23 (.val (.bool true)) t26) fun t27 =>
  aCond t27
    (Q (.ret (.val (.bool false))) σ_2)
    (Do (aLit [.val (.string ⟨#[]⟩), .val (.string ⟨#[]⟩), .val (.bool false), .val (.int .i64 0)] [(0, 1), (1, 1), (2, 1), (3, 1)] [(0, (.val (.string ⟨#[102, 105, 114, 115, 116]⟩))), (3, (.val (.int .i64 1)))]) fun t29 =>
  aCall Go.Proofs.Try.prog 11 [t16, t29] σ_2 (fun t30 σ_3 =>
  aCall Go.Proofs.Try.prog 13 [t16] σ_3 (fun t32 σ_4 =>
  aCall Go.Proofs.Try.prog 24 [t16] σ_4 (fun t34 σ_5 =>
  aCall Go.Proofs.Try.prog 24 [t17] σ_5 (fun t36 σ_6 =>
  Do (aBin Go.Proofs.Try.prog .eql 45 t34 t36) fun t37 =>
  aLoop (fun go vs σ_7 =>
    At vs 0 fun s0 => At vs 1 fun s3 => At vs 2 fun s6 => At vs 3 fun s7 => At vs 4 fun s8 => At vs 5 fun s9 => Do (aBuiltin Go.Proofs.Try.prog .len #[39] [s0]) fun t40 =>
    Do (aBin Go.Proofs.Try.prog .lss 3 s9 t40) fun t41 =>
    Do (aGuard t41 true (aIs s9)) fun t43 =>
    Do (aGuard t41 true (aBin Go.Proofs.Try.prog .lss 3 t43 (.val (.int .i64 40)))) fun t44 =>
    Do (aPick t41 t44 (.val (.bool false))) fun t45 =>
    aCond t45
      (Do (aIndexAddr .slice 4 s0 s9) fun t50 =>
    Do (loadF true 4 t50) fun t51 =>
    Do (aPureC Go.Proofs.Try.prog 16 [t51]) fun t52 =>
    aNewVar 29 [.val (.string ⟨#[]⟩), .val (.string ⟨#[]⟩), .val (.bool false), .val (.int .i64 0)] σ_7 fun t10 σ_8 =>
    storeA 4 t10 t52 σ_8 fun u σ_9 =>
    Do (aBin Go.Proofs.Try.prog .add 3 s9 (.val (.int .i64 2))) fun t54 =>
    Do (aFieldAddr 3 1 t10) fun t55 =>
    storeA 1 t55 t54 σ_9 fun u_1 σ_10 =>
    aCall Go.Proofs.Try.prog 24 [s7] σ_10 (fun t57 σ_11 =>
    aNewVar 45 [.val (.int .u8 0), .val (.int .u8 0), .val (.int .u8 0), .val (.int .u8 0), .val (.int .u8 0), .val (.int .u8 0), .val (.int .u8 0), .val (.int .u8 0), .val (.int .u8 0), .val (.int .u8 0), .val (.int .u8 0), .val (.int .u8 0), .val (.int .u8 0), .val (.int .u8 0), .val (.int .u8 0), .val (.int .u8 0), .val (.int .u8 0), .val (.int .u8 0), .val (.int .u8 0), .val (.int .u8 0), .val (.int .u8 0), .val (.int .u8 0), .val (.int .u8 0), .val (.int .u8 0), .val (.int .u8 0), .val (.int .u8 0), .val (.int .u8 0), .val (.int .u8 0), .val (.int .u8 0), .val (.int .u8 0), .val (.int .u8 0), .val (.int .u8 0)] σ_11 fun t11 σ_12 =>
    storeA 32 t11 t57 σ_12 fun u_2 σ_13 =>
    Do (loadA true 4 t10 σ_13) fun t59 =>
    aCall Go.Proofs.Try.prog 11 [s6, t59] σ_13 (fun t60 σ_14 =>
    Do (loadA true 4 t10 σ_14) fun t62 =>
    aCall Go.Proofs.Try.prog 11 [s7, t62] σ_14 (fun t63 σ_15 =>
    aCall Go.Proofs.Try.prog 14 [s7] σ_15 (fun t65 σ_16 =>
    Do (aFieldAddr 3 1 s3) fun t66 =>
    storeA 1 t66 t65 σ_16 fun u_3 σ_17 =>
    Do (loadA true 4 s3 σ_17) fun t68 =>
    aCall Go.Proofs.Try.prog 11 [s7, t68] σ_17 (fun t69 σ_18 =>
    Do (aFieldAddr 0 1 t10) fun t71 =>
    Do (loadA false 1 t71 σ_18) fun t72 =>
    aCall Go.Proofs.Try.prog 22 [s7, t72] σ_18 (fun t73 σ_19 =>
    aCall Go.Proofs.Try.prog 25 [s7] σ_19 (fun t75 σ_20 =>
    aJoin (fun j =>
      Do (aBin Go.Proofs.Try.prog .neq 25 t60 t63) fun t78 =>
      Do (aGuard t78 false (aIs t69)) fun t80 =>
      Do (aGuard t78 false (aBin Go.Proofs.Try.prog .neq 25 t80 (.val (.int .i64 1)))) fun t81 =>
      Do (aPick t78 (.val (.bool true)) t81) fun t82 =>
      Do (aGuard t82 false (aIs s6)) fun t84 =>
      Do (aGuard t82 false (aIs s7)) fun t86 =>
      GEff t82 false (aCall Go.Proofs.Try.prog 24 [t84] σ_20 (fun t85 σ_22 =>
        GEff t82 false (aCall Go.Proofs.Try.prog 24 [t86] σ_22 (fun t87 σ_23 =>
        Do (aGuard t82 false (aBin Go.Proofs.Try.prog .neq 45 t85 t87)) fun t88 =>
      Do (aPick t82 (.val (.bool true)) t88) fun t89 =>
      Do (aGuard t89 false (aIs t60)) fun t91 =>
      Do (aGuard t89 false (aBin Go.Proofs.Try.prog .neq 25 t91 (.val (.int .i64 0)))) fun t92 =>
      Do (aGuard t89 false (aIs t92)) fun t93 =>
      Do (aGuard t93 true (aIs s7)) fun t94 =>
      Both (GEff t93 true (aCall Go.Proofs.Try.prog 24 [t94] σ_23 (fun t95 σ_24 =>
        Do (aGuard t93 true (loadA true 32 t11 σ_24)) fun t96 =>
      Do (aGuard t93 true (aBin Go.Proofs.Try.prog .neq 45 t95 t96)) fun t97 =>
      Do (aGuard t89 false (aPick t93 t97 (.val (.bool false)))) fun t98 =>
      Do (aPick t89 (.val (.bool true)) t98) fun t99 =>
      Do (aGuard t99 false (aIs s6)) fun t101 =>
      Do (aGuard t99 false (aIs s7)) fun t103 =>
      GEff t99 false (aCall Go.Proofs.Try.prog 14 [t101] σ_24 (fun t102 σ_25 =>
        GEff t99 false (aCall Go.Proofs.Try.prog 14 [t103] σ_25 (fun t104 σ_26 =>
        Do (aGuard t99 false (aBuiltin Go.Proofs.Try.prog .max #[3, 3] [(.val (.int .i64 1)), t104])) fun t105 =>
      Do (aGuard t99 false (aBin Go.Proofs.Try.prog .neq 3 t102 t105)) fun t106 =>
      Do (aPick t99 (.val (.bool true)) t106) fun t107 =>
      j [s0, s3, s6, s7, s8, s9, t107] σ_26) (fun e σ_27 => Q (.pan e) σ_27))
      (Do (aGuard t99 false (aBuiltin Go.Proofs.Try.prog .max #[3, 3] [(.val (.int .i64 1)), (.val Go.undef)])) fun t105_1 =>
      Do (aGuard t99 false (aBin Go.Proofs.Try.prog .neq 3 t102 t105_1)) fun t106_1 =>
      Do (aPick t99 (.val (.bool true)) t106_1) fun t107_1 =>
      j [s0, s3, s6, s7, s8, s9, t107_1] σ_25)) (fun e_1 σ_28 => Q (.pan e_1) σ_28))
      (GEff t99 false (aCall Go.Proofs.Try.prog 14 [t103] σ_24 (fun t104_1 σ_29 =>
        Do (aGuard t99 false (aBuiltin Go.Proofs.Try.prog .max #[3, 3] [(.val (.int .i64 1)), t104_1])) fun t105_2 =>
      Do (aGuard t99 false (aBin Go.Proofs.Try.prog .neq 3 (.val Go.undef) t105_2)) fun t106_2 =>
      Do (aPick t99 (.val (.bool true)) t106_2) fun t107_2 =>
      j [s0, s3, s6, s7, s8, s9, t107_2] σ_29) (fun e_2 σ_30 => Q (.pan e_2) σ_30))
      (Do (aGuard t99 false (aBuiltin Go.Proofs.Try.prog .max #[3, 3] [(.val (.int .i64 1)), (.val Go.undef)])) fun t105_3 =>
      Do (aGuard t99 false (aBin Go.Proofs.Try.prog .neq 3 (.val Go.undef) t105_3)) fun t106_3 =>
      Do (aPick t99 (.val (.bool true)) t106_3) fun t107_3 =>
      j [s0, s3, s6, s7, s8, s9, t107_3] σ_24))) (fun e_3 σ_31 => Q (.pan e_3) σ_31))
      (Do (aGuard t93 true (loadA true 32 t11 σ_23)) fun t96_1 =>
      Do (aGuard t93 true (aBin Go.Proofs.Try.prog .neq 45 (.val Go.undef) t96_1)) fun t97_1 =>
      Do (aGuard t89 false (aPick t93 t97_1 (.val (.bool false)))) fun t98_1 =>
      Do (aPick t89 (.val (.bool true)) t98_1) fun t99_1 =>
      Do (aGuard t99_1 false (aIs s6)) fun t101_1 =>
      Do (aGuard t99_1 false (aIs s7)) fun t103_1 =>
      GEff t99_1 false (aCall Go.Proofs.Try.prog 14 [t101_1] σ_23 (fun t102_1 σ_32 =>
        GEff t99_1 false (aCall Go.Proofs.Try.prog 14 [t103_1] σ_32 (fun t104_2 σ_33 =>
        Do (aGuard t99_1 false (aBuiltin Go.Proofs.Try.prog .max #[3, 3] [(.val (.int .i64 1)), t104_2])) fun t105_4 =>
      Do (aGuard t99_1 false (aBin Go.Proofs.Try.prog .neq 3 t102_1 t105_4)) fun t106_4 =>
      Do (aPick t99_1 (.val (.bool true)) t106_4) fun t107_4 =>
      j [s0, s3, s6, s7, s8, s9, t107_4] σ_33) (fun e_4 σ_34 => Q (.pan e_4) σ_34))
      (Do (aGuard t99_1 false (aBuiltin Go.Proofs.Try.prog .max #[3, 3] [(.val (.int .i64 1)), (.val Go.undef)])) fun t105_5 =>
      Do (aGuard t99_1 false (aBin Go.Proofs.Try.prog .neq 3 t102_1 t105_5)) fun t106_5 =>
      Do (aPick t99_1 (.val (.bool true)) t106_5) fun t107_5 =>
      j [s0, s3, s6, s7, s8, s9, t107_5] σ_32)) (fun e_5 σ_35 => Q (.pan e_5) σ_35))
      (GEff t99_1 false (aCall Go.Proofs.Try.prog 14 [t103_1] σ_23 (fun t104_3 σ_36 =>
        Do (aGuard t99_1 false (aBuiltin Go.Proofs.Try.prog .max #[3, 3] [(.val (.int .i64 1)), t104_3])) fun t105_6 =>
      Do (aGuard t99_1 false (aBin Go.Proofs.Try.prog .neq 3 (.val Go.undef) t105_6)) fun t106_6 =>
      Do (aPick t99_1 (.val (.bool true)) t106_6) fun t107_6 =>
      j [s0, s3, s6, s7, s8, s9, t107_6] σ_36) (fun e_6 σ_37 => Q (.pan e_6) σ_37))
      (Do (aGuard t99_1 false (aBuiltin Go.Proofs.Try.prog .max #[3, 3] [(.val (.int .i64 1)), (.val Go.undef)])) fun t105_7 =>
      Do (aGuard t99_1 false (aBin Go.Proofs.Try.prog .neq 3 (.val Go.undef) t105_7)) fun t106_7 =>
      Do (aPick t99_1 (.val (.bool true)) t106_7) fun t107_7 =>
      j [s0, s3, s6, s7, s8, s9, t107_7] σ_23)))) (Do (aGuard t93 true (loadA true 32 t11 σ_23)) fun t96_2 =>
      GEff t93 true (aCall Go.Proofs.Try.prog 24 [t94] σ_23 (fun t95_1 σ_38 =>
        Do (aGuard t93 true (aBin Go.Proofs.Try.prog .neq 45 t95_1 t96_2)) fun t97_2 =>
      Do (aGuard t89 false (aPick t93 t97_2 (.val (.bool false)))) fun t98_2 =>
      Do (aPick t89 (.val (.bool true)) t98_2) fun t99_2 =>
      Do (aGuard t99_2 false (aIs s6)) fun t101_2 =>
      Do (aGuard t99_2 false (aIs s7)) fun t103_2 =>
      GEff t99_2 false (aCall Go.Proofs.Try.prog 14 [t101_2] σ_38 (fun t102_2 σ_39 =>
        GEff t99_2 false (aCall Go.Proofs.Try.prog 14 [t103_2] σ_39 (fun t104_4 σ_40 =>
        Do (aGuard t99_2 false (aBuiltin Go.Proofs.Try.prog .max #[3, 3] [(.val (.int .i64 1)), t104_4])) fun t105_8 =>
      Do (aGuard t99_2 false (aBin Go.Proofs.Try.prog .neq 3 t102_2 t105_8)) fun t106_8 =>
      Do (aPick t99_2 (.val (.bool true)) t106_8) fun t107_8 =>
      j [s0, s3, s6, s7, s8, s9, t107_8] σ_40) (fun e_7 σ_41 => Q (.pan e_7) σ_41))
      (Do (aGuard t99_2 false (aBuiltin Go.Proofs.Try.prog .max #[3, 3] [(.val (.int .i64 1)), (.val Go.undef)])) fun t105_9 =>
      Do (aGuard t99_2 false (aBin Go.Proofs.Try.prog .neq 3 t102_2 t105_9)) fun t106_9 =>
      Do (aPick t99_2 (.val (.bool true)) t106_9) fun t107_9 =>
      j [s0, s3, s6, s7, s8, s9, t107_9] σ_39)) (fun e_8 σ_42 => Q (.pan e_8) σ_42))
      (GEff t99_2 false (aCall Go.Proofs.Try.prog 14 [t103_2] σ_38 (fun t104_5 σ_43 =>
        Do (aGuard t99_2 false (aBuiltin Go.Proofs.Try.prog .max #[3, 3] [(.val (.int .i64 1)), t104_5])) fun t105_10 =>
      Do (aGuard t99_2 false (aBin Go.Proofs.Try.prog .neq 3 (.val Go.undef) t105_10)) fun t106_10 =>
      Do (aPick t99_2 (.val (.bool true)) t106_10) fun t107_10 =>
      j [s0, s3, s6, s7, s8, s9, t107_10] σ_43) (fun e_9 σ_44 => Q (.pan e_9) σ_44))
      (Do (aGuard t99_2 false (aBuiltin Go.Proofs.Try.prog .max #[3, 3] [(.val (.int .i64 1)), (.val Go.undef)])) fun t105_11 =>
      Do (aGuard t99_2 false (aBin Go.Proofs.Try.prog .neq 3 (.val Go.undef) t105_11)) fun t106_11 =>
      Do (aPick t99_2 (.val (.bool true)) t106_11) fun t107_11 =>
      j [s0, s3, s6, s7, s8, s9, t107_11] σ_38))) (fun e_10 σ_45 => Q (.pan e_10) σ_45))
      (Do (aGuard t93 true (aBin Go.Proofs.Try.prog .neq 45 (.val Go.undef) t96_2)) fun t97_3 =>
      Do (aGuard t89 false (aPick t93 t97_3 (.val (.bool false)))) fun t98_3 =>
      Do (aPick t89 (.val (.bool true)) t98_3) fun t99_3 =>
      Do (aGuard t99_3 false (aIs s6)) fun t101_3 =>
      Do (aGuard t99_3 false (aIs s7)) fun t103_3 =>
      GEff t99_3 false (aCall Go.Proofs.Try.prog 14 [t101_3] σ_23 (fun t102_3 σ_46 =>
        GEff t99_3 false (aCall Go.Proofs.Try.prog 14 [t103_3] σ_46 (fun t104_6 σ_47 =>
        Do (aGuard t99_3 false (aBuiltin Go.Proofs.Try.prog .max #[3, 3] [(.val (.int .i64 1)), t104_6])) fun t105_12 =>
      Do (aGuard t99_3 false (aBin Go.Proofs.Try.prog .neq 3 t102_3 t105_12)) fun t106_12 =>
      Do (aPick t99_3 (.val (.bool true)) t106_12) fun t107_12 =>
      j [s0, s3, s6, s7, s8, s9, t107_12] σ_47) (fun e_11 σ_48 => Q (.pan e_11) σ_48))
      (Do (aGuard t99_3 false (aBuiltin Go.Proofs.Try.prog .max #[3, 3] [(.val (.int .i64 1)), (.val Go.undef)])) fun t105_13 =>
      Do (aGuard t99_3 false (aBin Go.Proofs.Try.prog .neq 3 t102_3 t105_13)) fun t106_13 =>
      Do (aPick t99_3 (.val (.bool true)) t106_13) fun t107_13 =>
      j [s0, s3, s6, s7, s8, s9, t107_13] σ_46)) (fun e_12 σ_49 => Q (.pan e_12) σ_49))
      (GEff t99_3 false (aCall Go.Proofs.Try.prog 14 [t103_3] σ_23 (fun t104_7 σ_50 =>
        Do (aGuard t99_3 false (aBuiltin Go.Proofs.Try.prog .max #[3, 3] [(.val (.int .i64 1)), t104_7])) fun t105_14 =>
      Do (aGuard t99_3 false (aBin Go.Proofs.Try.prog .neq 3 (.val Go.undef) t105_14)) fun t106_14 =>
      Do (aPick t99_3 (.val (.bool true)) t106_14) fun t107_14 =>
      j [s0, s3, s6, s7, s8, s9, t107_14] σ_50) (fun e_13 σ_51 => Q (.pan e_13) σ_51))
      (Do (aGuard t99_3 false (aBuiltin Go.Proofs.Try.prog .max #[3, 3] [(.val (.int .i64 1)), (.val Go.undef)])) fun t105_15 =>
      Do (aGuard t99_3 false (aBin Go.Proofs.Try.prog .neq 3 (.val Go.undef) t105_15)) fun t106_15 =>
      Do (aPick t99_3 (.val (.bool true)) t106_15) fun t107_15 =>
      j [s0, s3, s6, s7, s8, s9, t107_15] σ_23))))) (fun e_14 σ_52 => Q (.pan e_14) σ_52))
      (Do (aGuard t82 false (aBin Go.Proofs.Try.prog .neq 45 t85 (.val Go.undef))) fun t88_1 =>
      Do (aPick t82 (.val (.bool true)) t88_1) fun t89_1 =>
      Do (aGuard t89_1 false (aIs t60)) fun t91_1 =>
      Do (aGuard t89_1 false (aBin Go.Proofs.Try.prog .neq 25 t91_1 (.val (.int .i64 0)))) fun t92_1 =>
      Do (aGuard t89_1 false (aIs t92_1)) fun t93_1 =>
      Do (aGuard t93_1 true (aIs s7)) fun t94_1 =>
      Both (GEff t93_1 true (aCall Go.Proofs.Try.prog 24 [t94_1] σ_22 (fun t95_2 σ_53 =>
        Do (aGuard t93_1 true (loadA true 32 t11 σ_53)) fun t96_3 =>
      Do (aGuard t93_1 true (aBin Go.Proofs.Try.prog .neq 45 t95_2 t96_3)) fun t97_4 =>
      Do (aGuard t89_1 false (aPick t93_1 t97_4 (.val (.bool false)))) fun t98_4 =>
      Do (aPick t89_1 (.val (.bool true)) t98_4) fun t99_4 =>
      Do (aGuard t99_4 false (aIs s6)) fun t101_4 =>
      Do (aGuard t99_4 false (aIs s7)) fun t103_4 =>
      GEff t99_4 false (aCall Go.Proofs.Try.prog 14 [t101_4] σ_53 (fun t102_4 σ_54 =>
        GEff t99_4 false (aCall Go.Proofs.Try.prog 14 [t103_4] σ_54 (fun t104_8 σ_55 =>
        Do (aGuard t99_4 false (aBuiltin Go.Proofs.Try.prog .max #[3, 3] [(.val (.int .i64 1)), t104_8])) fun t105_16 =>
      Do (aGuard t99_4 false (aBin Go.Proofs.Try.prog .neq 3 t102_4 t105_16)) fun t106_16 =>
      Do (aPick t99_4 (.val (.bool true)) t106_16) fun t107_16 =>
      j [s0, s3, s6, s7, s8, s9, t107_16] σ_55) (fun e_15 σ_56 => Q (.pan e_15) σ_56))
      (Do (aGuard t99_4 false (aBuiltin Go.Proofs.Try.prog .max #[3, 3] [(.val (.int .i64 1)), (.val Go.undef)])) fun t105_17 =>
      Do (aGuard t99_4 false (aBin Go.Proofs.Try.prog .neq 3 t102_4 t105_17)) fun t106_17 =>
      Do (aPick t99_4 (.val (.bool true)) t106_17) fun t107_17 =>
      j [s0, s3, s6, s7, s8, s9, t107_17] σ_54)) (fun e_16 σ_57 => Q (.pan e_16) σ_57))
      (GEff t99_4 false (aCall Go.Proofs.Try.prog 14 [t103_4] σ_53 (fun t104_9 σ_58 =>
        Do (aGuard t99_4 false (aBuiltin Go.Proofs.Try.prog .max #[3, 3] [(.val (.int .i64 1)), t104_9])) fun t105_18 =>
      Do (aGuard t99_4 false (aBin Go.Proofs.Try.prog .neq 3 (.val Go.undef) t105_18)) fun t106_18 =>
      Do (aPick t99_4 (.val (.bool true)) t106_18) fun t107_18 =>
      j [s0, s3, s6, s7, s8, s9, t107_18] σ_58) (fun e_17 σ_59 => Q (.pan e_17) σ_59))
      (Do (aGuard t99_4 false (aBuiltin Go.Proofs.Try.prog .max #[3, 3] [(.val (.int .i64 1)), (.val Go.undef)])) fun t105_19 =>
      Do (aGuard t99_4 false (aBin Go.Proofs.Try.prog .neq 3 (.val Go.undef) t105_19)) fun t106_19 =>
      Do (aPick t99_4 (.val (.bool true)) t106_19) fun t107_19 =>
      j [s0, s3, s6, s7, s8, s9, t107_19] σ_53))) (fun e_18 σ_60 => Q (.pan e_18) σ_60))
      (Do (aGuard t93_1 true (loadA true 32 t11 σ_22)) fun t96_4 =>
      Do (aGuard t93_1 true (aBin Go.Proofs.Try.prog .neq 45 (.val Go.undef) t96_4)) fun t97_5 =>
      Do (aGuard t89_1 false (aPick t93_1 t97_5 (.val (.bool false)))) fun t98_5 =>
      Do (aPick t89_1 (.val (.bool true)) t98_5) fun t99_5 =>
      Do (aGuard t99_5 false (aIs s6)) fun t101_5 =>
      Do (aGuard t99_5 false (aIs s7)) fun t103_5 =>
      GEff t99_5 false (aCall Go.Proofs.Try.prog 14 [t101_5] σ_22 (fun t102_5 σ_61 =>
        GEff t99_5 false (aCall Go.Proofs.Try.prog 14 [t103_5] σ_61 (fun t104_10 σ_62 =>
        Do (aGuard t99_5 false (aBuiltin Go.Proofs.Try.prog .max #[3, 3] [(.val (.int .i64 1)), t104_10])) fun t105_20 =>
      Do (aGuard t99_5 false (aBin Go.Proofs.Try.prog .neq 3 t102_5 t105_20)) fun t106_20 =>
      Do (aPick t99_5 (.val (.bool true)) t106_20) fun t107_20 =>
      j [s0, s3, s6, s7, s8, s9, t107_20] σ_62) (fun e_19 σ_63 => Q (.pan e_19) σ_63))
      (Do (aGuard t99_5 false (aBuiltin Go.Proofs.Try.prog .max #[3, 3] [(.val (.int .i64 1)), (.val Go.undef)])) fun t105_21 =>
      Do (aGuard t99_5 false (aBin Go.Proofs.Try.prog .neq 3 t102_5 t105_21)) fun t106_21 =>
      Do (aPick t99_5 (.val (.bool true)) t106_21) fun t107_21 =>
      j [s0, s3, s6, s7, s8, s9, t107_21] σ_61)) (fun e_20 σ_64 => Q (.pan e_20) σ_64))
      (GEff t99_5 false (aCall Go.Proofs.Try.prog 14 [t103_5] σ_22 (fun t104_11 σ_65 =>
        Do (aGuard t99_5 false (aBuiltin Go.Proofs.Try.prog .max #[3, 3] [(.val (.int .i64 1)), t104_11])) fun t105_22 =>
      Do (aGuard t99_5 false (aBin Go.Proofs.Try.prog .neq 3 (.val Go.undef) t105_22)) fun t106_22 =>
      Do (aPick t99_5 (.val (.bool true)) t106_22) fun t107_22 =>
      j [s0, s3, s6, s7, s8, s9, t107_22] σ_65) (fun e_21 σ_66 => Q (.pan e_21) σ_66))
      (Do (aGuard t99_5 false (aBuiltin Go.Proofs.Try.prog .max #[3, 3] [(.val (.int .i64 1)), (.val Go.undef)])) fun t105_23 =>
      Do (aGuard t99_5 false (aBin Go.Proofs.Try.prog .neq 3 (.val Go.undef) t105_23)) fun t106_23 =>
      Do (aPick t99_5 (.val (.bool true)) t106_23) fun t107_23 =>
      j [s0, s3, s6, s7, s8, s9, t107_23] σ_22)))) (Do (aGuard t93_1 true (loadA true 32 t11 σ_22)) fun t96_5 =>
      GEff t93_1 true (aCall Go.Proofs.Try.prog 24 [t94_1] σ_22 (fun t95_3 σ_67 =>
        Do (aGuard t93_1 true (aBin Go.Proofs.Try.prog .neq 45 t95_3 t96_5)) fun t97_6 =>
      Do (aGuard t89_1 false (aPick t93_1 t97_6 (.val (.bool false)))) fun t98_6 =>
      Do (aPick t89_1 (.val (.bool true)) t98_6) fun t99_6 =>
      Do (aGuard t99_6 false (aIs s6)) fun t101_6 =>
      Do (aGuard t99_6 false (aIs s7)) fun t103_6 =>
      GEff t99_6 false (aCall Go.Proofs.Try.prog 14 [t101_6] σ_67 (fun t102_6 σ_68 =>
        GEff t99_6 false (aCall Go.Proofs.Try.prog 14 [t103_6] σ_68 (fun t104_12 σ_69 =>
        Do (aGuard t99_6 false (aBuiltin Go.Proofs.Try.prog .max #[3, 3] [(.val (.int .i64 1)), t104_12])) fun t105_24 =>
      Do (aGuard t99_6 false (aBin Go.Proofs.Try.prog .neq 3 t102_6 t105_24)) fun t106_24 =>
      Do (aPick t99_6 (.val (.bool true)) t106_24) fun t107_24 =>
      j [s0, s3, s6, s7, s8, s9, t107_24] σ_69) (fun e_22 σ_70 => Q (.pan e_22) σ_70))
      (Do (aGuard t99_6 false (aBuiltin Go.Proofs.Try.prog .max #[3, 3] [(.val (.int .i64 1)), (.val Go.undef)])) fun t105_25 =>
      Do (aGuard t99_6 false (aBin Go.Proofs.Try.prog .neq 3 t102_6 t105_25)) fun t106_25 =>
      Do (aPick t99_6 (.val (.bool true)) t106_25) fun t107_25 =>
      j [s0, s3, s6, s7, s8, s9, t107_25] σ_68)) (fun e_23 σ_71 => Q (.pan e_23) σ_71))
      (GEff t99_6 false (aCall Go.Proofs.Try.prog 14 [t103_6] σ_67 (fun t104_13 σ_72 =>
        Do (aGuard t99_6 false (aBuiltin Go.Proofs.Try.prog .max #[3, 3] [(.val (.int .i64 1)), t104_13])) fun t105_26 =>
      Do (aGuard t99_6 false (aBin Go.Proofs.Try.prog .neq 3 (.val Go.undef) t105_26)) fun t106_26 =>
      Do (aPick t99_6 (.val (.bool true)) t106_26) fun t107_26 =>
      j [s0, s3, s6, s7, s8, s9, t107_26] σ_72) (fun e_24 σ_73 => Q (.pan e_24) σ_73))
      (Do (aGuard t99_6 false (aBuiltin Go.Proofs.Try.prog .max #[3, 3] [(.val (.int .i64 1)), (.val Go.undef)])) fun t105_27 =>
      Do (aGuard t99_6 false (aBin Go.Proofs.Try.prog .neq 3 (.val Go.undef) t105_27)) fun t106_27 =>
      Do (aPick t99_6 (.val (.bool true)) t106_27) fun t107_27 =>
      j [s0, s3, s6, s7, s8, s9, t107_27] σ_67))) (fun e_25 σ_74 => Q (.pan e_25) σ_74))
      (Do (aGuard t93_1 true (aBin Go.Proofs.Try.prog .neq 45 (.val Go.undef) t96_5)) fun t97_7 =>
      Do (aGuard t89_1 false (aPick t93_1 t97_7 (.val (.bool false)))) fun t98_7 =>
      Do (aPick t89_1 (.val (.bool true)) t98_7) fun t99_7 =>
      Do (aGuard t99_7 false (aIs s6)) fun t101_7 =>
      Do (aGuard t99_7 false (aIs s7)) fun t103_7 =>
      GEff t99_7 false (aCall Go.Proofs.Try.prog 14 [t101_7] σ_22 (fun t102_7 σ_75 =>
        GEff t99_7 false (aCall Go.Proofs.Try.prog 14 [t103_7] σ_75 (fun t104_14 σ_76 =>
        Do (aGuard t99_7 false (aBuiltin Go.Proofs.Try.prog .max #[3, 3] [(.val (.int .i64 1)), t104_14])) fun t105_28 =>
      Do (aGuard t99_7 false (aBin Go.Proofs.Try.prog .neq 3 t102_7 t105_28)) fun t106_28 =>
      Do (aPick t99_7 (.val (.bool true)) t106_28) fun t107_28 =>
      j [s0, s3, s6, s7, s8, s9, t107_28] σ_76) (fun e_26 σ_77 => Q (.pan e_26) σ_77))
      (Do (aGuard t99_7 false (aBuiltin Go.Proofs.Try.prog .max #[3, 3] [(.val (.int .i64 1)), (.val Go.undef)])) fun t105_29 =>
      Do (aGuard t99_7 false (aBin Go.Proofs.Try.prog .neq 3 t102_7 t105_29)) fun t106_29 =>
      Do (aPick t99_7 (.val (.bool true)) t106_29) fun t107_29 =>
      j [s0, s3, s6, s7, s8, s9, t107_29] σ_75)) (fun e_27 σ_78 => Q (.pan e_27) σ_78))
      (GEff t99_7 false (aCall Go.Proofs.Try.prog 14 [t103_7] σ_22 (fun t104_15 σ_79 =>
        Do (aGuard t99_7 false (aBuiltin Go.Proofs.Try.prog .max #[3, 3] [(.val (.int .i64 1)), t104_15])) fun t105_30 =>
      Do (aGuard t99_7 false (aBin Go.Proofs.Try.prog .neq 3 (.val Go.undef) t105_30)) fun t106_30 =>
      Do (aPick t99_7 (.val (.bool true)) t106_30) fun t107_30 =>
      j [s0, s3, s6, s7, s8, s9, t107_30] σ_79) (fun e_28 σ_80 => Q (.pan e_28) σ_80))
      (Do (aGuard t99_7 false (aBuiltin Go.Proofs.Try.prog .max #[3, 3] [(.val (.int .i64 1)), (.val Go.undef)])) fun t105_31 =>
      Do (aGuard t99_7 false (aBin Go.Proofs.Try.prog .neq 3 (.val Go.undef) t105_31)) fun t106_31 =>
      Do (aPick t99_7 (.val (.bool true)) t106_31) fun t107_31 =>
      j [s0, s3, s6, s7, s8, s9, t107_31] σ_22)))))) (fun e_29 σ_81 => Q (.pan e_29) σ_81))
      (GEff t82 false (aCall Go.Proofs.Try.prog 24 [t86] σ_20 (fun t87_1 σ_82 =>
        Do (aGuard t82 false (aBin Go.Proofs.Try.prog .neq 45 (.val Go.undef) t87_1)) fun t88_2 =>
      Do (aPick t82 (.val (.bool true)) t88_2) fun t89_2 =>
      Do (aGuard t89_2 false (aIs t60)) fun t91_2 =>
      Do (aGuard t89_2 false (aBin Go.Proofs.Try.prog .neq 25 t91_2 (.val (.int .i64 0)))) fun t92_2 =>
      Do (aGuard t89_2 false (aIs t92_2)) fun t93_2 =>
      Do (aGuard t93_2 true (aIs s7)) fun t94_2 =>
      Both (GEff t93_2 true (aCall Go.Proofs.Try.prog 24 [t94_2] σ_82 (fun t95_4 σ_83 =>
        Do (aGuard t93_2 true (loadA true 32 t11 σ_83)) fun t96_6 =>
      Do (aGuard t93_2 true (aBin Go.Proofs.Try.prog .neq 45 t95_4 t96_6)) fun t97_8 =>
      Do (aGuard t89_2 false (aPick t93_2 t97_8 (.val (.bool false)))) fun t98_8 =>
      Do (aPick t89_2 (.val (.bool true)) t98_8) fun t99_8 =>
      Do (aGuard t99_8 false (aIs s6)) fun t101_8 =>
      Do (aGuard t99_8 false (aIs s7)) fun t103_8 =>
      GEff t99_8 false (aCall Go.Proofs.Try.prog 14 [t101_8] σ_83 (fun t102_8 σ_84 =>
        GEff t99_8 false (aCall Go.Proofs.Try.prog 14 [t103_8] σ_84 (fun t104_16 σ_85 =>
        Do (aGuard t99_8 false (aBuiltin Go.Proofs.Try.prog .max #[3, 3] [(.val (.int .i64 1)), t104_16])) fun t105_32 =>
      Do (aGuard t99_8 false (aBin Go.Proofs.Try.prog .neq 3 t102_8 t105_32)) fun t106_32 =>
      Do (aPick t99_8 (.val (.bool true)) t106_32) fun t107_32 =>
      j [s0, s3, s6, s7, s8, s9, t107_32] σ_85) (fun e_30 σ_86 => Q (.pan e_30) σ_86))
      (Do (aGuard t99_8 false (aBuiltin Go.Proofs.Try.prog .max #[3, 3] [(.val (.int .i64 1)), (.val Go.undef)])) fun t105_33 =>
      Do (aGuard t99_8 false (aBin Go.Proofs.Try.prog .neq 3 t102_8 t105_33)) fun t106_33 =>
      Do (aPick t99_8 (.val (.bool true)) t106_33) fun t107_33 =>
      j [s0, s3, s6, s7, s8, s9, t107_33] σ_84)) (fun e_31 σ_87 => Q (.pan e_31) σ_87))
      (GEff t99_8 false (aCall Go.Proofs.Try.prog 14 [t103_8] σ_83 (fun t104_17 σ_88 =>
        Do (aGuard t99_8 false (aBuiltin Go.Proofs.Try.prog .max #[3, 3] [(.val (.int .i64 1)), t104_17])) fun t105_34 =>
      Do (aGuard t99_8 false (aBin Go.Proofs.Try.prog .neq 3 (.val Go.undef) t105_34)) fun t106_34 =>
      Do (aPick t99_8 (.val (.bool true)) t106_34) fun t107_34 =>
      j [s0, s3, s6, s7, s8, s9, t107_34] σ_88) (fun e_32 σ_89 => Q (.pan e_32) σ_89))
      (Do (aGuard t99_8 false (aBuiltin Go.Proofs.Try.prog .max #[3, 3] [(.val (.int .i64 1)), (.val Go.undef)])) fun t105_35 =>
      Do (aGuard t99_8 false (aBin Go.Proofs.Try.prog .neq 3 (.val Go.undef) t105_35)) fun t106_35 =>
      Do (aPick t99_8 (.val (.bool true)) t106_35) fun t107_35 =>
      j [s0, s3, s6, s7, s8, s9, t107_35] σ_83))) (fun e_33 σ_90 => Q (.pan e_33) σ_90))
      (Do (aGuard t93_2 true (loadA true 32 t11 σ_82)) fun t96_7 =>
      Do (aGuard t93_2 true (aBin Go.Proofs.Try.prog .neq 45 (.val Go.undef) t96_7)) fun t97_9 =>
      Do (aGuard t89_2 false (aPick t93_2 t97_9 (.val (.bool false)))) fun t98_9 =>
      Do (aPick t89_2 (.val (.bool true)) t98_9) fun t99_9 =>
      Do (aGuard t99_9 false (aIs s6)) fun t101_9 =>
      Do (aGuard t99_9 false (aIs s7)) fun t103_9 =>
      GEff t99_9 false (aCall Go.Proofs.Try.prog 14 [t101_9] σ_82 (fun t102_9 σ_91 =>
        GEff t99_9 false (aCall Go.Proofs.Try.prog 14 [t103_9] σ_91 (fun t104_18 σ_92 =>
        Do (aGuard t99_9 false (aBuiltin Go.Proofs.Try.prog .max #[3, 3] [(.val (.int .i64 1)), t104_18])) fun t105_36 =>
      Do (aGuard t99_9 false (aBin Go.Proofs.Try.prog .neq 3 t102_9 t105_36)) fun t106_36 =>
      Do (aPick t99_9 (.val (.bool true)) t106_36) fun t107_36 =>
      j [s0, s3, s6, s7, s8, s9, t107_36] σ_92) (fun e_34 σ_93 => Q (.pan e_34) σ_93))
      (Do (aGuard t99_9 false (aBuiltin Go.Proofs.Try.prog .max #[3, 3] [(.val (.int .i64 1)), (.val Go.undef)])) fun t105_37 =>
      Do (aGuard t99_9 false (aBin Go.Proofs.Try.prog .neq 3 t102_9 t105_37)) fun t106_37 =>
      Do (aPick t99_9 (.val (.bool true)) t106_37) fun t107_37 =>
      j [s0, s3, s6, s7, s8, s9, t107_37] σ_91)) (fun e_35 σ_94 => Q (.pan e_35) σ_94))
      (GEff t99_9 false (aCall Go.Proofs.Try.prog 14 [t103_9] σ_82 (fun t104_19 σ_95 =>
        Do (aGuard t99_9 false (aBuiltin Go.Proofs.Try.prog .max #[3, 3] [(.val (.int .i64 1)), t104_19])) fun t105_38 =>
      Do (aGuard t99_9 false (aBin Go.Proofs.Try.prog .neq 3 (.val Go.undef) t105_38)) fun t106_38 =>
      Do (aPick t99_9 (.val (.bool true)) t106_38) fun t107_38 =>
      j [s0, s3, s6, s7, s8, s9, t107_38] σ_95) (fun e_36 σ_96 => Q (.pan e_36) σ_96))
      (Do (aGuard t99_9 false (aBuiltin Go.Proofs.Try.prog .max #[3, 3] [(.val (.int .i64 1)), (.val Go.undef)])) fun t105_39 =>
      Do (aGuard t99_9 false (aBin Go.Proofs.Try.prog .neq 3 (.val Go.undef) t105_39)) fun t106_39 =>
      Do (aPick t99_9 (.val (.bool true)) t106_39) fun t107_39 =>
      j [s0, s3, s6, s7, s8, s9, t107_39] σ_82)))) (Do (aGuard t93_2 true (loadA true 32 t11 σ_82)) fun t96_8 =>
      GEff t93_2 true (aCall Go.Proofs.Try.prog 24 [t94_2] σ_82 (fun t95_5 σ_97 =>
        Do (aGuard t93_2 true (aBin Go.Proofs.Try.prog .neq 45 t95_5 t96_8)) fun t97_10 =>
      Do (aGuard t89_2 false (aPick t93_2 t97_10 (.val (.bool false)))) fun t98_10 =>
      Do (aPick t89_2 (.val (.bool true)) t98_10) fun t99_10 =>
      Do (aGuard t99_10 false (aIs s6)) fun t101_10 =>
      Do (aGuard t99_10 false (aIs s7)) fun t103_10 =>
      GEff t99_10 false (aCall Go.Proofs.Try.prog 14 [t101_10] σ_97 (fun t102_10 σ_98 =>
        GEff t99_10 false (aCall Go.Proofs.Try.prog 14 [t103_10] σ_98 (fun t104_20 σ_99 =>
        Do (aGuard t99_10 false (aBuiltin Go.Proofs.Try.prog .max #[3, 3] [(.val (.int .i64 1)), t104_20])) fun t105_40 =>
      Do (aGuard t99_10 false (aBin Go.Proofs.Try.prog .neq 3 t102_10 t105_40)) fun t106_40 =>
      Do (aPick t99_10 (.val (.bool true)) t106_40) fun t107_40 =>
      j [s0, s3, s6, s7, s8, s9, t107_40] σ_99) (fun e_37 σ_100 => Q (.pan e_37) σ_100))
      (Do (aGuard t99_10 false (aBuiltin Go.Proofs.Try.prog .max #[3, 3] [(.val (.int .i64 1)), (.val Go.undef)])) fun t105_41 =>
      Do (aGuard t99_10 false (aBin Go.Proofs.Try.prog .neq 3 t102_10 t105_41)) fun t106_41 =>
      Do (aPick t99_10 (.val (.bool true)) t106_41) fun t107_41 =>
      j [s0, s3, s6, s7, s8, s9, t107_41] σ_98)) (fun e_38 σ_101 => Q (.pan e_38) σ_101))
      (GEff t99_10 false (aCall Go.Proofs.Try.prog 14 [t103_10] σ_97 (fun t104_21 σ_102 =>
        Do (aGuard t99_10 false (aBuiltin Go.Proofs.Try.prog .max #[3, 3] [(.val (.int .i64 1)), t104_21])) fun t105_42 =>
      Do (aGuard t99_10 false (aBin Go.Proofs.Try.prog .neq 3 (.val Go.undef) t105_42)) fun t106_42 =>
      Do (aPick t99_10 (.val (.bool true)) t106_42) fun t107_42 =>
      j [s0, s3, s6, s7, s8, s9, t107_42] σ_102) (fun e_39 σ_103 => Q (.pan e_39) σ_103))
      (Do (aGuard t99_10 false (aBuiltin Go.Proofs.Try.prog .max #[3, 3] [(.val (.int .i64 1)), (.val Go.undef)])) fun t105_43 =>
      Do (aGuard t99_10 false (aBin Go.Proofs.Try.prog .neq 3 (.val Go.undef) t105_43)) fun t106_43 =>
      Do (aPick t99_10 (.val (.bool true)) t106_43) fun t107_43 =>
      j [s0, s3, s6, s7, s8, s9, t107_43] σ_97))) (fun e_40 σ_104 => Q (.pan e_40) σ_104))
      (Do (aGuard t93_2 true (aBin Go.Proofs.Try.prog .neq 45 (.val Go.undef) t96_8)) fun t97_11 =>
      Do (aGuard t89_2 false (aPick t93_2 t97_11 (.val (.bool false)))) fun t98_11 =>
      Do (aPick t89_2 (.val (.bool true)) t98_11) fun t99_11 =>
      Do (aGuard t99_11 false (aIs s6)) fun t101_11 =>
      Do (aGuard t99_11 false (aIs s7)) fun t103_11 =>
      GEff t99_11 false (aCall Go.Proofs.Try.prog 14 [t101_11] σ_82 (fun t102_11 σ_105 =>
        GEff t99_11 false (aCall Go.Proofs.Try.prog 14 [t103_11] σ_105 (fun t104_22 σ_106 =>
        Do (aGuard t99_11 false (aBuiltin Go.Proofs.Try.prog .max #[3, 3] [(.val (.int .i64 1)), t104_22])) fun t105_44 =>
      Do (aGuard t99_11 false (aBin Go.Proofs.Try.prog .neq 3 t102_11 t105_44)) fun t106_44 =>
      Do (aPick t99_11 (.val (.bool true)) t106_44) fun t107_44 =>
      j [s0, s3, s6, s7, s8, s9, t107_44] σ_106) (fun e_41 σ_107 => Q (.pan e_41) σ_107))
      (Do (aGuard t99_11 false (aBuiltin Go.Proofs.Try.prog .max #[3, 3] [(.val (.int .i64 1)), (.val Go.undef)])) fun t105_45 =>
      Do (aGuard t99_11 false (aBin Go.Proofs.Try.prog .neq 3 t102_11 t105_45)) fun t106_45 =>
      Do (aPick t99_11 (.val (.bool true)) t106_45) fun t107_45 =>
      j [s0, s3, s6, s7, s8, s9, t107_45] σ_105)) (fun e_42 σ_108 => Q (.pan e_42) σ_108))
      (GEff t99_11 false (aCall Go.Proofs.Try.prog 14 [t103_11] σ_82 (fun t104_23 σ_109 =>
        Do (aGuard t99_11 false (aBuiltin Go.Proofs.Try.prog .max #[3, 3] [(.val (.int .i64 1)), t104_23])) fun t105_46 =>
      Do (aGuard t99_11 false (aBin Go.Proofs.Try.prog .neq 3 (.val Go.undef) t105_46)) fun t106_46 =>
      Do (aPick t99_11 (.val (.bool true)) t106_46) fun t107_46 =>
      j [s0, s3, s6, s7, s8, s9, t107_46] σ_109) (fun e_43 σ_110 => Q (.pan e_43) σ_110))
      (Do (aGuard t99_11 false (aBuiltin Go.Proofs.Try.prog .max #[3, 3] [(.val (.int .i64 1)), (.val Go.undef)])) fun t105_47 =>
      Do (aGuard t99_11 false (aBin Go.Proofs.Try.prog .neq 3 (.val Go.undef) t105_47)) fun t106_47 =>
      Do (aPick t99_11 (.val (.bool true)) t106_47) fun t107_47 =>
      j [s0, s3, s6, s7, s8, s9, t107_47] σ_82))))) (fun e_44 σ_111 => Q (.pan e_44) σ_111))
      (Do (aGuard t82 false (aBin Go.Proofs.Try.prog .neq 45 (.val Go.undef) (.val Go.undef))) fun t88_3 =>
      Do (aPick t82 (.val (.bool true)) t88_3) fun t89_3 =>
      Do (aGuard t89_3 false (aIs t60)) fun t91_3 =>
      Do (aGuard t89_3 false (aBin Go.Proofs.Try.prog .neq 25 t91_3 (.val (.int .i64 0)))) fun t92_3 =>
      Do (aGuard t89_3 false (aIs t92_3)) fun t93_3 =>
      Do (aGuard t93_3 true (aIs s7)) fun t94_3 =>
      Both (GEff t93_3 true (aCall Go.Proofs.Try.prog 24 [t94_3] σ_20 (fun t95_6 σ_112 =>
        Do (aGuard t93_3 true (loadA true 32 t11 σ_112)) fun t96_9 =>
      Do (aGuard t93_3 true (aBin Go.Proofs.Try.prog .neq 45 t95_6 t96_9)) fun t97_12 =>
      Do (aGuard t89_3 false (aPick t93_3 t97_12 (.val (.bool false)))) fun t98_12 =>
      Do (aPick t89_3 (.val (.bool true)) t98_12) fun t99_12 =>
      Do (aGuard t99_12 false (aIs s6)) fun t101_12 =>
      Do (aGuard t99_12 false (aIs s7)) fun t103_12 =>
      GEff t99_12 false (aCall Go.Proofs.Try.prog 14 [t101_12] σ_112 (fun t102_12 σ_113 =>
        GEff t99_12 false (aCall Go.Proofs.Try.prog 14 [t103_12] σ_113 (fun t104_24 σ_114 =>
        Do (aGuard t99_12 false (aBuiltin Go.Proofs.Try.prog .max #[3, 3] [(.val (.int .i64 1)), t104_24])) fun t105_48 =>
      Do (aGuard t99_12 false (aBin Go.Proofs.Try.prog .neq 3 t102_12 t105_48)) fun t106_48 =>
      Do (aPick t99_12 (.val (.bool true)) t106_48) fun t107_48 =>
      j [s0, s3, s6, s7, s8, s9, t107_48] σ_114) (fun e_45 σ_115 => Q (.pan e_45) σ_115))
      (Do (aGuard t99_12 false (aBuiltin Go.Proofs.Try.prog .max #[3, 3] [(.val (.int .i64 1)), (.val Go.undef)])) fun t105_49 =>
      Do (aGuard t99_12 false (aBin Go.Proofs.Try.prog .neq 3 t102_12 t105_49)) fun t106_49 =>
      Do (aPick t99_12 (.val (.bool true)) t106_49) fun t107_49 =>
      j [s0, s3, s6, s7, s8, s9, t107_49] σ_113)) (fun e_46 σ_116 => Q (.pan e_46) σ_116))
      (GEff t99_12 false (aCall Go.Proofs.Try.prog 14 [t103_12] σ_112 (fun t104_25 σ_117 =>
        Do (aGuard t99_12 false (aBuiltin Go.Proofs.Try.prog .max #[3, 3] [(.val (.int .i64 1)), t104_25])) fun t105_50 =>
      Do (aGuard t99_12 false (aBin Go.Proofs.Try.prog .neq 3 (.val Go.undef) t105_50)) fun t106_50 =>
      Do (aPick t99_12 (.val (.bool true)) t106_50) fun t107_50 =>
      j [s0, s3, s6, s7, s8, s9, t107_50] σ_117) (fun e_47 σ_118 => Q (.pan e_47) σ_118))
      (Do (aGuard t99_12 false (aBuiltin Go.Proofs.Try.prog .max #[3, 3] [(.val (.int .i64 1)), (.val Go.undef)])) fun t105_51 =>
      Do (aGuard t99_12 false (aBin Go.Proofs.Try.prog .neq 3 (.val Go.undef) t105_51)) fun t106_51 =>
      Do (aPick t99_12 (.val (.bool true)) t106_51) fun t107_51 =>
      j [s0, s3, s6, s7, s8, s9, t107_51] σ_112))) (fun e_48 σ_119 => Q (.pan e_48) σ_119))
      (Do (aGuard t93_3 true (loadA true 32 t11 σ_20)) fun t96_10 =>
      Do (aGuard t93_3 true (aBin Go.Proofs.Try.prog .neq 45 (.val Go.undef) t96_10)) fun t97_13 =>
      Do (aGuard t89_3 false (aPick t93_3 t97_13 (.val (.bool false)))) fun t98_13 =>
      Do (aPick t89_3 (.val (.bool true)) t98_13) fun t99_13 =>
      Do (aGuard t99_13 false (aIs s6)) fun t101_13 =>
      Do (aGuard t99_13 false (aIs s7)) fun t103_13 =>
      GEff t99_13 false (aCall Go.Proofs.Try.prog 14 [t101_13] σ_20 (fun t102_13 σ_120 =>
        GEff t99_13 false (aCall Go.Proofs.Try.prog 14 [t103_13] σ_120 (fun t104_26 σ_121 =>
        Do (aGuard t99_13 false (aBuiltin Go.Proofs.Try.prog .max #[3, 3] [(.val (.int .i64 1)), t104_26])) fun t105_52 =>
      Do (aGuard t99_13 false (aBin Go.Proofs.Try.prog .neq 3 t102_13 t105_52)) fun t106_52 =>
      Do (aPick t99_13 (.val (.bool true)) t106_52) fun t107_52 =>
      j [s0, s3, s6, s7, s8, s9, t107_52] σ_121) (fun e_49 σ_122 => Q (.pan e_49) σ_122))
      (Do (aGuard t99_13 false (aBuiltin Go.Proofs.Try.prog .max #[3, 3] [(.val (.int .i64 1)), (.val Go.undef)])) fun t105_53 =>
      Do (aGuard t99_13 false (aBin Go.Proofs.Try.prog .neq 3 t102_13 t105_53)) fun t106_53 =>
      Do (aPick t99_13 (.val (.bool true)) t106_53) fun t107_53 =>
      j [s0, s3, s6, s7, s8, s9, t107_53] σ_120)) (fun e_50 σ_123 => Q (.pan e_50) σ_123))
      (GEff t99_13 false (aCall Go.Proofs.Try.prog 14 [t103_13] σ_20 (fun t104_27 σ_124 =>
        Do (aGuard t99_13 false (aBuiltin Go.Proofs.Try.prog .max #[3, 3] [(.val (.int .i64 1)), t104_27])) fun t105_54 =>
      Do (aGuard t99_13 false (aBin Go.Proofs.Try.prog .neq 3 (.val Go.undef) t105_54)) fun t106_54 =>
      Do (aPick t99_13 (.val (.bool true)) t106_54) fun t107_54 =>
      j [s0, s3, s6, s7, s8, s9, t107_54] σ_124) (fun e_51 σ_125 => Q (.pan e_51) σ_125))
      (Do (aGuard t99_13 false (aBuiltin Go.Proofs.Try.prog .max #[3, 3] [(.val (.int .i64 1)), (.val Go.undef)])) fun t105_55 =>
      Do (aGuard t99_13 false (aBin Go.Proofs.Try.prog .neq 3 (.val Go.undef) t105_55)) fun t106_55 =>
      Do (aPick t99_13 (.val (.bool true)) t106_55) fun t107_55 =>
      j [s0, s3, s6, s7, s8, s9, t107_55] σ_20)))) (Do (aGuard t93_3 true (loadA true 32 t11 σ_20)) fun t96_11 =>
      GEff t93_3 true (aCall Go.Proofs.Try.prog 24 [t94_3] σ_20 (fun t95_7 σ_126 =>
        Do (aGuard t93_3 true (aBin Go.Proofs.Try.prog .neq 45 t95_7 t96_11)) fun t97_14 =>
      Do (aGuard t89_3 false (aPick t93_3 t97_14 (.val (.bool false)))) fun t98_14 =>
      Do (aPick t89_3 (.val (.bool true)) t98_14) fun t99_14 =>
      Do (aGuard t99_14 false (aIs s6)) fun t101_14 =>
      Do (aGuard t99_14 false (aIs s7)) fun t103_14 =>
      GEff t99_14 false (aCall Go.Proofs.Try.prog 14 [t101_14] σ_126 (fun t102_14 σ_127 =>
        GEff t99_14 false (aCall Go.Proofs.Try.prog 14 [t103_14] σ_127 (fun t104_28 σ_128 =>
        Do (aGuard t99_14 false (aBuiltin Go.Proofs.Try.prog .max #[3, 3] [(.val (.int .i64 1)), t104_28])) fun t105_56 =>
      Do (aGuard t99_14 false (aBin Go.Proofs.Try.prog .neq 3 t102_14 t105_56)) fun t106_56 =>
      Do (aPick t99_14 (.val (.bool true)) t106_56) fun t107_56 =>
      j [s0, s3, s6, s7, s8, s9, t107_56] σ_128) (fun e_52 σ_129 => Q (.pan e_52) σ_129))
      (Do (aGuard t99_14 false (aBuiltin Go.Proofs.Try.prog .max #[3, 3] [(.val (.int .i64 1)), (.val Go.undef)])) fun t105_57 =>
      Do (aGuard t99_14 false (aBin Go.Proofs.Try.prog .neq 3 t102_14 t105_57)) fun t106_57 =>
      Do (aPick t99_14 (.val (.bool true)) t106_57) fun t107_57 =>
      j [s0, s3, s6, s7, s8, s9, t107_57] σ_127)) (fun e_53 σ_130 => Q (.pan e_53) σ_130))
      (GEff t99_14 false (aCall Go.Proofs.Try.prog 14 [t103_14] σ_126 (fun t104_29 σ_131 =>
        Do (aGuard t99_14 false (aBuiltin Go.Proofs.Try.prog .max #[3, 3] [(.val (.int .i64 1)), t104_29])) fun t105_58 =>
      Do (aGuard t99_14 false (aBin Go.Proofs.Try.prog .neq 3 (.val Go.undef) t105_58)) fun t106_58 =>
      Do (aPick t99_14 (.val (.bool true)) t106_58) fun t107_58 =>
      j [s0, s3, s6, s7, s8, s9, t107_58] σ_131) (fun e_54 σ_132 => Q (.pan e_54) σ_132))
      (Do (aGuard t99_14 false (aBuiltin Go.Proofs.Try.prog .max #[3, 3] [(.val (.int .i64 1)), (.val Go.undef)])) fun t105_59 =>
      Do (aGuard t99_14 false (aBin Go.Proofs.Try.prog .neq 3 (.val Go.undef) t105_59)) fun t106_59 =>
      Do (aPick t99_14 (.val (.bool true)) t106_59) fun t107_59 =>
      j [s0, s3, s6, s7, s8, s9, t107_59] σ_126))) (fun e_55 σ_133 => Q (.pan e_55) σ_133))
      (Do (aGuard t93_3 true (aBin Go.Proofs.Try.prog .neq 45 (.val Go.undef) t96_11)) fun t97_15 =>
      Do (aGuard t89_3 false (aPick t93_3 t97_15 (.val (.bool false)))) fun t98_15 =>
      Do (aPick t89_3 (.val (.bool true)) t98_15) fun t99_15 =>
      Do (aGuard t99_15 false (aIs s6)) fun t101_15 =>
      Do (aGuard t99_15 false (aIs s7)) fun t103_15 =>
      GEff t99_15 false (aCall Go.Proofs.Try.prog 14 [t101_15] σ_20 (fun t102_15 σ_134 =>
        GEff t99_15 false (aCall Go.Proofs.Try.prog 14 [t103_15] σ_134 (fun t104_30 σ_135 =>
        Do (aGuard t99_15 false (aBuiltin Go.Proofs.Try.prog .max #[3, 3] [(.val (.int .i64 1)), t104_30])) fun t105_60 =>
      Do (aGuard t99_15 false (aBin Go.Proofs.Try.prog .neq 3 t102_15 t105_60)) fun t106_60 =>
      Do (aPick t99_15 (.val (.bool true)) t106_60) fun t107_60 =>
      j [s0, s3, s6, s7, s8, s9, t107_60] σ_135) (fun e_56 σ_136 => Q (.pan e_56) σ_136))
      (Do (aGuard t99_15 false (aBuiltin Go.Proofs.Try.prog .max #[3, 3] [(.val (.int .i64 1)), (.val Go.undef)])) fun t105_61 =>
      Do (aGuard t99_15 false (aBin Go.Proofs.Try.prog .neq 3 t102_15 t105_61)) fun t106_61 =>
      Do (aPick t99_15 (.val (.bool true)) t106_61) fun t107_61 =>
      j [s0, s3, s6, s7, s8, s9, t107_61] σ_134)) (fun e_57 σ_137 => Q (.pan e_57) σ_137))
      (GEff t99_15 false (aCall Go.Proofs.Try.prog 14 [t103_15] σ_20 (fun t104_31 σ_138 =>
        Do (aGuard t99_15 false (aBuiltin Go.Proofs.Try.prog .max #[3, 3] [(.val (.int .i64 1)), t104_31])) fun t105_62 =>
      Do (aGuard t99_15 false (aBin Go.Proofs.Try.prog .neq 3 (.val Go.undef) t105_62)) fun t106_62 =>
      Do (aPick t99_15 (.val (.bool true)) t106_62) fun t107_62 =>
      j [s0, s3, s6, s7, s8, s9, t107_62] σ_138) (fun e_58 σ_139 => Q (.pan e_58) σ_139))
      (Do (aGuard t99_15 false (aBuiltin Go.Proofs.Try.prog .max #[3, 3] [(.val (.int .i64 1)), (.val Go.undef)])) fun t105_63 =>
      Do (aGuard t99_15 false (aBin Go.Proofs.Try.prog .neq 3 (.val Go.undef) t105_63)) fun t106_63 =>
      Do (aPick t99_15 (.val (.bool true)) t106_63) fun t107_63 =>
      j [s0, s3, s6, s7, s8, s9, t107_63] σ_20))))))) fun vs_1 σ_21 =>
    At vs_1 0 fun s0_1 => At vs_1 1 fun s3_1 => At vs_1 2 fun s6_1 => At vs_1 3 fun s7_1 => At vs_1 4 fun s8_1 => At vs_1 5 fun s9_1 => At vs_1 6 fun s107 => aCond s107
      (Q (.ret (.val (.bool false))) σ_21)
      (Do (aBin Go.Proofs.Try.prog .add 3 s9_1 (.val (.int .i64 1))) fun t47 =>
    go [s0_1, s3_1, s6_1, s7_1, s8_1, t47] σ_21)) (fun e_59 σ_140 => Q (.pan e_59) σ_140)) (fun e_60 σ_141 => Q (.pan e_60) σ_141)) (fun e_61 σ_142 => Q (.pan e_61) σ_142)) (fun e_62 σ_143 => Q (.pan e_62) σ_143)) (fun e_63 σ_144 => Q (.pan e_63) σ_144)) (fun e_64 σ_145 => Q (.pan e_64) σ_145)) (fun e_65 σ_146 => Q (.pan e_65) σ_146))
      (Q (.ret s8) σ_7))
    [a0, t3, t16, t17, t37, (.val (.int .i64 0))] σ_6) (fun e_66 σ_147 => Q (.pan e_66) σ_147)) (fun e_67 σ_148 => Q (.pan e_67) σ_148)) (fun e_68 σ_149 => Q (.pan e_68) σ_149)) (fun e_69 σ_150 => Q (.pan e_69) σ_150))) (fun e_70 σ_151 => Q (.pan e_70) σ_151)) (fun e_71 σ_152 => Q (.pan e_71) σ_152)
theorem law10_MemChains.eq (a0 a1 : AV) (σ : Store) (Q : AEnd → Store → Prop) : vc (semOf Go.Proofs.Try.prog law10_MemChains.mark) Go.Proofs.Try.f6.ntmps law10_MemChains.ann (bodyOf Go.Proofs.Try.f6) (endK [.tmp 4] Q) (argFr [a0, a1]) σ = law10_MemChains.sh a0 a1 σ Q := by kernel_rfl
theorem law10_MemChains.go {a0 a1 : AV} {σ : Store} {Q : AEnd → Store → Prop} (h : law10_MemChains.sh a0 a1 σ Q) : ACalls Go.Proofs.Try.prog 6 [a0, a1] σ Q :=
  acalls_of_eq [.tmp 4] Go.Proofs.Try.func6 (by kernel_rfl) (by kernel_rfl) (by kernel_rfl) (by kernel_rfl) (law10_MemChains.eq a0 a1 σ Q) h
set_option maxRecDepth 8000 in
theorem MemChains_ok (l : List En) (m : SM) (bad : En) (hl : l.length ≤ 100000000000000) (hk : bad.key.length ≤ maxLen) (hv : bad.val.length ≤ maxLen) : aPure Go.Proofs.Try.prog 6 [.lst 4 (l.map En.av) m, bad.av] (B true) := by
  refine ACalls.fin (law10_MemChains.go ?_)
  unfold law10_MemChains.sh
  have ht : (true : Bool) = true := rfl
  have i0 := memI0 0
  have hff : ¬ (false : Bool) = true := by decide
  have htt : ¬ (true : Bool) = false := by decide
  have hft : (false : Bool) = false := rfl
  have h32 := sha_length []
  have x1 : putX [] 0 ⟨[102, 105, 114, 115, 116], [], false, 1⟩ = 0 := by decide +kernel
  have s1 : putS [] 0 ⟨[102, 105, 114, 115, 116], [], false, 1⟩ = 1 := putS_ok x1
  repeat' (first | with_reducible apply Stp.go | with_reducible refine imp fun _ => ?_ | (with_reducible refine hyp ?_ ?_; first | assumption | exact leftT_mem (by assumption)) | (with_reducible refine need ?_ ?_; first | trivial | omega | exact ⟨by assumption, by omega⟩ | (simp only [List.length_append, List.length_cons, List.length_nil, List.length_map, List.length_take, List.length_drop, List.length_replicate, List.length_set]; omega)) | (with_reducible refine fact ?_ ?_; first | trivial | exact ⟨rfl, rfl⟩ | kernel_rfl) | with_reducible refine choT (by assumption) ?_ | with_reducible refine choF (by assumption) ?_ | with_reducible refine choF' (by assumption) ?_ | (with_reducible refine altT ?_ ?_; first | omega | (simp only [List.length_append, List.length_cons, List.length_nil, List.length_map, List.length_take, List.length_drop, List.length_replicate, List.length_set]; omega)) | with_reducible refine altF ?_ | with_reducible refine all fun _ => ?_ | with_reducible refine both ?_ ?_ | (with_reducible refine choT ?_ ?_; omega) | (with_reducible refine choF ?_ ?_; omega) | with_reducible refine cho (fun _ => ?_) (fun _ => ?_))
  rename_i bv a b _ _ _ _
  rw [s1, decide_eq_true (rfl : sha [] = sha [])]
  refine loopI (β := Nat × Value × Value × List En × Int × List UInt8 × Int) (fun x => x.1 ≤ 40 ∧ memI x.2.2.2.1 x.2.2.2.2.1 ∧ 0 ≤ x.2.2.2.2.1 ∧ x.2.2.2.2.1 ≤ x.1 + 1 ∧ x.2.2.2.2.2.1.length = 32) (fun x => [.lst 4 (l.map En.av) m, ptrAt bv 0, ptrAt a 0, ptrAt b 0, B true, I .i64 (x.1 : Nat)]) (fun x => [.var bv EnT_ (En.cs ⟨bad.key, bad.val, bad.del, x.2.2.2.2.2.2⟩)] ++ (memS a x.2.1 x.2.2.2.1 (max 1 x.2.2.2.2.1) x.2.2.2.2.2.1 ++ memS b x.2.2.1 x.2.2.2.1 x.2.2.2.2.1 x.2.2.2.2.2.1)) (fun x => 40 - x.1) (0, .slice none 0 0, .slice none 0 0, [], 0, sha [], bad.seq) ⟨by omega, memI0 0, Int.le_refl _, by dsimp only; omega, h32⟩ ?_ ?_
  · dsimp only
    rw [show max (1 : Int) 0 = 1 from rfl]
    simp only [memS, List.cons_append, List.nil_append]
    exact subS _
  rintro ⟨i, v, v', n, s, c, q⟩ ⟨h1, h2, h3, h4, h5⟩
  dsimp only at h1 h2 h3 h4 h5 ⊢
  haveI : Len32 c := ⟨h5⟩
  have h2a : memI n (max 1 s) := ⟨h2.1, fun x hx => Int.le_trans (h2.2.1 x hx) (by omega), h2.2.2⟩
  by_cases hi1 : i < l.length ∧ i < 40
  · obtain ⟨k1, k2⟩ := hi1
    have hI := putI (e := ⟨(cutE 130 1030 (l.getD i default)).key, (cutE 130 1030 (l.getD i default)).val, (cutE 130 1030 (l.getD i default)).del, ((i + 2 : Nat) : Int)⟩) h2
    have hIa := putI (e := ⟨(cutE 130 1030 (l.getD i default)).key, (cutE 130 1030 (l.getD i default)).val, (cutE 130 1030 (l.getD i default)).del, ((i + 2 : Nat) : Int)⟩) h2a
    have hq : (⟨(cutE 130 1030 (l.getD i default)).key, (cutE 130 1030 (l.getD i default)).val, (cutE 130 1030 (l.getD i default)).del, ((i + 2 : Nat) : Int)⟩ : En).seq = ((i + 2 : Nat) : Int) := rfl
    obtain ⟨E, hE⟩ : ∃ E : En, E = ⟨(cutE 130 1030 (l.getD i default)).key, (cutE 130 1030 (l.getD i default)).val, (cutE 130 1030 (l.getD i default)).del, ((i + 2 : Nat) : Int)⟩ := ⟨_, rfl⟩
    rw [← hE] at hI hIa hq
    have hX : putX n (max 1 s) E = putX n s E := by
      unfold putX
      have e1 : ¬ E.seq ≤ max 1 s := by omega
      have e2 : ¬ E.seq ≤ s := by omega
      simp only [e1, e2]
    have hLa : putL n (max 1 s) E = putL n s E := by unfold putL; rw [hX]
    have hCa : putC n (max 1 s) c E = putC n s c E := by unfold putC; rw [hX]
    have hSa : putS n (max 1 s) E = max 1 (putS n s E) := by
      unfold putS; rw [hX]
      split <;> omega
    have hS1 : putS n s E ≤ i + 2 := by unfold putS; split <;> omega
    have hS0 : 0 ≤ putS n s E := by unfold putS; split <;> omega
    have z : putX (putL n s E) (putS n s E) ⟨bad.key, bad.val, bad.del, putS n s E⟩ = 1 := by
      unfold putX
      rw [if_neg]
      rintro ⟨_, h⟩
      exact h (Int.le_refl _)
    have zn : ¬ putX (putL n s E) (putS n s E) ⟨bad.key, bad.val, bad.del, putS n s E⟩ = 0 := by rw [z]; decide
    have hLb := putL_err zn
    have hSb := putS_err zn
    have hCb : putC (putL n s E) (putS n s E) (putC n s c E) ⟨bad.key, bad.val, bad.del, putS n s E⟩ = putC n s c E := by unfold putC; rw [if_neg zn]
    have hI2 := putI (e := ⟨bad.key, bad.val, bad.del, putS n s E⟩) hI
    have c1 : putC n (max 1 s) c E = putC (putL n s E) (putS n s E) (putC n s c E) ⟨bad.key, bad.val, bad.del, putS n s E⟩ := by rw [hCa, hCb]
    have c2 : putS n (max 1 s) E = max 1 (putS (putL n s E) (putS n s E) ⟨bad.key, bad.val, bad.del, putS n s E⟩) := by rw [hSa, hSb]
    have w1 : (putC n (max 1 s) c E).length = 32 := Len32.len
    have w2 : (putC (putL n s E) (putS n s E) (putC n s c E) ⟨bad.key, bad.val, bad.del, putS n s E⟩).length = 32 := Len32.len
    subst hE
    by_cases hX0 : putX n s ⟨(cutE 130 1030 (l.getD i default)).key, (cutE 130 1030 (l.getD i default)).val, (cutE 130 1030 (l.getD i default)).del, ((i + 2 : Nat) : Int)⟩ = 0
    · have hXa := hX.trans hX0
      repeat' (first | with_reducible apply Stp.go | with_reducible refine imp fun _ => ?_ | (with_reducible refine hyp ?_ ?_; first | assumption | exact leftT_mem (by assumption)) | (with_reducible refine need ?_ ?_; first | trivial | omega | exact ⟨by assumption, by omega⟩ | (simp only [List.length_append, List.length_cons, List.length_nil, List.length_map, List.length_take, List.length_drop, List.length_replicate, List.length_set]; omega)) | (with_reducible refine fact ?_ ?_; first | trivial | exact ⟨rfl, rfl⟩ | kernel_rfl) | with_reducible refine choT (by assumption) ?_ | with_reducible refine choF (by assumption) ?_ | with_reducible refine choF' (by assumption) ?_ | (with_reducible refine altT ?_ ?_; first | omega | (simp only [List.length_append, List.length_cons, List.length_nil, List.length_map, List.length_take, List.length_drop, List.length_replicate, List.length_set]; omega)) | with_reducible refine altF ?_ | with_reducible refine all fun _ => ?_ | with_reducible refine both ?_ ?_ | (with_reducible refine choT ?_ ?_; omega) | (with_reducible refine choF ?_ ?_; omega) | with_reducible refine cho (fun _ => ?_) (fun _ => ?_))
      refine joinE ?_
      repeat' (first | with_reducible apply Stp.go | with_reducible refine imp fun _ => ?_ | (with_reducible refine hyp ?_ ?_; first | assumption | exact leftT_mem (by assumption)) | (with_reducible refine need ?_ ?_; first | trivial | omega | exact ⟨by assumption, by omega⟩ | (simp only [List.length_append, List.length_cons, List.length_nil, List.length_map, List.length_take, List.length_drop, List.length_replicate, List.length_set]; omega)) | (with_reducible refine fact ?_ ?_; first | trivial | exact ⟨rfl, rfl⟩ | kernel_rfl) | with_reducible refine choT (by assumption) ?_ | with_reducible refine choF (by assumption) ?_ | with_reducible refine choF' (by assumption) ?_ | (with_reducible refine altT ?_ ?_; first | omega | (simp only [List.length_append, List.length_cons, List.length_nil, List.length_map, List.length_take, List.length_drop, List.length_replicate, List.length_set]; omega)) | with_reducible refine altF ?_ | with_reducible refine all fun _ => ?_ | with_reducible refine both ?_ ?_ | (with_reducible refine choT ?_ ?_; omega) | (with_reducible refine choF ?_ ?_; omega) | with_reducible refine cho (fun _ => ?_) (fun _ => ?_))
      all_goals first
        | (rename_i va vb _ vb2 _ w _ _ _ _
           generalize (⟨(cutE 130 1030 (l.getD i default)).key, (cutE 130 1030 (l.getD i default)).val, (cutE 130 1030 (l.getD i default)).del, ((i + 2 : Nat) : Int)⟩ : En) = E at *
           rw [hLb, hSb, hCb, hLa, hSa, hCa]
           refine again (i + 1, va, vb2, putL n s E, putS n s E, putC n s c E, putS n s E) (by dsimp only; omega) ⟨by dsimp only; omega, hI, hS0, by dsimp only; omega, Len32.len⟩ ?_
           simp only [memS, List.cons_append, List.nil_append]
           exact subS _)
    · have hXa := fun h => hX0 (hX.symm.trans h)
      have hCc : putC (putL n s ⟨(cutE 130 1030 (l.getD i default)).key, (cutE 130 1030 (l.getD i default)).val, (cutE 130 1030 (l.getD i default)).del, ((i + 2 : Nat) : Int)⟩) (putS n s ⟨(cutE 130 1030 (l.getD i default)).key, (cutE 130 1030 (l.getD i default)).val, (cutE 130 1030 (l.getD i default)).del, ((i + 2 : Nat) : Int)⟩) (putC n s c ⟨(cutE 130 1030 (l.getD i default)).key, (cutE 130 1030 (l.getD i default)).val, (cutE 130 1030 (l.getD i default)).del, ((i + 2 : Nat) : Int)⟩) ⟨bad.key, bad.val, bad.del, putS n s ⟨(cutE 130 1030 (l.getD i default)).key, (cutE 130 1030 (l.getD i default)).val, (cutE 130 1030 (l.getD i default)).del, ((i + 2 : Nat) : Int)⟩⟩ = c := by rw [hCb]; unfold putC; rw [if_neg hX0]
      repeat' (first | with_reducible apply Stp.go | with_reducible refine imp fun _ => ?_ | (with_reducible refine hyp ?_ ?_; first | assumption | exact leftT_mem (by assumption)) | (with_reducible refine need ?_ ?_; first | trivial | omega | exact ⟨by assumption, by omega⟩ | (simp only [List.length_append, List.length_cons, List.length_nil, List.length_map, List.length_take, List.length_drop, List.length_replicate, List.length_set]; omega)) | (with_reducible refine fact ?_ ?_; first | trivial | exact ⟨rfl, rfl⟩ | kernel_rfl) | with_reducible refine choT (by assumption) ?_ | with_reducible refine choF (by assumption) ?_ | with_reducible refine choF' (by assumption) ?_ | (with_reducible refine altT ?_ ?_; first | omega | (simp only [List.length_append, List.length_cons, List.length_nil, List.length_map, List.length_take, List.length_drop, List.length_replicate, List.length_set]; omega)) | with_reducible refine altF ?_ | with_reducible refine all fun _ => ?_ | with_reducible refine both ?_ ?_ | (with_reducible refine choT ?_ ?_; omega) | (with_reducible refine choF ?_ ?_; omega) | with_reducible refine cho (fun _ => ?_) (fun _ => ?_))
      refine joinE ?_
      repeat' (first | with_reducible apply Stp.go | with_reducible refine imp fun _ => ?_ | (with_reducible refine hyp ?_ ?_; first | assumption | exact leftT_mem (by assumption)) | (with_reducible refine need ?_ ?_; first | trivial | omega | exact ⟨by assumption, by omega⟩ | (simp only [List.length_append, List.length_cons, List.length_nil, List.length_map, List.length_take, List.length_drop, List.length_replicate, List.length_set]; omega)) | (with_reducible refine fact ?_ ?_; first | trivial | exact ⟨rfl, rfl⟩ | kernel_rfl) | with_reducible refine choT (by assumption) ?_ | with_reducible refine choF (by assumption) ?_ | with_reducible refine choF' (by assumption) ?_ | (with_reducible refine altT ?_ ?_; first | omega | (simp only [List.length_append, List.length_cons, List.length_nil, List.length_map, List.length_take, List.length_drop, List.length_replicate, List.length_set]; omega)) | with_reducible refine altF ?_ | with_reducible refine all fun _ => ?_ | with_reducible refine both ?_ ?_ | (with_reducible refine choT ?_ ?_; omega) | (with_reducible refine choF ?_ ?_; omega) | with_reducible refine cho (fun _ => ?_) (fun _ => ?_))
      all_goals first
        | exact absurd hCc (by assumption)
        | (rename_i va vb _ vb2 _ w _ _ _ _
           generalize (⟨(cutE 130 1030 (l.getD i default)).key, (cutE 130 1030 (l.getD i default)).val, (cutE 130 1030 (l.getD i default)).del, ((i + 2 : Nat) : Int)⟩ : En) = E at *
           rw [hLb, hSb, hCb, hLa, hSa, hCa]
           refine again (i + 1, va, vb2, putL n s E, putS n s E, putC n s c E, putS n s E) (by dsimp only; omega) ⟨by dsimp only; omega, hI, hS0, by dsimp only; omega, Len32.len⟩ ?_
           simp only [memS, List.cons_append, List.nil_append]
           exact subS _)
        | (rename_i va vb _ vb2 _ w _ _ _ _ _ _
           generalize (⟨(cutE 130 1030 (l.getD i default)).key, (cutE 130 1030 (l.getD i default)).val, (cutE 130 1030 (l.getD i default)).del, ((i + 2 : Nat) : Int)⟩ : En) = E at *
           rw [hLb, hSb, hCb, hLa, hSa, hCa]
           refine again (i + 1, va, vb2, putL n s E, putS n s E, putC n s c E, putS n s E) (by dsimp only; omega) ⟨by dsimp only; omega, hI, hS0, by dsimp only; omega, Len32.len⟩ ?_
           simp only [memS, List.cons_append, List.nil_append]
           exact subS _)
  · repeat' (first | with_reducible apply Stp.go | with_reducible refine imp fun _ => ?_ | (with_reducible refine hyp ?_ ?_; first | assumption | exact leftT_mem (by assumption)) | (with_reducible refine need ?_ ?_; first | trivial | omega | exact ⟨by assumption, by omega⟩ | (simp only [List.length_append, List.length_cons, List.length_nil, List.length_map, List.length_take, List.length_drop, List.length_replicate, List.length_set]; omega)) | (with_reducible refine fact ?_ ?_; first | trivial | exact ⟨rfl, rfl⟩ | kernel_rfl) | with_reducible refine choT (by assumption) ?_ | with_reducible refine choF (by assumption) ?_ | with_reducible refine choF' (by assumption) ?_ | (with_reducible refine altT ?_ ?_; first | omega | (simp only [List.length_append, List.length_cons, List.length_nil, List.length_map, List.length_take, List.length_drop, List.length_replicate, List.length_set]; omega)) | with_reducible refine altF ?_ | with_reducible refine all fun _ => ?_ | with_reducible refine both ?_ ?_ | (with_reducible refine choT ?_ ?_; omega) | (with_reducible refine choF ?_ ?_; omega) | with_reducible refine cho (fun _ => ?_) (fun _ => ?_))
    all_goals first | (exfalso; omega) | skip
    all_goals exact ⟨_, _, _, rfl, Sub.app_nil _, rfl, rfl⟩
end Go.Ab
