/- Reading a block: all its entries. -/
import Derived.Test.YtopmpooglnfalaaF20
import Derived.Test.YtopmpooglnfalaaF17
set_option linter.unusedVariables false
set_option linter.unusedSimpArgs false
namespace Go.Ab
def block_entries.mark : Mark := ⟨fun t => false, fun t => false, fun t => false, fun t => false, fun t => false⟩
def block_entries.ann : Ann := ⟨fun n => bif Nat.beq n 3 then [1, 2, 3, 4] else [], fun n => bif Nat.beq n 9 then some [1, 2, 3, 4, 6] else none, fun n => none⟩
/-- 'marlstone/block.entries' -/
def block_entries.sh (a0 : AV) (σ : Store) (Q : AEnd → Store → Prop) : Prop :=
  aNewVar 93 (a0 : AV).cells σ fun t1 σ =>
  aNewVar 22 [.val (.slice none 0 0)] σ fun t2 σ_1 =>
  aNewVar 4 [.val (.bool false)] σ_1 fun t3 σ_2 =>
  capU [t2, t3] fun cs =>
  aLoop (fun go vs σ_3 =>
    At vs 0 fun s1 => At vs 1 fun s2 => At vs 2 fun s3 => At vs 3 fun s4 => Do (loadA false 1 s1 σ_3) fun t8 =>
    Do (aBuiltin Go.Proofs.Try.prog .len #[93] [t8]) fun t9 =>
    Do (aBin Go.Proofs.Try.prog .gtr 3 t9 (.val (.int .i64 0))) fun t10 =>
    Do (aGuard t10 true (loadA false 1 s2 σ_3)) fun t12 =>
    Do (aGuard t10 true (aBuiltin Go.Proofs.Try.prog .len #[22] [t12])) fun t13 =>
    Do (aGuard t10 true (aBin Go.Proofs.Try.prog .leq 3 t13 (.val (.int .i64 64)))) fun t14 =>
    Do (aPick t10 t14 (.val (.bool false))) fun t15 =>
    aCond t15
      (Do (aBuiltin Go.Proofs.Try.prog .len #[9] [s4]) fun t17 =>
    Do (fun x => aConvN 3 63 t17 x Go.Proofs.Try.prog) fun t18 =>
    aCall Go.Proofs.Try.prog 76 [s1, t18] σ_3 (fun t19 σ_4 =>
    Do (aSlice .string 1 s4 none (some t19) none) fun t22 =>
    aCall Go.Proofs.Try.prog 77 [s1] σ_4 (fun t23 σ_5 =>
    Do (aBin Go.Proofs.Try.prog .add 9 t22 t23) fun t24 =>
    aCall Go.Proofs.Try.prog 78 [s1] σ_5 (fun t26 σ_6 =>
    aCall Go.Proofs.Try.prog 76 [s1, (W64 1099511627776)] σ_6 (fun t27 σ_7 =>
    Do (aLit [.val (.string ⟨#[]⟩), .val (.string ⟨#[]⟩), .val (.bool false), .val (.int .i64 0)] [(0, 1), (1, 1), (2, 1), (3, 1)] [(0, t24), (2, t26), (3, t27)]) fun t28 =>
    aNewVar 35 [.val (.string ⟨#[]⟩), .val (.string ⟨#[]⟩), .val (.bool false), .val (.int .i64 0)] σ_7 fun t6 σ_8 =>
    storeA 4 t6 t28 σ_8 fun u σ_9 =>
    aJoin (fun j =>
      Do (aFieldAddr 2 1 t6) fun t29 =>
      Do (loadA false 1 t29 σ_9) fun t30 =>
      Do (aUn Go.Proofs.Try.prog .not t30) fun t31 =>
      aCond t31
        (aCall Go.Proofs.Try.prog 77 [s1] σ_9 (fun t32 σ_11 =>
        Do (aFieldAddr 1 1 t6) fun t33 =>
        storeA 1 t33 t32 σ_11 fun u_1 σ_12 =>
        j [s1, s2, s3, t24, t6] σ_12) (fun e σ_13 => DCalls Go.Proofs.Try.prog 75 cs (some e) σ_13 fun σ_14 => Do (loadA false 1 s2 σ_14) fun r2 => Do (loadA false 1 s3 σ_14) fun r3 => Q (.ret (.tuple [r2, r3])) σ_14))
        (j [s1, s2, s3, t24, t6] σ_9)) fun vs_1 σ_10 =>
    At vs_1 0 fun s1_1 => At vs_1 1 fun s2_1 => At vs_1 2 fun s3_1 => At vs_1 3 fun s4_1 => At vs_1 4 fun s6 => Do (loadA false 1 s2_1 σ_10) fun t34 =>
    Do (loadA true 4 s6 σ_10) fun t35 =>
    Do (aSlLit (mkE [.val (.string ⟨#[]⟩), .val (.string ⟨#[]⟩), .val (.bool false), .val (.int .i64 0)]) 4 1 [(0, t35)]) fun t36 =>
    aAppend 35 4 48 t34 t36 σ_10 (subK fun t37 σ_15 =>
    storeA 1 s2_1 t37 σ_15 fun u_2 σ_16 =>
    go [s1_1, s2_1, s3_1, s4_1] σ_16)) (fun e_1 σ_17 => DCalls Go.Proofs.Try.prog 75 cs (some e_1) σ_17 fun σ_18 => Do (loadA false 1 s2 σ_18) fun r2_1 => Do (loadA false 1 s3 σ_18) fun r3_1 => Q (.ret (.tuple [r2_1, r3_1])) σ_18)) (fun e_2 σ_19 => DCalls Go.Proofs.Try.prog 75 cs (some e_2) σ_19 fun σ_20 => Do (loadA false 1 s2 σ_20) fun r2_2 => Do (loadA false 1 s3 σ_20) fun r3_2 => Q (.ret (.tuple [r2_2, r3_2])) σ_20)) (fun e_3 σ_21 => DCalls Go.Proofs.Try.prog 75 cs (some e_3) σ_21 fun σ_22 => Do (loadA false 1 s2 σ_22) fun r2_3 => Do (loadA false 1 s3 σ_22) fun r3_3 => Q (.ret (.tuple [r2_3, r3_3])) σ_22)) (fun e_4 σ_23 => DCalls Go.Proofs.Try.prog 75 cs (some e_4) σ_23 fun σ_24 => Do (loadA false 1 s2 σ_24) fun r2_4 => Do (loadA false 1 s3 σ_24) fun r3_4 => Q (.ret (.tuple [r2_4, r3_4])) σ_24))
      (Do (loadA false 1 s2 σ_3) fun t38 =>
  storeA 1 s2 t38 σ_3 fun u_3 σ_25 =>
  storeA 1 s3 (.val (.bool true)) σ_25 fun u_4 σ_26 =>
  DCalls Go.Proofs.Try.prog 75 cs none σ_26 fun σ_27 => Do (loadA false 1 s2 σ_27) fun r2_5 => Do (loadA false 1 s3 σ_27) fun r3_5 => Q (.ret (.tuple [r2_5, r3_5])) σ_27))
    [t1, t2, t3, (.val (.string ⟨#[]⟩))] σ_2
theorem block_entries.eq (a0 : AV) (σ : Store) (Q : AEnd → Store → Prop) : vc (semOf Go.Proofs.Try.prog block_entries.mark) Go.Proofs.Try.f57.ntmps block_entries.ann (c1 (bodyOf Go.Proofs.Try.f57)) (midD (semOf Go.Proofs.Try.prog block_entries.mark) Go.Proofs.Try.f57.ntmps block_entries.ann (c2 (c2 (bodyOf Go.Proofs.Try.f57))) 75 [2, 3] 7 [.cell 2 false 1, .cell 3 false 1] Q) (argFr [a0]) σ = block_entries.sh a0 σ Q := by kernel_rfl
theorem block_entries.r1 : ∃ id ty pos after ty2 pos2 after2, c1 (c2 (bodyOf Go.Proofs.Try.f57)) = deferR 75 7 [2, 3] id ty pos after ty2 pos2 after2 := ⟨_, _, _, _, _, _, _, rfl⟩
theorem block_entries.go {a0 : AV} {σ : Store} {Q : AEnd → Store → Prop} (h : block_entries.sh a0 σ Q) : ACalls Go.Proofs.Try.prog 57 [a0] σ Q :=
  acalls_defer [.cell 2 false 1, .cell 3 false 1] [2, 3] 7 Go.Proofs.Try.func57 (by kernel_rfl) (by kernel_rfl) (by kernel_rfl) (by kernel_rfl) (by kernel_rfl) block_entries.r1 ⟨_, _, Go.Proofs.Try.func75, rfl, by kernel_rfl⟩ ((block_entries.eq a0 σ Q).mpr h)
def ref04_entries.mark : Mark := ⟨fun t => Nat.beq t 29 || Nat.beq t 46 || Nat.beq t 82 || Nat.beq t 109, fun t => false, fun t => false, fun t => false, fun t => false⟩
def ref04_entries.ann : Ann := ⟨fun n => bif Nat.beq n 3 then [0, 4, 5] else [], fun n => bif Nat.beq n 23 then some [0, 4, 16] else none, fun n => none⟩
/-- 'marlstone/marlstoneref04.entries' -/
def ref04_entries.sh (a0 : AV) (σ : Store) (Q : AEnd → Store → Prop) : Prop :=
  aLoop (fun go vs σ =>
    At vs 0 fun s0 => At vs 1 fun s4 => At vs 2 fun s5 => Do (aBin Go.Proofs.Try.prog .neq 9 s0 (.val (.string ⟨#[]⟩))) fun t21 =>
    Do (aGuard t21 true (aIs s4)) fun t23 =>
    Do (aGuard t21 true (aBuiltin Go.Proofs.Try.prog .len #[22] [t23])) fun t24 =>
    Do (aGuard t21 true (aBin Go.Proofs.Try.prog .leq 3 t24 (.val (.int .i64 64)))) fun t25 =>
    Do (aPick t21 t25 (.val (.bool false))) fun t26 =>
    aCond t26
      (Do (aPureC Go.Proofs.Try.prog 69 [s0]) fun t29 =>
    Do (aExt t29 0) fun t30 =>
    Do (aExt t29 1) fun t31 =>
    Do (aExt t29 2) fun t32 =>
    Do (aUn Go.Proofs.Try.prog .not t32) fun t34 =>
    Do (aGuard t34 false (aIs t30)) fun t36 =>
    Do (aGuard t34 false (aIs s5)) fun t37 =>
    Do (aGuard t34 false (aBuiltin Go.Proofs.Try.prog .len #[9] [t37])) fun t38 =>
    Do (aGuard t34 false (fun x => aConvN 3 63 t38 x Go.Proofs.Try.prog)) fun t39 =>
    Do (aGuard t34 false (aBin Go.Proofs.Try.prog .gtr 63 t36 t39)) fun t40 =>
    Do (aPick t34 (.val (.bool true)) t40) fun t41 =>
    aCond t41
      (Q (.ret (.tuple [(.val (.slice none 0 0)), (.val (.bool false))])) σ)
      (Do (aSlice .string 1 s0 (some t31) none none) fun t45 =>
    Do (aPureC Go.Proofs.Try.prog 70 [t45]) fun t46 =>
    Do (aExt t46 0) fun t47 =>
    Do (aExt t46 1) fun t48 =>
    Do (aExt t46 2) fun t49 =>
    Do (aUn Go.Proofs.Try.prog .not t49) fun t51 =>
    Do (aGuard t51 false (aIs t31)) fun t53 =>
    Do (aGuard t51 false (aIs t48)) fun t54 =>
    Do (aGuard t51 false (aBin Go.Proofs.Try.prog .add 3 t53 t54)) fun t55 =>
    Do (aGuard t51 false (aIs s0)) fun t56 =>
    Do (aGuard t51 false (aBuiltin Go.Proofs.Try.prog .len #[9] [t56])) fun t57 =>
    Do (aGuard t51 false (aBin Go.Proofs.Try.prog .geq 3 t55 t57)) fun t58 =>
    Do (aPick t51 (.val (.bool true)) t58) fun t59 =>
    Do (aGuard t59 false (aIs s0)) fun t61 =>
    Do (aGuard t59 false (aIs t31)) fun t62 =>
    Do (aGuard t59 false (aIs t48)) fun t63 =>
    Do (aGuard t59 false (aBin Go.Proofs.Try.prog .add 3 t62 t63)) fun t64 =>
    Do (aGuard t59 false (aIndex .string false 1 t61 t64)) fun t65 =>
    Do (aGuard t59 false (aBin Go.Proofs.Try.prog .gtr 5 t65 (W8 1))) fun t66 =>
    Do (aPick t59 (.val (.bool true)) t66) fun t67 =>
    aCond t67
      (Q (.ret (.tuple [(.val (.slice none 0 0)), (.val (.bool false))])) σ)
      (Do (aBin Go.Proofs.Try.prog .add 3 t31 t48) fun t71 =>
    Do (aIndex .string false 1 s0 t71) fun t72 =>
    Do (aBin Go.Proofs.Try.prog .eql 5 t72 (W8 1)) fun t73 =>
    Do (aBin Go.Proofs.Try.prog .add 3 t31 t48) fun t77 =>
    Do (aBin Go.Proofs.Try.prog .add 3 t77 (.val (.int .i64 1))) fun t78 =>
    Do (aSlice .string 1 s0 (some t78) none none) fun t79 =>
    Do (aPureC Go.Proofs.Try.prog 69 [t79]) fun t82 =>
    Do (aExt t82 0) fun t83 =>
    Do (aExt t82 1) fun t84 =>
    Do (aExt t82 2) fun t85 =>
    Do (aUn Go.Proofs.Try.prog .not t85) fun t87 =>
    Do (aGuard t87 false (aIs t83)) fun t89 =>
    Do (aGuard t87 false (aBin Go.Proofs.Try.prog .gtr 63 t89 (W64 1099511627776))) fun t90 =>
    Do (aPick t87 (.val (.bool true)) t90) fun t91 =>
    aCond t91
      (Q (.ret (.tuple [(.val (.slice none 0 0)), (.val (.bool false))])) σ)
      (Do (aSlice .string 1 t79 (some t84) none none) fun t94 =>
    Do (fun x => aConvN 63 3 t30 x Go.Proofs.Try.prog) fun t97 =>
    Do (aSlice .string 1 s5 none (some t97) none) fun t98 =>
    Do (aBin Go.Proofs.Try.prog .add 9 t98 t47) fun t100 =>
    Do (fun x => aConvN 63 3 t83 x Go.Proofs.Try.prog) fun t103 =>
    Do (aLit [.val (.string ⟨#[]⟩), .val (.string ⟨#[]⟩), .val (.bool false), .val (.int .i64 0)] [(0, 1), (1, 1), (2, 1), (3, 1)] [(0, t100), (2, t73), (3, t103)]) fun t104 =>
    aNewVar 35 [.val (.string ⟨#[]⟩), .val (.string ⟨#[]⟩), .val (.bool false), .val (.int .i64 0)] σ fun t16 σ_1 =>
    storeA 4 t16 t104 σ_1 fun u σ_2 =>
    aJoin (fun j =>
      Do (aUn Go.Proofs.Try.prog .not t73) fun t106 =>
      aCond t106
        (Do (aPureC Go.Proofs.Try.prog 70 [t94]) fun t109 =>
        Do (aExt t109 0) fun t110 =>
        Do (aExt t109 1) fun t111 =>
        Do (aExt t109 2) fun t112 =>
        Do (aUn Go.Proofs.Try.prog .not t112) fun t114 =>
        aCond t114
          (Q (.ret (.tuple [(.val (.slice none 0 0)), (.val (.bool false))])) σ_2)
          (Do (aFieldAddr 1 1 t16) fun t116 =>
        storeA 1 t116 t110 σ_2 fun u_1 σ_4 =>
        Do (aSlice .string 1 t94 (some t111) none none) fun t119 =>
        j [t119, s4, t16] σ_4))
        (j [t94, s4, t16] σ_2)) fun vs_1 σ_3 =>
    At vs_1 0 fun s0_1 => At vs_1 1 fun s4_1 => At vs_1 2 fun s16 => Do (loadA true 4 s16 σ_3) fun t121 =>
    Do (aSlLit (mkE [.val (.string ⟨#[]⟩), .val (.string ⟨#[]⟩), .val (.bool false), .val (.int .i64 0)]) 4 1 [(0, t121)]) fun t122 =>
    aAppend 35 4 48 s4_1 t122 σ_3 (subK fun t123 σ_5 =>
    Do (aFieldAddr 0 1 s16) fun t124 =>
    Do (loadA false 1 t124 σ_5) fun t125 =>
    go [s0_1, t123, t125] σ_5)))))
      (Q (.ret (.tuple [s4, (.val (.bool true))])) σ))
    [a0, (.val (.slice none 0 0)), (.val (.string ⟨#[]⟩))] σ
theorem ref04_entries.eq (a0 : AV) (σ : Store) (Q : AEnd → Store → Prop) : vc (semOf Go.Proofs.Try.prog ref04_entries.mark) Go.Proofs.Try.f60.ntmps ref04_entries.ann (bodyOf Go.Proofs.Try.f60) (endK [.tmp 2, .tmp 3] Q) (argFr [a0]) σ = ref04_entries.sh a0 σ Q := by kernel_rfl
theorem ref04_entries.go {a0 : AV} {σ : Store} {Q : AEnd → Store → Prop} (h : ref04_entries.sh a0 σ Q) : ACalls Go.Proofs.Try.prog 60 [a0] σ Q :=
  acalls_of_eq [.tmp 2, .tmp 3] Go.Proofs.Try.func60 (by kernel_rfl) (by kernel_rfl) (by kernel_rfl) (by kernel_rfl) (ref04_entries.eq a0 σ Q) h
theorem ents_fail {s0 : List UInt8} {σ : Store} (h : entsG s0 = none) : ∃ u u1 τ, AEnd.ret (.tuple [.val (.slice none 0 0), B false]) = .ret u ∧ Sub σ [u] τ [u1] ∧ AEnd.ret u1 = .ret (.tuple [.lst 4 ((entsV s0).map En.av) .ro, B (entsO s0)]) ∧ τ = [] :=
  ⟨_, _, _, rfl, Sub.tuple (retNil En.av (sz := 4) (by decide) (Sub.app_nil _)), by simp [entsV, entsO, h], rfl⟩
theorem ents_done {s0 : List UInt8} {σ rest : Store} {v : Value} {E : TypeId} {fl n : Nat} {l : List En} {put : Ent → Store} [hr : RowAt v σ E 4 (l.map En.av) fl put rest] (h : entsG s0 = some l) : ∃ u u1 τ, AEnd.ret (.tuple [.own v n, B true]) = .ret u ∧ Sub σ [u] τ [u1] ∧ AEnd.ret u1 = .ret (.tuple [.lst 4 ((entsV s0).map En.av) .ro, B (entsO s0)]) ∧ τ = [] :=
  ⟨_, _, _, rfl, Sub.tuple (retOwn (Sub.app_nil _)), by simp [entsV, entsO, h], rfl⟩
set_option maxHeartbeats 2000000 in
theorem block_entries_ok (s0 : List UInt8) (m : SM) (hl : s0.length ≤ 1000000000000) : aPure Go.Proofs.Try.prog 57 [.lst 1 (s0.map byt) m] (.tuple [.lst 4 ((entsV s0).map En.av) .ro, B (entsO s0)]) := by
  refine ACalls.fin (block_entries.go ?_)
  unfold block_entries.sh
  repeat' (first | with_reducible apply Stp.go | with_reducible refine imp fun _ => ?_ | (with_reducible refine hyp ?_ ?_; first | assumption | exact leftT_mem (by assumption)) | (with_reducible refine need ?_ ?_; first | trivial | omega | (simp only [List.length_append, List.length_cons, List.length_nil, List.length_map, List.length_take, List.length_drop, List.length_replicate]; omega)) | (with_reducible refine fact ?_ ?_; first | trivial | exact ⟨rfl, rfl⟩ | kernel_rfl) | with_reducible refine choT (by assumption) ?_ | with_reducible refine choF (by assumption) ?_ | with_reducible refine choF' (by assumption) ?_ | (with_reducible refine altT ?_ ?_; first | omega | (simp only [List.length_append, List.length_cons, List.length_nil, List.length_map, List.length_take, List.length_drop, List.length_replicate]; omega)) | with_reducible refine altF ?_ | with_reducible refine all fun _ => ?_ | with_reducible refine both ?_ ?_ | (with_reducible refine choT ?_ ?_; omega) | (with_reducible refine choF ?_ ?_; omega) | with_reducible refine cho (fun _ => ?_) (fun _ => ?_))
  rename_i b1 b2 b3
  refine loopI (β := List UInt8 × List UInt8 × List En × Value × SM) (fun x => x.2.2.1.length ≤ 65 ∧ x.1.length + x.2.1.length ≤ s0.length ∧ entsA (65 - x.2.2.1.length) x.1 x.2.1 x.2.2.1 = entsG s0)
    (fun x => [ptrAt b1 0, ptrAt b2 0, ptrAt b3 0, S x.1]) (fun x => [.row x.2.2.2.1 35 4 (x.2.2.1.map En.av) 0, .var b3 4 [B false], .var b2 22 [.own x.2.2.2.1 x.2.2.1.length], .var b1 93 [.lst 1 (x.2.1.map byt) x.2.2.2.2]])
    (fun x => 65 - x.2.2.1.length) ([], s0, [], .slice none 0 0, m) ⟨by simp, by simp, rfl⟩ ?_ ?_
  · exact Sub.nilV b2 (σ := [.var b3 4 [B false], .var b2 22 [.val (.slice none 0 0)], .var b1 93 [.lst 1 (s0.map byt) m]]) 35 (sz := 4) (by decide) [] [] rfl _
  rintro ⟨k, s, l, v, m⟩ ⟨h1, h2, h3⟩
  dsimp only at h1 h2 h3 ⊢
  have hku : (UInt64.ofNat k.length).toNat = k.length := u64_len (by omega)
  have hM : (1099511627776 : UInt64).toNat = 1099511627776 := rfl
  obtain ⟨a1, a2, a3, a4⟩ := get_bound (s := s)
  obtain ⟨s1, hs1⟩ : ∃ x, x = s.drop (getN s) := ⟨_, rfl⟩
  obtain ⟨c1, c2, c3⟩ := text_bound (s := s1)
  have c4 := text_le s1
  obtain ⟨s2, hs2⟩ : ∃ x, x = s1.drop (textN s1) := ⟨_, rfl⟩
  obtain ⟨s3, hs3⟩ : ∃ x, x = s2.drop 1 := ⟨_, rfl⟩
  obtain ⟨d1, d2, d3, d4⟩ := get_bound (s := s3)
  obtain ⟨s4, hs4⟩ : ∃ x, x = s3.drop (getN s3) := ⟨_, rfl⟩
  obtain ⟨g1, g2, g3⟩ := text_bound (s := s4)
  have l1 : s1.length + getN s = s.length := by rw [hs1, List.length_drop]; omega
  have l2 : s2.length + textN s1 = s1.length := by rw [hs2, List.length_drop]; omega
  have l3 : s3.length ≤ s2.length := by rw [hs3, List.length_drop]; omega
  have l4 : s4.length ≤ s3.length := by rw [hs4, List.length_drop]; omega
  have lk : (k.take (getV s)).length ≤ k.length := by rw [List.length_take]; omega
  subst hs4 hs3 hs2 hs1
  repeat' (first | with_reducible apply Stp.go | with_reducible refine imp fun _ => ?_ | (with_reducible refine hyp ?_ ?_; first | assumption | exact leftT_mem (by assumption)) | (with_reducible refine need ?_ ?_; first | trivial | omega | (simp only [List.length_append, List.length_cons, List.length_nil, List.length_map, List.length_take, List.length_drop, List.length_replicate]; omega)) | (with_reducible refine fact ?_ ?_; first | trivial | exact ⟨rfl, rfl⟩ | kernel_rfl) | with_reducible refine choT (by assumption) ?_ | with_reducible refine choF (by assumption) ?_ | with_reducible refine choF' (by assumption) ?_ | (with_reducible refine altT ?_ ?_; first | omega | (simp only [List.length_append, List.length_cons, List.length_nil, List.length_map, List.length_take, List.length_drop, List.length_replicate]; omega)) | with_reducible refine altF ?_ | with_reducible refine all fun _ => ?_ | with_reducible refine both ?_ ?_ | (with_reducible refine choT ?_ ?_; omega) | (with_reducible refine choF ?_ ?_; omega) | with_reducible refine cho (fun _ => ?_) (fun _ => ?_))
  · rename_i h0 hl h5 h6 h7 h8 b
    rw [hM] at h8
    rw [hku] at h5
    have e0 := entG_pos h5
    rw [entG1_pos h6, entG2_pos h7, entG3_pos h8] at e0
    refine joinE ?_
    cases hd : decide ((List.getD (List.drop (textN (List.drop (getN s) s)) (List.drop (getN s) s)) 0 default).toNat = 1) with
    | true =>
      rw [hd, entG4_del] at e0
      have ht : (true : Bool) = true := rfl
      repeat' (first | with_reducible apply Stp.go | with_reducible refine imp fun _ => ?_ | (with_reducible refine hyp ?_ ?_; first | assumption | exact leftT_mem (by assumption)) | (with_reducible refine need ?_ ?_; first | trivial | omega | (simp only [List.length_append, List.length_cons, List.length_nil, List.length_map, List.length_take, List.length_drop, List.length_replicate]; omega)) | (with_reducible refine fact ?_ ?_; first | trivial | exact ⟨rfl, rfl⟩ | kernel_rfl) | with_reducible refine choT (by assumption) ?_ | with_reducible refine choF (by assumption) ?_ | with_reducible refine choF' (by assumption) ?_ | (with_reducible refine altT ?_ ?_; first | omega | (simp only [List.length_append, List.length_cons, List.length_nil, List.length_map, List.length_take, List.length_drop, List.length_replicate]; omega)) | with_reducible refine altF ?_ | with_reducible refine all fun _ => ?_ | with_reducible refine both ?_ ?_ | (with_reducible refine choT ?_ ?_; omega) | (with_reducible refine choF ?_ ?_; omega) | with_reducible refine cho (fun _ => ?_) (fun _ => ?_))
      rename_i w
      exact again (_, _, l ++ [_], w, .ro) (by dsimp only; rw [List.length_append]; simp only [List.length_cons, List.length_nil]; omega) ⟨by dsimp only; rw [List.length_append]; simp only [List.length_cons, List.length_nil]; omega, by have := (entG_le e0).1; dsimp only at this ⊢; omega, (entsA_next hl h0 e0).trans h3⟩ (subS _)
    | false =>
      rw [hd] at e0
      have ht : (false : Bool) = false := rfl
      repeat' (first | with_reducible apply Stp.go | with_reducible refine imp fun _ => ?_ | (with_reducible refine hyp ?_ ?_; first | assumption | exact leftT_mem (by assumption)) | (with_reducible refine need ?_ ?_; first | trivial | omega | (simp only [List.length_append, List.length_cons, List.length_nil, List.length_map, List.length_take, List.length_drop, List.length_replicate]; omega)) | (with_reducible refine fact ?_ ?_; first | trivial | exact ⟨rfl, rfl⟩ | kernel_rfl) | with_reducible refine choT (by assumption) ?_ | with_reducible refine choF (by assumption) ?_ | with_reducible refine choF' (by assumption) ?_ | (with_reducible refine altT ?_ ?_; first | omega | (simp only [List.length_append, List.length_cons, List.length_nil, List.length_map, List.length_take, List.length_drop, List.length_replicate]; omega)) | with_reducible refine altF ?_ | with_reducible refine all fun _ => ?_ | with_reducible refine both ?_ ?_ | (with_reducible refine choT ?_ ?_; omega) | (with_reducible refine choF ?_ ?_; omega) | with_reducible refine cho (fun _ => ?_) (fun _ => ?_))
      · rename_i h9 w
        rw [entG4_pos h9] at e0
        exact again (_, _, l ++ [_], w, .ro) (by dsimp only; rw [List.length_append]; simp only [List.length_cons, List.length_nil]; omega) ⟨by dsimp only; rw [List.length_append]; simp only [List.length_cons, List.length_nil]; omega, by have := (entG_le e0).1; dsimp only at this ⊢; omega, (entsA_next hl h0 e0).trans h3⟩ (subS _)
      · rename_i h9 w
        rw [entG4_neg h9] at e0
        exact ents_fail (h3.symm.trans (entsA_stop hl h0 e0))
  · rename_i h0 hl h5 h6 h7 h8 b
    rw [hM] at h8
    rw [hku] at h5
    exact ents_fail (h3.symm.trans (entsA_stop hl h0 (by rw [entG_pos h5, entG1_pos h6, entG2_pos h7, entG3_neg h8])))
  · rename_i h0 hl h5 h6 h7 b
    rw [hku] at h5
    exact ents_fail (h3.symm.trans (entsA_stop hl h0 (by rw [entG_pos h5, entG1_pos h6, entG2_neg h7])))
  · rename_i h0 hl h5 h6 b
    rw [hku] at h5
    exact ents_fail (h3.symm.trans (entsA_stop hl h0 (by rw [entG_pos h5, entG1_neg h6])))
  · rename_i h0 hl h5 b
    rw [hku] at h5
    exact ents_fail (h3.symm.trans (entsA_stop hl h0 (by rw [entG_neg h5])))
  · rename_i h0 hl
    exact ents_done (h3.symm.trans (entsA_end h1 (.inr hl)))
  · rename_i h0
    exact ents_done (h3.symm.trans (entsA_end h1 (.inl (by omega))))
instance {a : AV} {l : List UInt8} {m : SM} [h : IsL a byt 1 l m] : PC Go.Proofs.Try.prog 57 [a] (l.length ≤ 1000000000000) (.tuple [.lst 4 ((entsV l).map En.av) .ro, B (entsO l)]) := ⟨fun hl => ⟨[.lst 1 (l.map byt) m], ⟨h.sub, trivial⟩, block_entries_ok l m hl⟩⟩
set_option maxHeartbeats 2000000 in
theorem ref04_entries_ok (s0 : List UInt8) (hl : s0.length ≤ 1000000000000) : aPure Go.Proofs.Try.prog 60 [S s0] (.tuple [.lst 4 ((entsV s0).map En.av) .ro, B (entsO s0)]) := by
  refine ACalls.fin (ref04_entries.go ?_)
  unfold ref04_entries.sh
  repeat' (first | with_reducible apply Stp.go | with_reducible refine imp fun _ => ?_ | (with_reducible refine hyp ?_ ?_; first | assumption | exact leftT_mem (by assumption)) | (with_reducible refine need ?_ ?_; first | trivial | omega | (simp only [List.length_append, List.length_cons, List.length_nil, List.length_map, List.length_take, List.length_drop, List.length_replicate]; omega)) | (with_reducible refine fact ?_ ?_; first | trivial | exact ⟨rfl, rfl⟩ | kernel_rfl) | with_reducible refine choT (by assumption) ?_ | with_reducible refine choF (by assumption) ?_ | with_reducible refine choF' (by assumption) ?_ | (with_reducible refine altT ?_ ?_; first | omega | (simp only [List.length_append, List.length_cons, List.length_nil, List.length_map, List.length_take, List.length_drop, List.length_replicate]; omega)) | with_reducible refine altF ?_ | with_reducible refine all fun _ => ?_ | with_reducible refine both ?_ ?_ | (with_reducible refine choT ?_ ?_; omega) | (with_reducible refine choF ?_ ?_; omega) | with_reducible refine cho (fun _ => ?_) (fun _ => ?_))
  refine loopI (β := List UInt8 × List UInt8 × List En × Value) (fun x => x.2.2.1.length ≤ 65 ∧ x.1.length + x.2.1.length ≤ s0.length ∧ entsA (65 - x.2.2.1.length) x.1 x.2.1 x.2.2.1 = entsG s0)
    (fun x => [S x.2.1, .own x.2.2.2 x.2.2.1.length, S x.1]) (fun x => [.row x.2.2.2 35 4 (x.2.2.1.map En.av) 0])
    (fun x => 65 - x.2.2.1.length) ([], s0, [], .slice none 0 0) ⟨by simp, by simp, rfl⟩ (Sub.nil_own 35 (by decide) _ [_] [_]) ?_
  rintro ⟨k, s, l, v⟩ ⟨h1, h2, h3⟩
  dsimp only at h1 h2 h3 ⊢
  have hkm : k.length % 18446744073709551616 = k.length := Nat.mod_eq_of_lt (by omega)
  obtain ⟨a1, a2, a3, a4⟩ := get_bound (s := s)
  have hvm : getV s % 18446744073709551616 = getV s := Nat.mod_eq_of_lt a1
  obtain ⟨s1, hs1⟩ : ∃ x, x = s.drop (getN s) := ⟨_, rfl⟩
  obtain ⟨c1, c2, c3⟩ := text_bound (s := s1)
  have c4 := text_le s1
  obtain ⟨s3, hs3⟩ : ∃ x, x = s.drop (getN s + textN s1 + 1) := ⟨_, rfl⟩
  have e3 : s3 = ((s.drop (getN s)).drop (textN s1)).drop 1 := by rw [hs3, List.drop_drop, List.drop_drop, Nat.add_assoc]
  have e2 : s.getD (getN s + textN s1) 0 = ((s.drop (getN s)).drop (textN s1)).getD 0 default := by
    rw [List.drop_drop, List.getD_eq_getElem?_getD, List.getD_eq_getElem?_getD, List.getElem?_drop, Nat.add_zero]
    rfl
  obtain ⟨d1, d2, d3, d4⟩ := get_bound (s := s3)
  have hdm : getV s3 % 18446744073709551616 = getV s3 := Nat.mod_eq_of_lt d1
  obtain ⟨s4, hs4⟩ : ∃ x, x = s3.drop (getN s3) := ⟨_, rfl⟩
  obtain ⟨g1, g2, g3⟩ := text_bound (s := s4)
  have l1 : s1.length + getN s = s.length := by rw [hs1, List.length_drop]; omega
  have l2 : s3.length = s1.length - textN s1 - 1 := by rw [hs3, List.length_drop]; omega
  have l4 : s4.length ≤ s3.length := by rw [hs4, List.length_drop]; omega
  have lk : (k.take (getV s)).length ≤ k.length := by rw [List.length_take]; omega
  subst hs4 hs3 hs1
  have hne : s ≠ [] ↔ 0 < s.length := List.length_pos_iff.symm
  have hq : ∀ x : Nat, ¬ 1099511627776 % 18446744073709551616 < x % 18446744073709551616 → x % 18446744073709551616 ≤ 1099511627776 := fun x h => by omega
  have hq' : ∀ x : Nat, 1099511627776 % 18446744073709551616 < x % 18446744073709551616 → ¬ x % 18446744073709551616 ≤ 1099511627776 := fun x h => by omega
  repeat' (first | with_reducible apply Stp.go | with_reducible refine imp fun _ => ?_ | (with_reducible refine hyp ?_ ?_; first | assumption | exact leftT_mem (by assumption)) | (with_reducible refine need ?_ ?_; first | trivial | omega | (simp only [List.length_append, List.length_cons, List.length_nil, List.length_map, List.length_take, List.length_drop, List.length_replicate]; omega)) | (with_reducible refine fact ?_ ?_; first | trivial | exact ⟨rfl, rfl⟩ | kernel_rfl) | with_reducible refine choT (by assumption) ?_ | with_reducible refine choF (by assumption) ?_ | with_reducible refine choF' (by assumption) ?_ | (with_reducible refine altT ?_ ?_; first | omega | (simp only [List.length_append, List.length_cons, List.length_nil, List.length_map, List.length_take, List.length_drop, List.length_replicate]; omega)) | with_reducible refine altF ?_ | with_reducible refine all fun _ => ?_ | with_reducible refine both ?_ ?_ | (with_reducible refine choT ?_ ?_; omega) | (with_reducible refine choF ?_ ?_; omega) | with_reducible refine cho (fun _ => ?_) (fun _ => ?_))
  · rename_i h0
    exact ents_done (h3.symm.trans (entsA_end h1 (.inl (by rw [h0]; rfl))))
  · rename_i h0 hl h5 h6
    rw [hkm, hvm] at h6
    exact ents_fail (h3.symm.trans (entsA_stop hl (hne.1 h0) (entG_neg fun h => by have := h.2; omega)))
  · rename_i h0 hl h5 h6 h7 h8
    rw [hkm, hvm] at h6
    exact ents_fail (h3.symm.trans (entsA_stop hl (hne.1 h0) (by rw [entG_pos ⟨h5, by omega⟩, entG1_pos h7, entG2_neg fun h => by have := h.1; rw [List.length_drop] at this; omega])))
  · rename_i h0 hl h5 h6 h7 h8 h9
    rw [hkm, hvm] at h6
    rw [e2] at h9
    exact ents_fail (h3.symm.trans (entsA_stop hl (hne.1 h0) (by rw [entG_pos ⟨h5, by omega⟩, entG1_pos h7, entG2_neg fun h => by omega])))
  · rename_i h0 hl h5 h6 h7 h8 h9 h10 h11
    rw [hkm, hvm] at h6
    rw [e2] at h9
    have h11 := hq' _ h11
    rw [hdm] at h11
    rw [e3] at h10 h11
    exact ents_fail (h3.symm.trans (entsA_stop hl (hne.1 h0) (by rw [entG_pos ⟨h5, by omega⟩, entG1_pos h7, entG2_pos ⟨by rw [List.length_drop]; omega, by omega⟩, entG3_neg fun h => h11 h.2])))
  · rename_i h0 hl h5 h6 h7 h8 h9 h10 h11
    have h11 := hq _ h11
    refine need (by omega) ?_
    rw [hdm] at h11
    rw [hkm, hvm] at h6
    rw [e2] at h9
    have e0 := entG_pos (k := k) (s := s) ⟨h5, by omega⟩
    rw [entG1_pos h7, entG2_pos ⟨by rw [List.length_drop]; omega, by omega⟩, entG3_pos (by rw [← e3]; exact ⟨h10, h11⟩), ← e2, ← e3] at e0
    repeat' (first | with_reducible apply Stp.go | with_reducible refine imp fun _ => ?_ | (with_reducible refine hyp ?_ ?_; first | assumption | exact leftT_mem (by assumption)) | (with_reducible refine need ?_ ?_; first | trivial | omega | (simp only [List.length_append, List.length_cons, List.length_nil, List.length_map, List.length_take, List.length_drop, List.length_replicate]; omega)) | (with_reducible refine fact ?_ ?_; first | trivial | exact ⟨rfl, rfl⟩ | kernel_rfl) | with_reducible refine choT (by assumption) ?_ | with_reducible refine choF (by assumption) ?_ | with_reducible refine choF' (by assumption) ?_ | (with_reducible refine altT ?_ ?_; first | omega | (simp only [List.length_append, List.length_cons, List.length_nil, List.length_map, List.length_take, List.length_drop, List.length_replicate]; omega)) | with_reducible refine altF ?_ | with_reducible refine all fun _ => ?_ | with_reducible refine both ?_ ?_ | (with_reducible refine choT ?_ ?_; omega) | (with_reducible refine choF ?_ ?_; omega) | with_reducible refine cho (fun _ => ?_) (fun _ => ?_))
    rename_i b
    rw [hdm, hvm]
    refine joinE ?_
    cases hd : decide ((s.getD (getN s + textN (s.drop (getN s))) 0).toNat = 1) with
    | true =>
      rw [hd, entG4_del] at e0
      have ht : (true : Bool) = true := rfl
      repeat' (first | with_reducible apply Stp.go | with_reducible refine imp fun _ => ?_ | (with_reducible refine hyp ?_ ?_; first | assumption | exact leftT_mem (by assumption)) | (with_reducible refine need ?_ ?_; first | trivial | omega | (simp only [List.length_append, List.length_cons, List.length_nil, List.length_map, List.length_take, List.length_drop, List.length_replicate]; omega)) | (with_reducible refine fact ?_ ?_; first | trivial | exact ⟨rfl, rfl⟩ | kernel_rfl) | with_reducible refine choT (by assumption) ?_ | with_reducible refine choF (by assumption) ?_ | with_reducible refine choF' (by assumption) ?_ | (with_reducible refine altT ?_ ?_; first | omega | (simp only [List.length_append, List.length_cons, List.length_nil, List.length_map, List.length_take, List.length_drop, List.length_replicate]; omega)) | with_reducible refine altF ?_ | with_reducible refine all fun _ => ?_ | with_reducible refine both ?_ ?_ | (with_reducible refine choT ?_ ?_; omega) | (with_reducible refine choF ?_ ?_; omega) | with_reducible refine cho (fun _ => ?_) (fun _ => ?_))
      rename_i w
      exact again (_, _, l ++ [_], w) (by dsimp only; rw [List.length_append]; simp only [List.length_cons, List.length_nil]; omega) ⟨by dsimp only; rw [List.length_append]; simp only [List.length_cons, List.length_nil]; omega, by have := (entG_le e0).1; dsimp only at this ⊢; omega, (entsA_next hl (hne.1 h0) e0).trans h3⟩ (subS _)
    | false =>
      rw [hd] at e0
      have ht : (false : Bool) = false := rfl
      repeat' (first | with_reducible apply Stp.go | with_reducible refine imp fun _ => ?_ | (with_reducible refine hyp ?_ ?_; first | assumption | exact leftT_mem (by assumption)) | (with_reducible refine need ?_ ?_; first | trivial | omega | (simp only [List.length_append, List.length_cons, List.length_nil, List.length_map, List.length_take, List.length_drop, List.length_replicate]; omega)) | (with_reducible refine fact ?_ ?_; first | trivial | exact ⟨rfl, rfl⟩ | kernel_rfl) | with_reducible refine choT (by assumption) ?_ | with_reducible refine choF (by assumption) ?_ | with_reducible refine choF' (by assumption) ?_ | (with_reducible refine altT ?_ ?_; first | omega | (simp only [List.length_append, List.length_cons, List.length_nil, List.length_map, List.length_take, List.length_drop, List.length_replicate]; omega)) | with_reducible refine altF ?_ | with_reducible refine all fun _ => ?_ | with_reducible refine both ?_ ?_ | (with_reducible refine choT ?_ ?_; omega) | (with_reducible refine choF ?_ ?_; omega) | with_reducible refine cho (fun _ => ?_) (fun _ => ?_))
      · rename_i h9 w
        rw [entG4_pos h9] at e0
        exact again (_, _, l ++ [_], w) (by dsimp only; rw [List.length_append]; simp only [List.length_cons, List.length_nil]; omega) ⟨by dsimp only; rw [List.length_append]; simp only [List.length_cons, List.length_nil]; omega, by have := (entG_le e0).1; dsimp only at this ⊢; omega, (entsA_next hl (hne.1 h0) e0).trans h3⟩ (subS _)
      · rename_i h9
        rw [entG4_neg h9] at e0
        exact ents_fail (h3.symm.trans (entsA_stop hl (hne.1 h0) e0))
  · rename_i h0 hl h5 h6 h7 h8 h9 h10
    rw [hkm, hvm] at h6
    rw [e2] at h9
    rw [e3] at h10
    exact ents_fail (h3.symm.trans (entsA_stop hl (hne.1 h0) (by rw [entG_pos ⟨h5, by omega⟩, entG1_pos h7, entG2_pos ⟨by rw [List.length_drop]; omega, by omega⟩, entG3_neg fun h => h10 h.1])))
  · rename_i h0 hl h5 h6 h7
    rw [hkm, hvm] at h6
    exact ents_fail (h3.symm.trans (entsA_stop hl (hne.1 h0) (by rw [entG_pos ⟨h5, by omega⟩, entG1_neg h7])))
  · rename_i h0 hl h5
    exact ents_fail (h3.symm.trans (entsA_stop hl (hne.1 h0) (entG_neg fun h => h5 h.1)))
  · rename_i h0 hl
    exact ents_done (h3.symm.trans (entsA_end h1 (.inr hl)))
instance {l : List UInt8} : PC Go.Proofs.Try.prog 60 [S l] (l.length ≤ 1000000000000) (.tuple [.lst 4 ((entsV l).map En.av) .ro, B (entsO l)]) := ⟨fun hl => PC.of (ref04_entries_ok l hl)⟩
end Go.Ab
