/- Leaves held against a root. -/
import Derived.Test.YtobhbepiaibceaaF53
set_option linter.unusedVariables false
set_option linter.unusedSimpArgs false
namespace Go.Ab
/-- The next of a path; none: it is bad. -/
def popD (s : List D32 × Bool) : D32 × (List D32 × Bool) := match s with
  | ([], _) => (⟨zeroD, Len32.len⟩, ([], true))
  | (x :: xs, c) => (x, (xs, c))
/-- The root of so many leaves, of which a part is there; what is left of the path. -/
def rootR (b : Int) (part : List (List UInt8)) (cnt : Nat) (p : Int) (s : List D32 × Bool) : D32 × (List D32 × Bool) :=
  if p + part.length ≤ 0 ∨ (cnt : Int) ≤ p then popD s
  else if h : cnt ≤ 1 then (⟨leafD b (part.getD (-p).toNat default), Len32.len⟩, s)
  else
    let x := rootR b part (halfN cnt) p s
    let y := rootR b part (cnt - halfN cnt) (p - halfN cnt) x.2
    (⟨nodeD b x.1.val y.1.val, Len32.len⟩, y.2)
termination_by cnt
decreasing_by
  · have := halfN_lt (n := cnt) (by omega); omega
  · have := halfN_lt (n := cnt) (by omega); omega
theorem popD_le (s : List D32 × Bool) : (popD s).2.1.length ≤ s.1.length := by
  unfold popD
  split <;> simp
section rootR
variable {b : Int} {part : List (List UInt8)} {cnt : Nat} {p : Int} {s : List D32 × Bool}
theorem rootR_out (h : p + part.length ≤ 0 ∨ (cnt : Int) ≤ p) : rootR b part cnt p s = popD s := by unfold rootR; rw [if_pos h]
theorem rootR_one (h : ¬ (p + part.length ≤ 0 ∨ (cnt : Int) ≤ p)) (h1 : cnt ≤ 1) : rootR b part cnt p s = (⟨leafD b (part.getD (-p).toNat default), Len32.len⟩, s) := by unfold rootR; rw [if_neg h, dif_pos h1]
theorem rootR_two (h : ¬ (p + part.length ≤ 0 ∨ (cnt : Int) ≤ p)) (h1 : ¬ cnt ≤ 1) : rootR b part cnt p s = (⟨nodeD b (rootR b part (halfN cnt) p s).1.val (rootR b part (cnt - halfN cnt) (p - halfN cnt) (rootR b part (halfN cnt) p s).2).1.val, Len32.len⟩, (rootR b part (cnt - halfN cnt) (p - halfN cnt) (rootR b part (halfN cnt) p s).2).2) := by
  conv => lhs; unfold rootR
  rw [if_neg h, dif_neg h1]
theorem bsD_out {L : List (List UInt8)} {q : Int} (h : q ≤ 0 ∨ (L.length : Int) ≤ p) : bsD b L p q = [rootF b L] := by unfold bsD; rw [if_pos h]
theorem bsD_one {L : List (List UInt8)} {q : Int} (h : ¬ (q ≤ 0 ∨ (L.length : Int) ≤ p)) (h1 : L.length ≤ 1) : bsD b L p q = [] := by unfold bsD; rw [if_neg h, dif_pos h1]
theorem bsD_two {L : List (List UInt8)} {q : Int} (h : ¬ (q ≤ 0 ∨ (L.length : Int) ≤ p)) (h1 : ¬ L.length ≤ 1) : bsD b L p q = bsD b (L.take (halfN L.length)) p q ++ bsD b (L.drop (halfN L.length)) (p - (halfN L.length : Nat)) (q - (halfN L.length : Nat)) := by
  conv => lhs; unfold bsD
  rw [if_neg h, dif_neg h1]
end rootR
theorem rootR_le (b : Int) (part : List (List UInt8)) : ∀ (n cnt : Nat) (p : Int) (s : List D32 × Bool), cnt = n → (rootR b part cnt p s).2.1.length ≤ s.1.length := by
  intro n
  induction n using Nat.strongRecOn with
  | _ n ih =>
    intro cnt p s hn
    unfold rootR
    split
    · exact popD_le s
    · split
      · exact Nat.le_refl _
      · have hh := halfN_lt (n := cnt) (by omega)
        have i1 := ih (halfN cnt) (by omega) _ p s rfl
        have i2 := ih (cnt - halfN cnt) (by omega) _ (p - halfN cnt) (rootR b part (halfN cnt) p s).2 rfl
        exact Nat.le_trans i2 i1
/-- What stands beside some leaves leads to the root. -/
theorem rootR_bs (b : Int) (part : List (List UInt8)) : ∀ (n : Nat) (L : List (List UInt8)) (p : Int) (rest : List D32) (c : Bool), L.length = n → 0 < n → (∀ j : Nat, j < n → p ≤ j → (j : Int) < p + part.length → part.getD ((j : Int) - p).toNat default = L.getD j default) →
    rootR b part n p (bsD b L p (p + part.length) ++ rest, c) = (rootF b L, rest, c) := by
  intro n
  induction n using Nat.strongRecOn with
  | _ n ih =>
    intro L p rest c hn h0 hp
    by_cases h1 : p + part.length ≤ 0 ∨ (n : Int) ≤ p
    · rw [rootR_out h1, bsD_out (by omega)]
      rfl
    · by_cases h2 : n ≤ 1
      · rw [rootR_one h1 h2, bsD_one (by omega) (by omega)]
        have h3 := hp 0 (by omega) (by omega) (by omega)
        have e3 : rootD b L = leafD b (L.getD 0 default) := by unfold rootD; rw [dif_neg (by omega), dif_pos (by omega)]
        have e4 : (-p).toNat = ((0 : Nat) - p : Int).toNat := by congr 1; omega
        have e5 : part.getD (-p).toNat default = L.getD 0 default := by rw [e4]; exact h3
        have e6 : (⟨leafD b (part.getD (-p).toNat default), Len32.len⟩ : D32) = rootF b L := by simp only [rootF, e3, e5]
        rw [e6, List.nil_append]
      · rw [rootR_two h1 h2, bsD_two (by omega) (by omega)]
        have hh := halfN_lt (n := n) (by omega)
        have l1 : (L.take (halfN n)).length = halfN n := by rw [List.length_take]; omega
        have l2 : (L.drop (halfN n)).length = n - halfN n := by rw [List.length_drop, hn]
        have e3 : rootD b L = nodeD b (rootD b (L.take (halfN n))) (rootD b (L.drop (halfN n))) := by
          conv => lhs; unfold rootD
          rw [dif_neg (by omega), dif_neg (by omega), hn]
        have q1 := ih (halfN n) hh.2 (L.take (halfN n)) p (bsD b (L.drop (halfN n)) (p - (halfN n : Nat)) (p + part.length - (halfN n : Nat)) ++ rest) c l1 hh.1 (fun j h3 h4 h5 => by
          rw [hp j (by omega) h4 h5, List.getD_eq_getElem?_getD, List.getD_eq_getElem?_getD, List.getElem?_take, if_pos h3])
        have q2 := ih (n - halfN n) (by omega) (L.drop (halfN n)) (p - (halfN n : Nat)) rest c l2 (by omega) (fun j h3 h4 h5 => by
          have h6 := hp (halfN n + j) (by omega) (by omega) (by omega)
          have e6 : ((halfN n + j : Nat) : Int) - p = (j : Int) - (p - (halfN n : Nat)) := by omega
          rw [e6] at h6
          rw [h6, List.getD_eq_getElem?_getD, List.getD_eq_getElem?_getD, List.getElem?_drop])
        have e5 : p - (halfN n : Nat) + part.length = p + part.length - (halfN n : Nat) := by omega
        rw [e5] at q2
        rw [hn, List.append_assoc]
        simp only [q1, q2, rootF, e3]
/-- Nothing stands beside all leaves. -/
theorem bsD_all (b : Int) : ∀ (n : Nat) (L : List (List UInt8)) (p q : Int), L.length = n → 0 < n → p ≤ 0 → (n : Int) ≤ q → bsD b L p q = [] := by
  intro n
  induction n using Nat.strongRecOn with
  | _ n ih =>
    intro L p q hn h0 h1 h2
    unfold bsD
    rw [if_neg (by omega)]
    split
    · rfl
    · rename_i h
      have hh := halfN_lt (n := n) (by omega)
      have l1 : (L.take (halfN n)).length = halfN n := by rw [List.length_take]; omega
      have l2 : (L.drop (halfN n)).length = n - halfN n := by rw [List.length_drop, hn]
      rw [hn, ih (halfN n) hh.2 _ p q l1 hh.1 h1 (by omega), ih (n - halfN n) (by omega) _ _ _ l2 (by omega) (by omega) (by omega)]
      rfl
/-- Are leaves under a root. -/
def checkR (b : Int) (root : D32) (cnt p : Int) (part : List (List UInt8)) (path : List D32) : Bool :=
  decide (0 < part.length ∧ 0 ≤ p ∧ (part.length : Int) ≤ cnt ∧ p ≤ cnt - part.length) &&
    ((!(rootR b part cnt.toNat p (path, false)).2.2 && decide ((rootR b part cnt.toNat p (path, false)).2.1.length = 0)) && decide ((rootR b part cnt.toNat p (path, false)).1.val = root.val))
instance (priority := 80) negN {P : Program} {a : Nat} {K : AV → Prop} : Stp (Do (aUn P .neg (.val (.int .i64 (-((a : Nat) : Int))))) K) (Need (a ≤ 9223372036854775807) (K (.val (.int .i64 ((a : Nat) : Int))))) := ⟨fun ⟨h, hK⟩ => by
  refine ⟨.val (.int .i64 (IntKind.wrap .i64 (- -((a : Nat) : Int)))), ⟨_, rfl, fun w => by simp [Op.unary, Op.intArith]⟩, ?_⟩
  rw [Int.neg_neg, wrap_i64 (by omega) (by omega)]
  exact hK⟩
abbrev OpT : TypeId := 133
abbrev opn4 (b : Int) (part : List (List UInt8)) (m : SM) (q : List D32) (c : Bool) : List AV := [I .i64 b, .lst 1 (part.map bl) m, .lst 32 (q.map dgF) .ro, B c]
instance (priority := 2000) litZ32 {offs : List (Nat × Nat)} {K : AV → Prop} : Stp (Do (aLit [.val (.int .u8 0), .val (.int .u8 0), .val (.int .u8 0), .val (.int .u8 0), .val (.int .u8 0), .val (.int .u8 0), .val (.int .u8 0), .val (.int .u8 0), .val (.int .u8 0), .val (.int .u8 0), .val (.int .u8 0), .val (.int .u8 0), .val (.int .u8 0), .val (.int .u8 0), .val (.int .u8 0), .val (.int .u8 0), .val (.int .u8 0), .val (.int .u8 0), .val (.int .u8 0), .val (.int .u8 0), .val (.int .u8 0), .val (.int .u8 0), .val (.int .u8 0), .val (.int .u8 0), .val (.int .u8 0), .val (.int .u8 0), .val (.int .u8 0), .val (.int .u8 0), .val (.int .u8 0), .val (.int .u8 0), .val (.int .u8 0), .val (.int .u8 0)] offs []) K) (K (dgA zeroD)) := ⟨fun hK => ⟨_, ⟨(fun p hp => by cases hp), [.val (.int .u8 0), .val (.int .u8 0), .val (.int .u8 0), .val (.int .u8 0), .val (.int .u8 0), .val (.int .u8 0), .val (.int .u8 0), .val (.int .u8 0), .val (.int .u8 0), .val (.int .u8 0), .val (.int .u8 0), .val (.int .u8 0), .val (.int .u8 0), .val (.int .u8 0), .val (.int .u8 0), .val (.int .u8 0), .val (.int .u8 0), .val (.int .u8 0), .val (.int .u8 0), .val (.int .u8 0), .val (.int .u8 0), .val (.int .u8 0), .val (.int .u8 0), .val (.int .u8 0), .val (.int .u8 0), .val (.int .u8 0), .val (.int .u8 0), .val (.int .u8 0), .val (.int .u8 0), .val (.int .u8 0), .val (.int .u8 0), .val (.int .u8 0)], rfl, rfl⟩, hK⟩⟩
def tree_opening_root.mark : Mark := ⟨fun t => false, fun t => false, fun t => false, fun t => Nat.beq t 39 || Nat.beq t 63, fun t => false⟩
def tree_opening_root.ann : Ann := ⟨fun n => [], fun n => none, fun n => bif Nat.beq n 12 then some [6] else none⟩
/-- '(*marlstone/tree.opening).root' -/
def tree_opening_root.sh (a0 a1 a2 : AV) (σ : Store) (Q : AEnd → Store → Prop) : Prop :=
  aNewVar 46 [.val (.int .u8 0), .val (.int .u8 0), .val (.int .u8 0), .val (.int .u8 0), .val (.int .u8 0), .val (.int .u8 0), .val (.int .u8 0), .val (.int .u8 0), .val (.int .u8 0), .val (.int .u8 0), .val (.int .u8 0), .val (.int .u8 0), .val (.int .u8 0), .val (.int .u8 0), .val (.int .u8 0), .val (.int .u8 0), .val (.int .u8 0), .val (.int .u8 0), .val (.int .u8 0), .val (.int .u8 0), .val (.int .u8 0), .val (.int .u8 0), .val (.int .u8 0), .val (.int .u8 0), .val (.int .u8 0), .val (.int .u8 0), .val (.int .u8 0), .val (.int .u8 0), .val (.int .u8 0), .val (.int .u8 0), .val (.int .u8 0), .val (.int .u8 0)] σ fun t6 σ =>
  Do (aNil a0) fun t13 =>
  Do (aFieldAddr 1 1 t13) fun t14 =>
  Do (loadA false 1 t14 σ) fun t15 =>
  Do (aBuiltin Go.Proofs.Try.prog .len #[37] [t15]) fun t16 =>
  Do (aBin Go.Proofs.Try.prog .add 3 a2 t16) fun t17 =>
  Do (aBin Go.Proofs.Try.prog .leq 3 t17 (.val (.int .i64 0))) fun t18 =>
  Do (aGuard t18 false (aIs a2)) fun t20 =>
  Do (aGuard t18 false (aIs a1)) fun t21 =>
  Do (aGuard t18 false (aBin Go.Proofs.Try.prog .geq 3 t20 t21)) fun t22 =>
  Do (aPick t18 (.val (.bool true)) t22) fun t23 =>
  aCond t23
    (Do (aNil a0) fun t25 =>
    Do (aFieldAddr 2 1 t25) fun t26 =>
    Do (loadA false 1 t26 σ) fun t27 =>
    Do (aBuiltin Go.Proofs.Try.prog .len #[28] [t27]) fun t28 =>
    Do (aBin Go.Proofs.Try.prog .eql 3 t28 (.val (.int .i64 0))) fun t29 =>
    aCond t29
      (Do (aNil a0) fun t31 =>
      Do (aFieldAddr 3 1 t31) fun t32 =>
      storeA 1 t32 (.val (.bool true)) σ fun u σ_1 =>
      Do (aLit [.val (.int .u8 0), .val (.int .u8 0), .val (.int .u8 0), .val (.int .u8 0), .val (.int .u8 0), .val (.int .u8 0), .val (.int .u8 0), .val (.int .u8 0), .val (.int .u8 0), .val (.int .u8 0), .val (.int .u8 0), .val (.int .u8 0), .val (.int .u8 0), .val (.int .u8 0), .val (.int .u8 0), .val (.int .u8 0), .val (.int .u8 0), .val (.int .u8 0), .val (.int .u8 0), .val (.int .u8 0), .val (.int .u8 0), .val (.int .u8 0), .val (.int .u8 0), .val (.int .u8 0), .val (.int .u8 0), .val (.int .u8 0), .val (.int .u8 0), .val (.int .u8 0), .val (.int .u8 0), .val (.int .u8 0), .val (.int .u8 0), .val (.int .u8 0)] [(0, 1), (1, 1), (2, 1), (3, 1), (4, 1), (5, 1), (6, 1), (7, 1), (8, 1), (9, 1), (10, 1), (11, 1), (12, 1), (13, 1), (14, 1), (15, 1), (16, 1), (17, 1), (18, 1), (19, 1), (20, 1), (21, 1), (22, 1), (23, 1), (24, 1), (25, 1), (26, 1), (27, 1), (28, 1), (29, 1), (30, 1), (31, 1)] []) fun t33 =>
      storeA 32 t6 t33 σ_1 fun u_1 σ_2 =>
      Do (loadA true 32 t6 σ_2) fun r6 => Q (.ret r6) σ_2)
      (Do (aNil a0) fun t35 =>
    Do (aFieldAddr 2 1 t35) fun t36 =>
    Do (loadA false 1 t36 σ) fun t37 =>
    Do (aIndexAddr .slice 32 t37 (.val (.int .i64 0))) fun t38 =>
    Do (loadF true 32 t38) fun t39 =>
    aNewVar 46 [.val (.int .u8 0), .val (.int .u8 0), .val (.int .u8 0), .val (.int .u8 0), .val (.int .u8 0), .val (.int .u8 0), .val (.int .u8 0), .val (.int .u8 0), .val (.int .u8 0), .val (.int .u8 0), .val (.int .u8 0), .val (.int .u8 0), .val (.int .u8 0), .val (.int .u8 0), .val (.int .u8 0), .val (.int .u8 0), .val (.int .u8 0), .val (.int .u8 0), .val (.int .u8 0), .val (.int .u8 0), .val (.int .u8 0), .val (.int .u8 0), .val (.int .u8 0), .val (.int .u8 0), .val (.int .u8 0), .val (.int .u8 0), .val (.int .u8 0), .val (.int .u8 0), .val (.int .u8 0), .val (.int .u8 0), .val (.int .u8 0), .val (.int .u8 0)] σ fun t7 σ_3 =>
    storeA 32 t7 t39 σ_3 fun u_2 σ_4 =>
    Do (aNil a0) fun t42 =>
    Do (aFieldAddr 2 1 t42) fun t43 =>
    Do (loadA false 1 t43 σ_4) fun t44 =>
    Do (aSlice .slice 32 t44 (some (.val (.int .i64 1))) none none) fun t45 =>
    Do (aNil a0) fun t46 =>
    Do (aFieldAddr 2 1 t46) fun t47 =>
    storeA 1 t47 t45 σ_4 fun u_3 σ_5 =>
    Do (loadA true 32 t7 σ_5) fun t48 =>
    storeA 32 t6 t48 σ_5 fun u_4 σ_6 =>
    Do (loadA true 32 t6 σ_6) fun r6_1 => Q (.ret r6_1) σ_6))
    (Do (aBin Go.Proofs.Try.prog .eql 3 a1 (.val (.int .i64 1))) fun t51 =>
    aCond t51
      (Do (aNil a0) fun t53 =>
      Do (aFieldAddr 0 1 t53) fun t54 =>
      Do (loadA true 1 t54 σ) fun t55 =>
      Do (aNil a0) fun t57 =>
      Do (aFieldAddr 1 1 t57) fun t58 =>
      Do (aUn Go.Proofs.Try.prog .neg a2) fun t61 =>
      Do (loadA false 1 t58 σ) fun t59 =>
      Do (aIndexAddr .slice 1 t59 t61) fun t62 =>
      Do (loadF false 1 t62) fun t63 =>
      aCall Go.Proofs.Try.prog 66 [t55, t63] σ (fun t64 σ_7 =>
      storeA 32 t6 t64 σ_7 fun u_5 σ_8 =>
      Do (loadA true 32 t6 σ_8) fun r6_2 => Q (.ret r6_2) σ_8) (fun e σ_9 => Q (.pan e) σ_9))
      (aCall Go.Proofs.Try.prog 100 [a1] σ (fun t66 σ_10 =>
  aCall Go.Proofs.Try.prog 95 [a0, t66, a2] σ_10 (fun t70 σ_11 =>
  aNewVar 46 [.val (.int .u8 0), .val (.int .u8 0), .val (.int .u8 0), .val (.int .u8 0), .val (.int .u8 0), .val (.int .u8 0), .val (.int .u8 0), .val (.int .u8 0), .val (.int .u8 0), .val (.int .u8 0), .val (.int .u8 0), .val (.int .u8 0), .val (.int .u8 0), .val (.int .u8 0), .val (.int .u8 0), .val (.int .u8 0), .val (.int .u8 0), .val (.int .u8 0), .val (.int .u8 0), .val (.int .u8 0), .val (.int .u8 0), .val (.int .u8 0), .val (.int .u8 0), .val (.int .u8 0), .val (.int .u8 0), .val (.int .u8 0), .val (.int .u8 0), .val (.int .u8 0), .val (.int .u8 0), .val (.int .u8 0), .val (.int .u8 0), .val (.int .u8 0)] σ_11 fun t9 σ_12 =>
  storeA 32 t9 t70 σ_12 fun u_6 σ_13 =>
  aJoin (fun j =>
    Do (aNil a0) fun t72 =>
    Do (aFieldAddr 0 1 t72) fun t73 =>
    Do (aBin Go.Proofs.Try.prog .sub 3 a1 t66) fun t79 =>
    Do (aBin Go.Proofs.Try.prog .sub 3 a2 t66) fun t82 =>
    Both (Do (loadA true 1 t73 σ_13) fun t74 =>
    Both (Do (loadA true 32 t9 σ_13) fun t75 =>
    aCall Go.Proofs.Try.prog 95 [a0, t79, t82] σ_13 (fun t83 σ_15 =>
    aCall Go.Proofs.Try.prog 71 [t74, t75, t83] σ_15 (fun t84 σ_16 =>
    storeA 32 t6 t84 σ_16 fun u_7 σ_17 =>
    j [t6] σ_17) (fun e_1 σ_18 => Q (.pan e_1) σ_18)) (fun e_2 σ_19 => Q (.pan e_2) σ_19)) (aCall Go.Proofs.Try.prog 95 [a0, t79, t82] σ_13 (fun t83_1 σ_20 =>
    Do (loadA true 32 t9 σ_20) fun t75_1 =>
    aCall Go.Proofs.Try.prog 71 [t74, t75_1, t83_1] σ_20 (fun t84_1 σ_21 =>
    storeA 32 t6 t84_1 σ_21 fun u_8 σ_22 =>
    j [t6] σ_22) (fun e_3 σ_23 => Q (.pan e_3) σ_23)) (fun e_4 σ_24 => Q (.pan e_4) σ_24))) (Both (Do (loadA true 32 t9 σ_13) fun t75_2 =>
    Both (Do (loadA true 1 t73 σ_13) fun t74_1 =>
    aCall Go.Proofs.Try.prog 95 [a0, t79, t82] σ_13 (fun t83_2 σ_25 =>
    aCall Go.Proofs.Try.prog 71 [t74_1, t75_2, t83_2] σ_25 (fun t84_2 σ_26 =>
    storeA 32 t6 t84_2 σ_26 fun u_9 σ_27 =>
    j [t6] σ_27) (fun e_5 σ_28 => Q (.pan e_5) σ_28)) (fun e_6 σ_29 => Q (.pan e_6) σ_29)) (aCall Go.Proofs.Try.prog 95 [a0, t79, t82] σ_13 (fun t83_3 σ_30 =>
    Do (loadA true 1 t73 σ_30) fun t74_2 =>
    aCall Go.Proofs.Try.prog 71 [t74_2, t75_2, t83_3] σ_30 (fun t84_3 σ_31 =>
    storeA 32 t6 t84_3 σ_31 fun u_10 σ_32 =>
    j [t6] σ_32) (fun e_7 σ_33 => Q (.pan e_7) σ_33)) (fun e_8 σ_34 => Q (.pan e_8) σ_34))) (aCall Go.Proofs.Try.prog 95 [a0, t79, t82] σ_13 (fun t83_4 σ_35 =>
    Do (loadA true 1 t73 σ_35) fun t74_3 =>
    Do (loadA true 32 t9 σ_35) fun t75_3 =>
    aCall Go.Proofs.Try.prog 71 [t74_3, t75_3, t83_4] σ_35 (fun t84_4 σ_36 =>
    storeA 32 t6 t84_4 σ_36 fun u_11 σ_37 =>
    j [t6] σ_37) (fun e_9 σ_38 => Q (.pan e_9) σ_38)) (fun e_10 σ_39 => Q (.pan e_10) σ_39)))) fun vs σ_14 =>
  At vs 0 fun s6 => Do (loadA true 32 s6 σ_14) fun r6_3 => Q (.ret r6_3) σ_14) (fun e_11 σ_40 => Q (.pan e_11) σ_40)) (fun e_12 σ_41 => Q (.pan e_12) σ_41)))
theorem tree_opening_root.eq (a0 a1 a2 : AV) (σ : Store) (Q : AEnd → Store → Prop) : vc (semOf Go.Proofs.Try.prog tree_opening_root.mark) Go.Proofs.Try.f95.ntmps tree_opening_root.ann (bodyOf Go.Proofs.Try.f95) (endK [.cell 6 true 32] Q) (argFr [a0, a1, a2]) σ = tree_opening_root.sh a0 a1 a2 σ Q := by kernel_rfl
theorem tree_opening_root.go {a0 a1 a2 : AV} {σ : Store} {Q : AEnd → Store → Prop} (h : tree_opening_root.sh a0 a1 a2 σ Q) : ACalls Go.Proofs.Try.prog 95 [a0, a1, a2] σ Q :=
  acalls_of_eq [.cell 6 true 32] Go.Proofs.Try.func95 (by kernel_rfl) (by kernel_rfl) (by kernel_rfl) (by kernel_rfl) (tree_opening_root.eq a0 a1 a2 σ Q) h
def tree_Tree_CheckRange.mark : Mark := ⟨fun t => false, fun t => false, fun t => Nat.beq t 6 || Nat.beq t 7, fun t => Nat.beq t 36 || Nat.beq t 60, fun t => false⟩
def tree_Tree_CheckRange.ann : Ann := ⟨fun n => [], fun n => none, fun n => none⟩
/-- '(marlstone/tree.Tree).CheckRange' -/
def tree_Tree_CheckRange.sh (a0 a1 a2 a3 a4 a5 : AV) (σ : Store) (Q : AEnd → Store → Prop) : Prop :=
  Do (aFreeze ((a0 : AV)).cells) fun t6 =>
  Do (aFreeze ((a1 : AV)).cells) fun t7 =>
  Do (aBuiltin Go.Proofs.Try.prog .len #[37] [a4]) fun t16 =>
  Do (aBin Go.Proofs.Try.prog .eql 3 t16 (.val (.int .i64 0))) fun t17 =>
  Do (aGuard t17 false (aIs a3)) fun t19 =>
  Do (aGuard t17 false (aBin Go.Proofs.Try.prog .lss 3 t19 (.val (.int .i64 0)))) fun t20 =>
  Do (aPick t17 (.val (.bool true)) t20) fun t21 =>
  Do (aGuard t21 false (aIs a2)) fun t23 =>
  Do (aGuard t21 false (aIs a4)) fun t24 =>
  Do (aGuard t21 false (aBuiltin Go.Proofs.Try.prog .len #[37] [t24])) fun t25 =>
  Do (aGuard t21 false (aBin Go.Proofs.Try.prog .lss 3 t23 t25)) fun t26 =>
  Do (aPick t21 (.val (.bool true)) t26) fun t27 =>
  Do (aGuard t27 false (aIs a3)) fun t29 =>
  Do (aGuard t27 false (aIs a2)) fun t30 =>
  Do (aGuard t27 false (aIs a4)) fun t31 =>
  Do (aGuard t27 false (aBuiltin Go.Proofs.Try.prog .len #[37] [t31])) fun t32 =>
  Do (aGuard t27 false (aBin Go.Proofs.Try.prog .sub 3 t30 t32)) fun t33 =>
  Do (aGuard t27 false (aBin Go.Proofs.Try.prog .gtr 3 t29 t33)) fun t34 =>
  Do (aPick t27 (.val (.bool true)) t34) fun t35 =>
  aCond t35
    (Q (.ret (.val (.bool false))) σ)
    (Do (loadF true 1 t6) fun t36 =>
  Do (aLit [.val (.int .i64 0), .val (.slice none 0 0), .val (.slice none 0 0), .val (.bool false)] [(0, 1), (1, 1), (2, 1), (3, 1)] [(0, t36), (1, a4), (2, a5)]) fun t39 =>
  aNewVar 133 (t39 : AV).cells σ fun t40 σ =>
  aCall Go.Proofs.Try.prog 95 [t40, a2, a3] σ (fun t44 σ_1 =>
  aNewVar 46 [.val (.int .u8 0), .val (.int .u8 0), .val (.int .u8 0), .val (.int .u8 0), .val (.int .u8 0), .val (.int .u8 0), .val (.int .u8 0), .val (.int .u8 0), .val (.int .u8 0), .val (.int .u8 0), .val (.int .u8 0), .val (.int .u8 0), .val (.int .u8 0), .val (.int .u8 0), .val (.int .u8 0), .val (.int .u8 0), .val (.int .u8 0), .val (.int .u8 0), .val (.int .u8 0), .val (.int .u8 0), .val (.int .u8 0), .val (.int .u8 0), .val (.int .u8 0), .val (.int .u8 0), .val (.int .u8 0), .val (.int .u8 0), .val (.int .u8 0), .val (.int .u8 0), .val (.int .u8 0), .val (.int .u8 0), .val (.int .u8 0), .val (.int .u8 0)] σ_1 fun t14 σ_2 =>
  storeA 32 t14 t44 σ_2 fun u σ_3 =>
  Do (aNil t40) fun t46 =>
  Do (aFieldAddr 3 1 t46) fun t47 =>
  Do (loadA false 1 t47 σ_3) fun t48 =>
  Do (aUn Go.Proofs.Try.prog .not t48) fun t49 =>
  Do (aGuard t49 true (aIs t40)) fun t51 =>
  Do (aGuard t49 true (aNil t51)) fun t52 =>
  Do (aGuard t49 true (aFieldAddr 2 1 t52)) fun t53 =>
  Do (aGuard t49 true (loadA false 1 t53 σ_3)) fun t54 =>
  Do (aGuard t49 true (aBuiltin Go.Proofs.Try.prog .len #[28] [t54])) fun t55 =>
  Do (aGuard t49 true (aBin Go.Proofs.Try.prog .eql 3 t55 (.val (.int .i64 0)))) fun t56 =>
  Do (aPick t49 t56 (.val (.bool false))) fun t57 =>
  Do (aGuard t57 true (loadA true 32 t14 σ_3)) fun t59 =>
  Do (aGuard t57 true (loadF true 32 t7)) fun t60 =>
  Do (aGuard t57 true (aBin Go.Proofs.Try.prog .eql 46 t59 t60)) fun t61 =>
  Do (aPick t57 t61 (.val (.bool false))) fun t62 =>
  Q (.ret t62) σ_3) (fun e σ_4 => Q (.pan e) σ_4))
theorem tree_Tree_CheckRange.eq (a0 a1 a2 a3 a4 a5 : AV) (σ : Store) (Q : AEnd → Store → Prop) : vc (semOf Go.Proofs.Try.prog tree_Tree_CheckRange.mark) Go.Proofs.Try.f54.ntmps tree_Tree_CheckRange.ann (bodyOf Go.Proofs.Try.f54) (endK [.tmp 12] Q) (argFr [a0, a1, a2, a3, a4, a5]) σ = tree_Tree_CheckRange.sh a0 a1 a2 a3 a4 a5 σ Q := by kernel_rfl
theorem tree_Tree_CheckRange.go {a0 a1 a2 a3 a4 a5 : AV} {σ : Store} {Q : AEnd → Store → Prop} (h : tree_Tree_CheckRange.sh a0 a1 a2 a3 a4 a5 σ Q) : ACalls Go.Proofs.Try.prog 54 [a0, a1, a2, a3, a4, a5] σ Q :=
  acalls_of_eq [.tmp 12] Go.Proofs.Try.func54 (by kernel_rfl) (by kernel_rfl) (by kernel_rfl) (by kernel_rfl) (tree_Tree_CheckRange.eq a0 a1 a2 a3 a4 a5 σ Q) h
theorem oroot_ok (b : Int) (o : Nat) (part : List (List UInt8)) (m : SM) (hpl : part.length ≤ 1000000000) (hpb : ∀ b ∈ part, b.length ≤ 100000000000000) : ∀ (n cnt : Nat) (p : Int) (s : List D32 × Bool), cnt = n → 0 < cnt → cnt ≤ 9223372036854775807 → -9000000000000000000 ≤ p → p ≤ 9223372036854775807 - part.length →
    ACalls Go.Proofs.Try.prog 95 [ptrAt o 0, I .i64 (cnt : Nat), I .i64 p] [.var o OpT (opn4 b part m s.1 s.2)] fun x σ' => x = .ret (dgA (rootR b part cnt p s).1.val) ∧ σ' = [.var o OpT (opn4 b part m (rootR b part cnt p s).2.1 (rootR b part cnt p s).2.2)] := by
  intro n
  induction n using Nat.strongRecOn with
  | _ n ih =>
    intro cnt p s hn h0 h1 h2 h3
    refine ACalls.fin (tree_opening_root.go ?_)
    unfold tree_opening_root.sh
    have inst : ∀ (cnt' : Nat) (p' : Int) (q : List D32) (c : Bool) (σ rest : Store) (put : Ent → Store) [hv : VarAt o σ OpT (opn4 b part m q c) put rest], EC Go.Proofs.Try.prog 95 [ptrAt o 0, I .i64 (cnt' : Nat), I .i64 p'] σ (cnt' < n ∧ 0 < cnt' ∧ cnt' ≤ 9223372036854775807 ∧ -9000000000000000000 ≤ p' ∧ p' ≤ 9223372036854775807 - part.length) Unit (fun _ => dgA (rootR b part cnt' p' (q, c)).1.val) (fun _ => put (.var o OpT (opn4 b part m (rootR b part cnt' p' (q, c)).2.1 (rootR b part cnt' p' (q, c)).2.2))) := fun cnt' p' q c σ rest put hv => ⟨fun h => (ACalls.at_ (ih cnt' h.1 cnt' p' (q, c) rfl h.2.1 h.2.2.1 h.2.2.2.1 h.2.2.2.2)).mono fun x σ' ⟨g1, g2⟩ => ⟨(), g1, g2⟩⟩
    by_cases h4 : p + part.length ≤ 0 ∨ (cnt : Int) ≤ p
    · have e : rootR b part cnt p s = popD s := by unfold rootR; rw [if_pos h4]
      rw [e]
      obtain ⟨path, c⟩ := s
      dsimp only
      cases path with
      | nil =>
        have hz0 : ([] : List D32).length = 0 := rfl
        by_cases h5 : p + part.length ≤ 0
        · repeat' (first | with_reducible apply Stp.go | with_reducible refine imp fun _ => ?_ | (with_reducible refine hyp ?_ ?_; first | assumption | exact leftT_mem (by assumption)) | (with_reducible refine need ?_ ?_; first | trivial | omega | exact ⟨by assumption, by omega⟩ | (simp only [List.length_append, List.length_cons, List.length_nil, List.length_map, List.length_take, List.length_drop, List.length_replicate, List.length_set]; omega)) | (with_reducible refine fact ?_ ?_; first | trivial | exact ⟨rfl, rfl⟩ | kernel_rfl) | with_reducible refine choT (by assumption) ?_ | with_reducible refine choF (by assumption) ?_ | with_reducible refine choF' (by assumption) ?_ | (with_reducible refine altT ?_ ?_; first | omega | (simp only [List.length_append, List.length_cons, List.length_nil, List.length_map, List.length_take, List.length_drop, List.length_replicate, List.length_set]; omega)) | with_reducible refine altF ?_ | with_reducible refine all fun _ => ?_ | with_reducible refine both ?_ ?_ | (with_reducible refine choT ?_ ?_; omega) | (with_reducible refine choF ?_ ?_; omega) | with_reducible refine cho (fun _ => ?_) (fun _ => ?_))
          exact ⟨_, _, _, rfl, Sub.drop_ (List.sublist_cons_self _ _) _, rfl, rfl⟩
        · have h6 : (cnt : Int) ≤ p := by omega
          repeat' (first | with_reducible apply Stp.go | with_reducible refine imp fun _ => ?_ | (with_reducible refine hyp ?_ ?_; first | assumption | exact leftT_mem (by assumption)) | (with_reducible refine need ?_ ?_; first | trivial | omega | exact ⟨by assumption, by omega⟩ | (simp only [List.length_append, List.length_cons, List.length_nil, List.length_map, List.length_take, List.length_drop, List.length_replicate, List.length_set]; omega)) | (with_reducible refine fact ?_ ?_; first | trivial | exact ⟨rfl, rfl⟩ | kernel_rfl) | with_reducible refine choT (by assumption) ?_ | with_reducible refine choF (by assumption) ?_ | with_reducible refine choF' (by assumption) ?_ | (with_reducible refine altT ?_ ?_; first | omega | (simp only [List.length_append, List.length_cons, List.length_nil, List.length_map, List.length_take, List.length_drop, List.length_replicate, List.length_set]; omega)) | with_reducible refine altF ?_ | with_reducible refine all fun _ => ?_ | with_reducible refine both ?_ ?_ | (with_reducible refine choT ?_ ?_; omega) | (with_reducible refine choF ?_ ?_; omega) | with_reducible refine cho (fun _ => ?_) (fun _ => ?_))
          exact ⟨_, _, _, rfl, Sub.drop_ (List.sublist_cons_self _ _) _, rfl, rfl⟩
      | cons x xs =>
        have hz0 : ¬ (x :: xs).length = 0 := by simp
        have hx32 : ((x :: xs).getD 0 default).val.length = 32 := x.len
        have hr32 : (List.replicate 32 (0 : UInt8)).length = 32 := by simp
        by_cases h5 : p + part.length ≤ 0
        · repeat' (first | with_reducible apply Stp.go | with_reducible refine imp fun _ => ?_ | (with_reducible refine hyp ?_ ?_; first | assumption | exact leftT_mem (by assumption)) | (with_reducible refine need ?_ ?_; first | trivial | omega | exact ⟨by assumption, by omega⟩ | (simp only [List.length_append, List.length_cons, List.length_nil, List.length_map, List.length_take, List.length_drop, List.length_replicate, List.length_set]; omega)) | (with_reducible refine fact ?_ ?_; first | trivial | exact ⟨rfl, rfl⟩ | kernel_rfl) | with_reducible refine choT (by assumption) ?_ | with_reducible refine choF (by assumption) ?_ | with_reducible refine choF' (by assumption) ?_ | (with_reducible refine altT ?_ ?_; first | omega | (simp only [List.length_append, List.length_cons, List.length_nil, List.length_map, List.length_take, List.length_drop, List.length_replicate, List.length_set]; omega)) | with_reducible refine altF ?_ | with_reducible refine all fun _ => ?_ | with_reducible refine both ?_ ?_ | (with_reducible refine choT ?_ ?_; omega) | (with_reducible refine choF ?_ ?_; omega) | with_reducible refine cho (fun _ => ?_) (fun _ => ?_))
          exact ⟨_, _, _, rfl, Sub.drop_ (.cons _ (.cons _ (.cons_cons _ .slnil))) _, rfl, rfl⟩
        · have h6 : (cnt : Int) ≤ p := by omega
          repeat' (first | with_reducible apply Stp.go | with_reducible refine imp fun _ => ?_ | (with_reducible refine hyp ?_ ?_; first | assumption | exact leftT_mem (by assumption)) | (with_reducible refine need ?_ ?_; first | trivial | omega | exact ⟨by assumption, by omega⟩ | (simp only [List.length_append, List.length_cons, List.length_nil, List.length_map, List.length_take, List.length_drop, List.length_replicate, List.length_set]; omega)) | (with_reducible refine fact ?_ ?_; first | trivial | exact ⟨rfl, rfl⟩ | kernel_rfl) | with_reducible refine choT (by assumption) ?_ | with_reducible refine choF (by assumption) ?_ | with_reducible refine choF' (by assumption) ?_ | (with_reducible refine altT ?_ ?_; first | omega | (simp only [List.length_append, List.length_cons, List.length_nil, List.length_map, List.length_take, List.length_drop, List.length_replicate, List.length_set]; omega)) | with_reducible refine altF ?_ | with_reducible refine all fun _ => ?_ | with_reducible refine both ?_ ?_ | (with_reducible refine choT ?_ ?_; omega) | (with_reducible refine choF ?_ ?_; omega) | with_reducible refine cho (fun _ => ?_) (fun _ => ?_))
          exact ⟨_, _, _, rfl, Sub.drop_ (.cons _ (.cons _ (.cons_cons _ .slnil))) _, rfl, rfl⟩
    · have h5 : ¬ p + part.length ≤ 0 := by omega
      have h6 : ¬ (cnt : Int) ≤ p := by omega
      by_cases h7 : cnt = 1
      · obtain ⟨j, rfl⟩ : ∃ j : Nat, p = -(j : Int) := ⟨(-p).toNat, by omega⟩
        have e : rootR b part cnt (-(j : Int)) s = (⟨leafD b (part.getD j default), Len32.len⟩, s) := by
          rw [rootR_one h4 (by omega)]
          simp only [Int.neg_neg, Int.toNat_natCast]
        rw [e]
        have h8 : j < part.length := by omega
        have hb0 : (part.getD j default).length ≤ 100000000000000 := hpb _ (by rw [List.getD_eq_getElem?_getD, List.getElem?_eq_getElem h8]; exact List.getElem_mem _)
        have hr32 : (List.replicate 32 (0 : UInt8)).length = 32 := by simp
        have n0 : (leafD b (part.getD j default)).length = 32 := Len32.len
        repeat' (first | with_reducible apply Stp.go | with_reducible refine imp fun _ => ?_ | (with_reducible refine hyp ?_ ?_; first | assumption | exact leftT_mem (by assumption)) | (with_reducible refine need ?_ ?_; first | trivial | omega | exact ⟨by assumption, by omega⟩ | (simp only [List.length_append, List.length_cons, List.length_nil, List.length_map, List.length_take, List.length_drop, List.length_replicate, List.length_set]; omega)) | (with_reducible refine fact ?_ ?_; first | trivial | exact ⟨rfl, rfl⟩ | kernel_rfl) | with_reducible refine choT (by assumption) ?_ | with_reducible refine choF (by assumption) ?_ | with_reducible refine choF' (by assumption) ?_ | (with_reducible refine altT ?_ ?_; first | omega | (simp only [List.length_append, List.length_cons, List.length_nil, List.length_map, List.length_take, List.length_drop, List.length_replicate, List.length_set]; omega)) | with_reducible refine altF ?_ | with_reducible refine all fun _ => ?_ | with_reducible refine both ?_ ?_ | (with_reducible refine choT ?_ ?_; omega) | (with_reducible refine choF ?_ ?_; omega) | with_reducible refine cho (fun _ => ?_) (fun _ => ?_))
        exact ⟨_, _, _, rfl, Sub.drop_ (List.sublist_cons_self _ _) _, rfl, rfl⟩
      · have hh := halfN_lt (n := cnt) (by omega)
        have hk := halfN_log (n := cnt) (m := 62) (by omega) (by omega)
        obtain ⟨q, c⟩ := s
        dsimp only
        have e := rootR_two (b := b) (part := part) (s := (q, c)) h4 (show ¬ cnt ≤ 1 by omega)
        obtain ⟨d1, q1, c1, hX⟩ : ∃ d1 q1 c1, rootR b part (halfN cnt) p (q, c) = (d1, q1, c1) := ⟨_, _, _, rfl⟩
        obtain ⟨d2, q2, c2, hY⟩ : ∃ d2 q2 c2, rootR b part (cnt - halfN cnt) (p - halfN cnt) (q1, c1) = (d2, q2, c2) := ⟨_, _, _, rfl⟩
        rw [hX] at e
        dsimp only at e
        rw [hY] at e
        dsimp only at e
        rw [e]
        dsimp only
        have i1 : ∀ (σ rest : Store) (put : Ent → Store) [hv : VarAt o σ OpT (opn4 b part m q c) put rest], EC Go.Proofs.Try.prog 95 [ptrAt o 0, I .i64 (halfN cnt : Nat), I .i64 p] σ True Unit (fun _ => dgA d1.val) (fun _ => put (.var o OpT (opn4 b part m q1 c1))) := fun σ rest put hv => ⟨fun _ => by
          have := (inst (halfN cnt) p q c σ rest put).ct ⟨by omega, by omega, by omega, h2, h3⟩
          rw [hX] at this
          exact this⟩
        have i2 : ∀ (σ rest : Store) (put : Ent → Store) [hv : VarAt o σ OpT (opn4 b part m q1 c1) put rest], EC Go.Proofs.Try.prog 95 [ptrAt o 0, I .i64 (cnt - halfN cnt : Nat), I .i64 (p - (halfN cnt : Nat))] σ True Unit (fun _ => dgA d2.val) (fun _ => put (.var o OpT (opn4 b part m q2 c2))) := fun σ rest put hv => ⟨fun _ => by
          have := (inst (cnt - halfN cnt) (p - (halfN cnt : Nat)) q1 c1 σ rest put).ct ⟨by omega, by omega, by omega, by omega, by omega⟩
          rw [hY] at this
          exact this⟩
        clear inst
        have n1 := d1.len
        have n2 := d2.len
        have hr32 : (List.replicate 32 (0 : UInt8)).length = 32 := by simp
        have n3 : (nodeD b d1.val d2.val).length = 32 := Len32.len
        repeat' (first | with_reducible apply Stp.go | with_reducible refine imp fun _ => ?_ | (with_reducible refine hyp ?_ ?_; first | assumption | exact leftT_mem (by assumption)) | (with_reducible refine need ?_ ?_; first | trivial | omega | exact ⟨by assumption, by omega⟩ | (simp only [List.length_append, List.length_cons, List.length_nil, List.length_map, List.length_take, List.length_drop, List.length_replicate, List.length_set]; omega)) | (with_reducible refine fact ?_ ?_; first | trivial | exact ⟨rfl, rfl⟩ | kernel_rfl) | with_reducible refine choT (by assumption) ?_ | with_reducible refine choF (by assumption) ?_ | with_reducible refine choF' (by assumption) ?_ | (with_reducible refine altT ?_ ?_; first | omega | (simp only [List.length_append, List.length_cons, List.length_nil, List.length_map, List.length_take, List.length_drop, List.length_replicate, List.length_set]; omega)) | with_reducible refine altF ?_ | with_reducible refine all fun _ => ?_ | with_reducible refine both ?_ ?_ | (with_reducible refine choT ?_ ?_; omega) | (with_reducible refine choF ?_ ?_; omega) | with_reducible refine cho (fun _ => ?_) (fun _ => ?_))
        rename_i t6 _ t9
        refine joinI (β := Unit) (fun _ => True) (fun _ => [ptrAt t6 0]) (fun _ => [.var t6 DgT ((nodeD b d1.val d2.val).map byt), .var o OpT (opn4 b part m q2 c2)]) ?_ ?_
        · repeat' (first | with_reducible apply Stp.go | with_reducible refine imp fun _ => ?_ | (with_reducible refine hyp ?_ ?_; first | assumption | exact leftT_mem (by assumption)) | (with_reducible refine need ?_ ?_; first | trivial | omega | exact ⟨by assumption, by omega⟩ | (simp only [List.length_append, List.length_cons, List.length_nil, List.length_map, List.length_take, List.length_drop, List.length_replicate, List.length_set]; omega)) | (with_reducible refine fact ?_ ?_; first | trivial | exact ⟨rfl, rfl⟩ | kernel_rfl) | with_reducible refine choT (by assumption) ?_ | with_reducible refine choF (by assumption) ?_ | with_reducible refine choF' (by assumption) ?_ | (with_reducible refine altT ?_ ?_; first | omega | (simp only [List.length_append, List.length_cons, List.length_nil, List.length_map, List.length_take, List.length_drop, List.length_replicate, List.length_set]; omega)) | with_reducible refine altF ?_ | with_reducible refine all fun _ => ?_ | with_reducible refine both ?_ ?_ | (with_reducible refine choT ?_ ?_; omega) | (with_reducible refine choF ?_ ?_; omega) | with_reducible refine cho (fun _ => ?_) (fun _ => ?_))
          all_goals exact meet () trivial (Sub.drop_ (List.sublist_cons_self _ _) _)
        · rintro ⟨⟩ _
          repeat' (first | with_reducible apply Stp.go | with_reducible refine imp fun _ => ?_ | (with_reducible refine hyp ?_ ?_; first | assumption | exact leftT_mem (by assumption)) | (with_reducible refine need ?_ ?_; first | trivial | omega | exact ⟨by assumption, by omega⟩ | (simp only [List.length_append, List.length_cons, List.length_nil, List.length_map, List.length_take, List.length_drop, List.length_replicate, List.length_set]; omega)) | (with_reducible refine fact ?_ ?_; first | trivial | exact ⟨rfl, rfl⟩ | kernel_rfl) | with_reducible refine choT (by assumption) ?_ | with_reducible refine choF (by assumption) ?_ | with_reducible refine choF' (by assumption) ?_ | (with_reducible refine altT ?_ ?_; first | omega | (simp only [List.length_append, List.length_cons, List.length_nil, List.length_map, List.length_take, List.length_drop, List.length_replicate, List.length_set]; omega)) | with_reducible refine altF ?_ | with_reducible refine all fun _ => ?_ | with_reducible refine both ?_ ?_ | (with_reducible refine choT ?_ ?_; omega) | (with_reducible refine choF ?_ ?_; omega) | with_reducible refine cho (fun _ => ?_) (fun _ => ?_))
          exact ⟨_, _, _, rfl, Sub.drop_ (List.sublist_cons_self _ _) _, rfl, rfl⟩
theorem CheckRange_ok (b : Int) (root : List UInt8) [hr : Len32 root] (cnt p : Int) (part : List (List UInt8)) (m : SM) (path : List D32) (hc : cnt ≤ 9223372036854775807) (hl : part.length ≤ 1000000000) (hpb : ∀ b ∈ part, b.length ≤ 100000000000000) :
    aPure Go.Proofs.Try.prog 54 [trA b, dgA root, I .i64 cnt, I .i64 p,   .lst 1 (part.map bl) m, .lst 32 (path.map dgF) .ro] (B (checkR b ⟨root, hr.len⟩ cnt p part path)) := by
  refine ACalls.fin (tree_Tree_CheckRange.go ?_)
  unfold tree_Tree_CheckRange.sh
  by_cases h : 0 < part.length ∧ 0 ≤ p ∧ (part.length : Int) ≤ cnt ∧ p ≤ cnt - part.length
  · obtain ⟨n, rfl⟩ := Int.eq_ofNat_of_zero_le (show 0 ≤ cnt by omega)
    have e : checkR b ⟨root, hr.len⟩ n p part path = ((!(rootR b part n p (path, false)).2.2 && decide ((rootR b part n p (path, false)).2.1.length = 0)) && decide ((rootR b part n p (path, false)).1.val = root)) := by
      rw [checkR, decide_eq_true h, Bool.true_and, Int.toNat_natCast]
    rw [e]
    have inst : ∀ (o : Nat) (q : List D32) (c : Bool) (σ rest : Store) (put : Ent → Store) [hv : VarAt o σ OpT (opn4 b part m q c) put rest], EC Go.Proofs.Try.prog 95 [ptrAt o 0, I .i64 (n : Nat), I .i64 p] σ True Unit (fun _ => dgA (rootR b part n p (q, c)).1.val) (fun _ => put (.var o OpT (opn4 b part m (rootR b part n p (q, c)).2.1 (rootR b part n p (q, c)).2.2))) := fun o q c σ rest put hv => ⟨fun _ => (ACalls.at_ (oroot_ok b o part m hl hpb n n p (q, c) rfl (by omega) (by omega) (by omega) (by omega))).mono fun x σ' ⟨g1, g2⟩ => ⟨(), g1, g2⟩⟩
    have n1 := (rootR b part n p (path, false)).1.len
    have n2 := hr.len
    have n3 : (rootR b part n p (path, false)).1.val.length = 32 ∧ root.length = 32 := ⟨n1, n2⟩
    repeat' (first | with_reducible apply Stp.go | with_reducible refine imp fun _ => ?_ | (with_reducible refine hyp ?_ ?_; first | assumption | exact leftT_mem (by assumption)) | (with_reducible refine need ?_ ?_; first | trivial | omega | exact ⟨by assumption, by omega⟩ | (simp only [List.length_append, List.length_cons, List.length_nil, List.length_map, List.length_take, List.length_drop, List.length_replicate, List.length_set]; omega)) | (with_reducible refine fact ?_ ?_; first | trivial | exact ⟨rfl, rfl⟩ | kernel_rfl) | with_reducible refine choT (by assumption) ?_ | with_reducible refine choF (by assumption) ?_ | with_reducible refine choF' (by assumption) ?_ | (with_reducible refine altT ?_ ?_; first | omega | (simp only [List.length_append, List.length_cons, List.length_nil, List.length_map, List.length_take, List.length_drop, List.length_replicate, List.length_set]; omega)) | with_reducible refine altF ?_ | with_reducible refine all fun _ => ?_ | with_reducible refine both ?_ ?_ | (with_reducible refine choT ?_ ?_; omega) | (with_reducible refine choF ?_ ?_; omega) | with_reducible refine cho (fun _ => ?_) (fun _ => ?_))
    all_goals
      refine ⟨_, _, _, rfl, Sub.app_nil _, ?_, rfl⟩
      simp_all
  · have e : checkR b ⟨root, hr.len⟩ cnt p part path = false := by rw [checkR, decide_eq_false h, Bool.false_and]
    rw [e]
    repeat' (first | with_reducible apply Stp.go | with_reducible refine imp fun _ => ?_ | (with_reducible refine hyp ?_ ?_; first | assumption | exact leftT_mem (by assumption)) | (with_reducible refine need ?_ ?_; first | trivial | omega | exact ⟨by assumption, by omega⟩ | (simp only [List.length_append, List.length_cons, List.length_nil, List.length_map, List.length_take, List.length_drop, List.length_replicate, List.length_set]; omega)) | (with_reducible refine fact ?_ ?_; first | trivial | exact ⟨rfl, rfl⟩ | kernel_rfl) | with_reducible refine choT (by assumption) ?_ | with_reducible refine choF (by assumption) ?_ | with_reducible refine choF' (by assumption) ?_ | (with_reducible refine altT ?_ ?_; first | omega | (simp only [List.length_append, List.length_cons, List.length_nil, List.length_map, List.length_take, List.length_drop, List.length_replicate, List.length_set]; omega)) | with_reducible refine altF ?_ | with_reducible refine all fun _ => ?_ | with_reducible refine both ?_ ?_ | (with_reducible refine choT ?_ ?_; omega) | (with_reducible refine choF ?_ ?_; omega) | with_reducible refine cho (fun _ => ?_) (fun _ => ?_))
    all_goals first
      | exact ⟨_, _, _, rfl, Sub.app_nil _, rfl, rfl⟩
      | (exfalso; omega)
instance {a a2 : AV} {root : List UInt8} {part : List (List UInt8)} {m m' : SM} {b : Int} {cnt p : Int} {path : List D32} [hr : Len32 root] [h : IsL a bl 1 part m] [h2 : IsL a2 dgF 32 path m'] : PC Go.Proofs.Try.prog 54 [trA b, dgA root, I .i64 cnt, I .i64 p, a, a2] (cnt ≤ 9223372036854775807 ∧ part.length ≤ 1000000000 ∧ ∀ b ∈ part, b.length ≤ 100000000000000) (B (checkR b ⟨root, hr.len⟩ cnt p part path)) := ⟨fun hl => ⟨[trA b, dgA root, I .i64 cnt, I .i64 p, .lst 1 (part.map bl) m, .lst 32 (path.map dgF) .ro], ⟨SubV.refl _, SubV.refl _, SubV.refl _, SubV.refl _, h.sub, fun R v hv => SubV.ro _ _ _ R v (h2.sub R v hv), trivial⟩, CheckRange_ok b root cnt p part m path hl.1 hl.2.1 hl.2.2⟩⟩
end Go.Ab
