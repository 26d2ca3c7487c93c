/- What a table has of a key, checked. -/
import Derived.Test.YtobhbepiaibceaaF51
set_option linter.unusedVariables false
set_option linter.unusedSimpArgs false
namespace Go.Ab
section pts
variable {bt : Bool} {x y : Opn} {lev cnt : Int} {d f g : List UInt8} {K : AV → Prop}
abbrev ptCs (bt : Bool) (x y : Opn) : List AV := [B bt, I .i64 x.1, bl x.2.1, .lst 32 (x.2.2.map dgF) .ro, I .i64 y.1, bl y.2.1, .lst 32 (y.2.2.map dgF) .ro]
abbrev opCs (x : Opn) : List AV := [I .i64 x.1, bl x.2.1, .lst 32 (x.2.2.map dgF) .ro]
instance (priority := 75) faPtA : Stp (Do (aFieldAddr 1 3 (.rptr (ptCs bt x y))) K) (K (.rptr (opCs x))) := ⟨fun hK => ⟨_, ⟨by decide, by simp, rfl⟩, hK⟩⟩
instance (priority := 75) faPtB : Stp (Do (aFieldAddr 4 3 (.rptr (ptCs bt x y))) K) (K (.rptr (opCs y))) := ⟨fun hK => ⟨_, ⟨by decide, by simp, rfl⟩, hK⟩⟩
instance (priority := 75) ldOpn : Stp (Do (loadF true 3 (.rptr (opCs x))) K) (K (.agg (opCs x))) := ⟨fun hK => ⟨_, ⟨by decide, fun h => by (cases h), by simp, rfl⟩, hK⟩⟩
instance (priority := 75) ldTabF [hd : Len32 d] : Stp (Do (loadF true 36 (.rptr (tabCs lev cnt d f g))) K) (K (tabA lev cnt d f g)) := ⟨fun hK => ⟨_, ⟨by decide, fun h => by (cases h), by rw [tabCs_len]; decide, by
  rw [List.take_of_length_le (by rw [tabCs_len]; decide)]; rfl⟩, hK⟩⟩
end pts
theorem lt_flip (a b : List UInt8) : lt a b = !(lt b a || decide (b = a)) := by
  cases h : lt a b with
  | true => rw [lt_asymm h, decide_eq_false (fun e => lt_ne h e.symm)]; rfl
  | false =>
    cases h2 : lt b a with
    | true => rfl
    | false => rw [lt_tri h2 h]; simp
/-- What is told of a key: an error, whether it is there, the entry. -/
def seekC (b : Int) (root : D32) (cnt : Int) (f g k : List UInt8) (bt : Bool) (x y : Opn) : Nat × Bool × En :=
  if holdsB b root cnt x.1 x.2.1 x.2.2 = true ∧ coversB f g k = true then
    if bt = true then
      if holdsB b root cnt y.1 y.2.1 y.2.2 = true ∧ y.1 - 1 = x.1 ∧ lt (parseV x.2.1).key k = true ∧ lt k (parseV y.2.1).key = true then (0, false, En.zero) else (8, false, En.zero)
    else if (parseV x.2.1).key = k ∧ (y.1 = 0 ∧ y.2.1.length = 0 ∧ y.2.2.length = 0) then (0, true, parseV x.2.1) else (8, false, En.zero)
  else (8, false, En.zero)
def seek_Check.mark : Mark := ⟨fun t => Nat.beq t 20 || Nat.beq t 28 || Nat.beq t 42 || Nat.beq t 52, fun t => false, fun t => Nat.beq t 4 || Nat.beq t 5 || Nat.beq t 7, fun t => Nat.beq t 16 || Nat.beq t 17 || Nat.beq t 19 || Nat.beq t 26 || Nat.beq t 33 || Nat.beq t 41 || Nat.beq t 48 || Nat.beq t 49 || Nat.beq t 51 || Nat.beq t 60 || Nat.beq t 64, fun t => false⟩
def seek_Check.ann : Ann := ⟨fun n => [], fun n => none, fun n => none⟩
/-- 'marlstone/seek.Check' -/
def seek_Check.sh (a0 a1 a2 a3 : AV) (σ : Store) (Q : AEnd → Store → Prop) : Prop :=
  Do (aFreeze ((a0 : AV)).cells) fun t4 =>
  Do (aFreeze ((a1 : AV)).cells) fun t5 =>
  Do (aFreeze ((a3 : AV)).cells) fun t7 =>
  aNewVar 54 [.val (.string ⟨#[]⟩), .val (.string ⟨#[]⟩), .val (.bool false), .val (.int .i64 0)] σ fun t8 σ =>
  Do (loadF true 1 t4) fun t16 =>
  Do (loadF true 36 t5) fun t17 =>
  Do (aFieldAddr 1 3 t7) fun t18 =>
  Do (loadF true 3 t18) fun t19 =>
  Do (aPureC Go.Proofs.Try.prog 49 [t16, t17, t19]) fun t20 =>
  Do (aExt t20 0) fun t21 =>
  Do (aExt t20 1) fun t22 =>
  aNewVar 54 [.val (.string ⟨#[]⟩), .val (.string ⟨#[]⟩), .val (.bool false), .val (.int .i64 0)] σ fun t11 σ_1 =>
  storeA 4 t11 t21 σ_1 fun u σ_2 =>
  Do (aUn Go.Proofs.Try.prog .not t22) fun t24 =>
  Do (aGuard t24 false (loadF true 36 t5)) fun t26 =>
  Do (aGuard t24 false (aIs a2)) fun t27 =>
  Do (aGuard t24 false (aPureC Go.Proofs.Try.prog 18 [t26, t27])) fun t28 =>
  Do (aGuard t24 false (aUn Go.Proofs.Try.prog .not t28)) fun t29 =>
  Do (aPick t24 (.val (.bool true)) t29) fun t30 =>
  aCond t30
    (Do (aLit [.val (.string ⟨#[]⟩), .val (.string ⟨#[]⟩), .val (.bool false), .val (.int .i64 0)] [(0, 1), (1, 1), (2, 1), (3, 1)] []) fun t31 =>
    storeA 4 t8 t31 σ_2 fun u_1 σ_3 =>
    Do (loadA true 4 t8 σ_3) fun r8 => Q (.ret (.tuple [r8, (.val (.bool false)), (.val (.int .i64 8))])) σ_3)
    (Do (aFieldAddr 0 1 t7) fun t32 =>
  Do (loadF false 1 t32) fun t33 =>
  Do (aUn Go.Proofs.Try.prog .not t33) fun t34 =>
  aCond t34
    (Do (aFieldAddr 0 1 t11) fun t35 =>
    Do (loadA false 1 t35 σ_2) fun t36 =>
    Do (aBin Go.Proofs.Try.prog .neq 9 t36 a2) fun t38 =>
    Do (aGuard t38 false (aFieldAddr 4 3 t7)) fun t40 =>
    Do (aGuard t38 false (loadF true 3 t40)) fun t41 =>
    Do (aGuard t38 false (aPureC Go.Proofs.Try.prog 50 [t41])) fun t42 =>
    Do (aGuard t38 false (aUn Go.Proofs.Try.prog .not t42)) fun t43 =>
    Do (aPick t38 (.val (.bool true)) t43) fun t44 =>
    aCond t44
      (Do (aLit [.val (.string ⟨#[]⟩), .val (.string ⟨#[]⟩), .val (.bool false), .val (.int .i64 0)] [(0, 1), (1, 1), (2, 1), (3, 1)] []) fun t45 =>
      storeA 4 t8 t45 σ_2 fun u_2 σ_4 =>
      Do (loadA true 4 t8 σ_4) fun r8_1 => Q (.ret (.tuple [r8_1, (.val (.bool false)), (.val (.int .i64 8))])) σ_4)
      (Do (loadA true 4 t11 σ_2) fun t46 =>
    storeA 4 t8 t46 σ_2 fun u_3 σ_5 =>
    Do (loadA true 4 t8 σ_5) fun r8_2 => Q (.ret (.tuple [r8_2, (.val (.bool true)), (.val (.int .i64 0))])) σ_5))
    (Do (loadF true 1 t4) fun t48 =>
  Do (loadF true 36 t5) fun t49 =>
  Do (aFieldAddr 4 3 t7) fun t50 =>
  Do (loadF true 3 t50) fun t51 =>
  Do (aPureC Go.Proofs.Try.prog 49 [t48, t49, t51]) fun t52 =>
  Do (aExt t52 0) fun t53 =>
  Do (aExt t52 1) fun t54 =>
  aNewVar 54 [.val (.string ⟨#[]⟩), .val (.string ⟨#[]⟩), .val (.bool false), .val (.int .i64 0)] σ_2 fun t13 σ_6 =>
  storeA 4 t13 t53 σ_6 fun u_4 σ_7 =>
  Do (aUn Go.Proofs.Try.prog .not t54) fun t56 =>
  Do (aGuard t56 false (aFieldAddr 4 3 t7)) fun t58 =>
  Do (aGuard t56 false (aFieldAddr 0 1 t58)) fun t59 =>
  Do (aGuard t56 false (loadF false 1 t59)) fun t60 =>
  Do (aGuard t56 false (aBin Go.Proofs.Try.prog .sub 3 t60 (.val (.int .i64 1)))) fun t61 =>
  Do (aGuard t56 false (aFieldAddr 1 3 t7)) fun t62 =>
  Do (aGuard t56 false (aFieldAddr 0 1 t62)) fun t63 =>
  Do (aGuard t56 false (loadF false 1 t63)) fun t64 =>
  Do (aGuard t56 false (aBin Go.Proofs.Try.prog .neq 3 t61 t64)) fun t65 =>
  Do (aPick t56 (.val (.bool true)) t65) fun t66 =>
  Do (aGuard t66 false (aFieldAddr 0 1 t11)) fun t68 =>
  Do (aGuard t66 false (loadA false 1 t68 σ_7)) fun t69 =>
  Do (aGuard t66 false (aIs a2)) fun t70 =>
  Do (aGuard t66 false (aBin Go.Proofs.Try.prog .geq 9 t69 t70)) fun t71 =>
  Do (aPick t66 (.val (.bool true)) t71) fun t72 =>
  Do (aGuard t72 false (aFieldAddr 0 1 t13)) fun t74 =>
  Do (aGuard t72 false (loadA false 1 t74 σ_7)) fun t75 =>
  Do (aGuard t72 false (aIs a2)) fun t76 =>
  Do (aGuard t72 false (aBin Go.Proofs.Try.prog .leq 9 t75 t76)) fun t77 =>
  Do (aPick t72 (.val (.bool true)) t77) fun t78 =>
  aCond t78
    (Do (aLit [.val (.string ⟨#[]⟩), .val (.string ⟨#[]⟩), .val (.bool false), .val (.int .i64 0)] [(0, 1), (1, 1), (2, 1), (3, 1)] []) fun t79 =>
    storeA 4 t8 t79 σ_7 fun u_5 σ_8 =>
    Do (loadA true 4 t8 σ_8) fun r8_3 => Q (.ret (.tuple [r8_3, (.val (.bool false)), (.val (.int .i64 8))])) σ_8)
    (Do (aLit [.val (.string ⟨#[]⟩), .val (.string ⟨#[]⟩), .val (.bool false), .val (.int .i64 0)] [(0, 1), (1, 1), (2, 1), (3, 1)] []) fun t80 =>
  storeA 4 t8 t80 σ_7 fun u_6 σ_9 =>
  Do (loadA true 4 t8 σ_9) fun r8_4 => Q (.ret (.tuple [r8_4, (.val (.bool false)), (.val (.int .i64 0))])) σ_9)))
theorem seek_Check.eq (a0 a1 a2 a3 : AV) (σ : Store) (Q : AEnd → Store → Prop) : vc (semOf Go.Proofs.Try.prog seek_Check.mark) Go.Proofs.Try.f23.ntmps seek_Check.ann (bodyOf Go.Proofs.Try.f23) (endK [.cell 8 true 4, .tmp 9, .tmp 10] Q) (argFr [a0, a1, a2, a3]) σ = seek_Check.sh a0 a1 a2 a3 σ Q := by kernel_rfl
theorem seek_Check.go {a0 a1 a2 a3 : AV} {σ : Store} {Q : AEnd → Store → Prop} (h : seek_Check.sh a0 a1 a2 a3 σ Q) : ACalls Go.Proofs.Try.prog 23 [a0, a1, a2, a3] σ Q :=
  acalls_of_eq [.cell 8 true 4, .tmp 9, .tmp 10] Go.Proofs.Try.func23 (by kernel_rfl) (by kernel_rfl) (by kernel_rfl) (by kernel_rfl) (seek_Check.eq a0 a1 a2 a3 σ Q) h
theorem seekCheck_ok (b lev cnt : Int) (d f g k : List UInt8) [hd : Len32 d] (bt : Bool) (x y : Opn) (hc : cnt ≤ 9223372036854775807) (h1 : x.2.1.length ≤ 100000000000000) (h2 : y.2.1.length ≤ 100000000000000) :
    aPure Go.Proofs.Try.prog 23 [trA b, tabA lev cnt d f g, S k, ptA bt x y] (.tuple [(seekC b ⟨d, hd.len⟩ cnt f g k bt x y).2.2.av, B (seekC b ⟨d, hd.len⟩ cnt f g k bt x y).2.1, I .i64 ((seekC b ⟨d, hd.len⟩ cnt f g k bt x y).1 : Nat)]) := by
  refine ACalls.fin (seek_Check.go ?_)
  unfold seek_Check.sh
  unfold seekC
  have ht : (true : Bool) = true := rfl
  have hff : ¬ (false : Bool) = true := by decide
  cases hA : holdsB b ⟨d, hd.len⟩ cnt x.1 x.2.1 x.2.2 with
  | false =>
    rw [if_neg (fun h => hff h.1)]
    repeat' (first | with_reducible apply Stp.go | with_reducible refine imp fun _ => ?_ | (with_reducible refine hyp ?_ ?_; first | assumption | exact leftT_mem (by assumption)) | (with_reducible refine need ?_ ?_; first | trivial | omega | exact ⟨by assumption, by omega⟩ | (simp only [List.length_append, List.length_cons, List.length_nil, List.length_map, List.length_take, List.length_drop, List.length_replicate, List.length_set]; omega)) | (with_reducible refine fact ?_ ?_; first | trivial | exact ⟨rfl, rfl⟩ | kernel_rfl) | with_reducible refine choT (by assumption) ?_ | with_reducible refine choF (by assumption) ?_ | with_reducible refine choF' (by assumption) ?_ | (with_reducible refine altT ?_ ?_; first | omega | (simp only [List.length_append, List.length_cons, List.length_nil, List.length_map, List.length_take, List.length_drop, List.length_replicate, List.length_set]; omega)) | with_reducible refine altF ?_ | with_reducible refine all fun _ => ?_ | with_reducible refine both ?_ ?_ | (with_reducible refine choT ?_ ?_; omega) | (with_reducible refine choF ?_ ?_; omega) | with_reducible refine cho (fun _ => ?_) (fun _ => ?_))
    all_goals exact ⟨_, _, _, rfl, Sub.app_nil _, rfl, rfl⟩
  | true =>
    cases hC : coversB f g k with
    | false =>
      rw [if_neg (fun h => hff h.2)]
      repeat' (first | with_reducible apply Stp.go | with_reducible refine imp fun _ => ?_ | (with_reducible refine hyp ?_ ?_; first | assumption | exact leftT_mem (by assumption)) | (with_reducible refine need ?_ ?_; first | trivial | omega | exact ⟨by assumption, by omega⟩ | (simp only [List.length_append, List.length_cons, List.length_nil, List.length_map, List.length_take, List.length_drop, List.length_replicate, List.length_set]; omega)) | (with_reducible refine fact ?_ ?_; first | trivial | exact ⟨rfl, rfl⟩ | kernel_rfl) | with_reducible refine choT (by assumption) ?_ | with_reducible refine choF (by assumption) ?_ | with_reducible refine choF' (by assumption) ?_ | (with_reducible refine altT ?_ ?_; first | omega | (simp only [List.length_append, List.length_cons, List.length_nil, List.length_map, List.length_take, List.length_drop, List.length_replicate, List.length_set]; omega)) | with_reducible refine altF ?_ | with_reducible refine all fun _ => ?_ | with_reducible refine both ?_ ?_ | (with_reducible refine choT ?_ ?_; omega) | (with_reducible refine choF ?_ ?_; omega) | with_reducible refine cho (fun _ => ?_) (fun _ => ?_))
      all_goals exact ⟨_, _, _, rfl, Sub.app_nil _, rfl, rfl⟩
    | true =>
      rw [if_pos ⟨ht, ht⟩]
      cases bt with
      | false =>
        rw [if_neg hff]
        repeat' (first | with_reducible apply Stp.go | with_reducible refine imp fun _ => ?_ | (with_reducible refine hyp ?_ ?_; first | assumption | exact leftT_mem (by assumption)) | (with_reducible refine need ?_ ?_; first | trivial | omega | exact ⟨by assumption, by omega⟩ | (simp only [List.length_append, List.length_cons, List.length_nil, List.length_map, List.length_take, List.length_drop, List.length_replicate, List.length_set]; omega)) | (with_reducible refine fact ?_ ?_; first | trivial | exact ⟨rfl, rfl⟩ | kernel_rfl) | with_reducible refine choT (by assumption) ?_ | with_reducible refine choF (by assumption) ?_ | with_reducible refine choF' (by assumption) ?_ | (with_reducible refine altT ?_ ?_; first | omega | (simp only [List.length_append, List.length_cons, List.length_nil, List.length_map, List.length_take, List.length_drop, List.length_replicate, List.length_set]; omega)) | with_reducible refine altF ?_ | with_reducible refine all fun _ => ?_ | with_reducible refine both ?_ ?_ | (with_reducible refine choT ?_ ?_; omega) | (with_reducible refine choF ?_ ?_; omega) | with_reducible refine cho (fun _ => ?_) (fun _ => ?_))
        all_goals
          refine ⟨_, _, _, rfl, Sub.app_nil _, ?_, rfl⟩
          first
          | (rw [if_pos (by simp_all)]; rfl)
          | (rw [if_neg (by simp_all)]; rfl)
      | true =>
        rw [if_pos ht]
        cases hB : holdsB b ⟨d, hd.len⟩ cnt y.1 y.2.1 y.2.2 with
        | false =>
          rw [if_neg (fun h => hff h.1)]
          repeat' (first | with_reducible apply Stp.go | with_reducible refine imp fun _ => ?_ | (with_reducible refine hyp ?_ ?_; first | assumption | exact leftT_mem (by assumption)) | (with_reducible refine need ?_ ?_; first | trivial | omega | exact ⟨by assumption, by omega⟩ | (simp only [List.length_append, List.length_cons, List.length_nil, List.length_map, List.length_take, List.length_drop, List.length_replicate, List.length_set]; omega)) | (with_reducible refine fact ?_ ?_; first | trivial | exact ⟨rfl, rfl⟩ | kernel_rfl) | with_reducible refine choT (by assumption) ?_ | with_reducible refine choF (by assumption) ?_ | with_reducible refine choF' (by assumption) ?_ | (with_reducible refine altT ?_ ?_; first | omega | (simp only [List.length_append, List.length_cons, List.length_nil, List.length_map, List.length_take, List.length_drop, List.length_replicate, List.length_set]; omega)) | with_reducible refine altF ?_ | with_reducible refine all fun _ => ?_ | with_reducible refine both ?_ ?_ | (with_reducible refine choT ?_ ?_; omega) | (with_reducible refine choF ?_ ?_; omega) | with_reducible refine cho (fun _ => ?_) (fun _ => ?_))
          all_goals exact ⟨_, _, _, rfl, Sub.app_nil _, rfl, rfl⟩
        | true =>
          obtain ⟨b1, b2⟩ := holdsB_in hB
          rw [lt_flip k (parseV y.2.1).key]
          repeat' (first | with_reducible apply Stp.go | with_reducible refine imp fun _ => ?_ | (with_reducible refine hyp ?_ ?_; first | assumption | exact leftT_mem (by assumption)) | (with_reducible refine need ?_ ?_; first | trivial | omega | exact ⟨by assumption, by omega⟩ | (simp only [List.length_append, List.length_cons, List.length_nil, List.length_map, List.length_take, List.length_drop, List.length_replicate, List.length_set]; omega)) | (with_reducible refine fact ?_ ?_; first | trivial | exact ⟨rfl, rfl⟩ | kernel_rfl) | with_reducible refine choT (by assumption) ?_ | with_reducible refine choF (by assumption) ?_ | with_reducible refine choF' (by assumption) ?_ | (with_reducible refine altT ?_ ?_; first | omega | (simp only [List.length_append, List.length_cons, List.length_nil, List.length_map, List.length_take, List.length_drop, List.length_replicate, List.length_set]; omega)) | with_reducible refine altF ?_ | with_reducible refine all fun _ => ?_ | with_reducible refine both ?_ ?_ | (with_reducible refine choT ?_ ?_; omega) | (with_reducible refine choF ?_ ?_; omega) | with_reducible refine cho (fun _ => ?_) (fun _ => ?_))
          all_goals
            refine ⟨_, _, _, rfl, Sub.app_nil _, ?_, rfl⟩
            first
            | (rw [if_pos (by simp_all [lt])]; rfl)
            | (rw [if_neg (by intro hcc; simp_all [lt])]; rfl)
instance {b lev cnt : Int} {d f g k : List UInt8} [hd : Len32 d] {bt : Bool} {x y : Opn} : PC Go.Proofs.Try.prog 23 [trA b, tabA lev cnt d f g, S k, ptA bt x y] (cnt ≤ 9223372036854775807 ∧ x.2.1.length ≤ 100000000000000 ∧ y.2.1.length ≤ 100000000000000) (.tuple [(seekC b ⟨d, hd.len⟩ cnt f g k bt x y).2.2.av, B (seekC b ⟨d, hd.len⟩ cnt f g k bt x y).2.1, I .i64 ((seekC b ⟨d, hd.len⟩ cnt f g k bt x y).1 : Nat)]) := ⟨fun hl => PC.of (seekCheck_ok b lev cnt d f g k bt x y hl.1 hl.2.1 hl.2.2)⟩
end Go.Ab
