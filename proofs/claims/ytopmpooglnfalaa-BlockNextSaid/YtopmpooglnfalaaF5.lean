/- A block's bytes. -/
import Derived.Test.YtopmpooglnfalaaF4
set_option linter.unusedVariables false
set_option linter.unusedSimpArgs false
namespace Go.Ab
def block_Bytes.mark : Mark := ⟨fun t => Nat.beq t 10 || Nat.beq t 35, fun t => false, fun t => false, fun t => Nat.beq t 18 || Nat.beq t 32, fun t => false⟩
def block_Bytes.ann : Ann := ⟨fun n => bif Nat.beq n 5 then [0, 4, 5, 12, 13, 14] else [], fun n => bif Nat.beq n 11 then some [0, 4, 5, 7, 8, 12, 13, 14] else bif Nat.beq n 15 then some [0, 4, 5, 7, 12, 13, 14] else none, fun n => bif Nat.beq n 11 then some [0, 4, 5, 7, 12, 13, 14] else none⟩
/-- 'marlstone/block.Bytes' -/
def block_Bytes.sh (a0 : AV) (σ : Store) (Q : AEnd → Store → Prop) : Prop :=
  Do (aPureC Go.Proofs.Try.prog 45 [a0]) fun t10 =>
  Do (aUn Go.Proofs.Try.prog .not t10) fun t11 =>
  aCond t11
    (Q (.ret (.tuple [(.val (.slice none 0 0)), (.val (.int .i64 1))])) σ)
    (Do (aBuiltin Go.Proofs.Try.prog .len #[22] [a0]) fun t13 =>
  aLoop (fun go vs σ =>
    At vs 0 fun s0 => At vs 1 fun s4 => At vs 2 fun s5 => At vs 3 fun s12 => At vs 4 fun s13 => At vs 5 fun s14 => Do (aBin Go.Proofs.Try.prog .lss 3 s14 s13) fun t15 =>
    aCond t15
      (Do (aIndexAddr .slice 4 s12 s14) fun t17 =>
    Do (loadF true 4 t17) fun t18 =>
    aNewVar 35 [.val (.string ⟨#[]⟩), .val (.string ⟨#[]⟩), .val (.bool false), .val (.int .i64 0)] σ fun t7 σ_1 =>
    storeA 4 t7 t18 σ_1 fun u σ_2 =>
    aJoin (fun j =>
      Do (aBin Go.Proofs.Try.prog .rem 3 s14 (.val (.int .i64 8))) fun t20 =>
      Do (aBin Go.Proofs.Try.prog .eql 3 t20 (.val (.int .i64 0))) fun t21 =>
      aCond t21
        (Do (aBuiltin Go.Proofs.Try.prog .len #[25] [s4]) fun t24 =>
        Do (fun x => aConvN 3 59 t24 x Go.Proofs.Try.prog) fun t25 =>
        aCall Go.Proofs.Try.prog 46 [s5, t25] σ_2 (fun t26 σ_4 =>
        j [s0, s4, t26, t7, (.val (.int .i64 0)), s12, s13, s14] σ_4) (fun e σ_5 => Q (.pan e) σ_5))
        (Do (aBin Go.Proofs.Try.prog .sub 3 s14 (.val (.int .i64 1))) fun t29 =>
        Do (aIndexAddr .slice 4 s0 t29) fun t30 =>
        Do (aFieldAddr 0 1 t30) fun t31 =>
        Do (loadF false 1 t31) fun t32 =>
        Do (aFieldAddr 0 1 t7) fun t33 =>
        Do (loadA false 1 t33 σ_2) fun t34 =>
        Do (aPureC Go.Proofs.Try.prog 47 [t32, t34]) fun t35 =>
        j [s0, s4, s5, t7, t35, s12, s13, s14] σ_2)) fun vs_1 σ_3 =>
    At vs_1 0 fun s0_1 => At vs_1 1 fun s4_1 => At vs_1 2 fun s5_1 => At vs_1 3 fun s7 => At vs_1 4 fun s8 => At vs_1 5 fun s12_1 => At vs_1 6 fun s13_1 => At vs_1 7 fun s14_1 => aJoin (fun j_1 =>
      Do (fun x => aConvN 3 63 s8 x Go.Proofs.Try.prog) fun t38 =>
      Do (aFieldAddr 0 1 s7) fun t40 =>
      Both (aCall Go.Proofs.Try.prog 49 [s4_1, t38] σ_3 (fun t39 σ_7 =>
      Do (loadA false 1 t40 σ_7) fun t41 =>
      Do (aSlice .string 1 t41 (some s8) none none) fun t43 =>
      aCall Go.Proofs.Try.prog 48 [t39, t43] σ_7 (fun t44 σ_8 =>
      j_1 [s0_1, t44, s5_1, s7, s12_1, s13_1, s14_1] σ_8) (fun e_1 σ_9 => Q (.pan e_1) σ_9)) (fun e_2 σ_10 => Q (.pan e_2) σ_10)) (Do (loadA false 1 t40 σ_3) fun t41_1 =>
      Do (aSlice .string 1 t41_1 (some s8) none none) fun t43_1 =>
      aCall Go.Proofs.Try.prog 49 [s4_1, t38] σ_3 (fun t39_1 σ_11 =>
      aCall Go.Proofs.Try.prog 48 [t39_1, t43_1] σ_11 (fun t44_1 σ_12 =>
      j_1 [s0_1, t44_1, s5_1, s7, s12_1, s13_1, s14_1] σ_12) (fun e_3 σ_13 => Q (.pan e_3) σ_13)) (fun e_4 σ_14 => Q (.pan e_4) σ_14))) fun vs_2 σ_6 =>
    At vs_2 0 fun s0_2 => At vs_2 1 fun s4_2 => At vs_2 2 fun s5_2 => At vs_2 3 fun s7_1 => At vs_2 4 fun s12_2 => At vs_2 5 fun s13_2 => At vs_2 6 fun s14_2 => Do (aSlLit (mkE [.val (.int .u8 0)]) 1 1 [(0, (W8 0))]) fun t46 =>
    aAppend 5 1 1 s4_2 t46 σ_6 (subK fun t47 σ_15 =>
    aJoin (fun j_2 =>
      Do (aFieldAddr 2 1 s7_1) fun t48 =>
      Do (loadA false 1 t48 σ_15) fun t49 =>
      aCond t49
        (Do (aBuiltin Go.Proofs.Try.prog .len #[25] [t47]) fun t52 =>
        Do (aBin Go.Proofs.Try.prog .sub 3 t52 (.val (.int .i64 1))) fun t53 =>
        Do (aIndexAddr .slice 1 t47 t53) fun t54 =>
        storeA 1 t54 (W8 1) σ_15 fun u_1 σ_17 =>
        j_2 [s0_2, t47, s5_2, s7_1, s12_2, s13_2, s14_2] σ_17)
        (j_2 [s0_2, t47, s5_2, s7_1, s12_2, s13_2, s14_2] σ_15)) fun vs_3 σ_16 =>
    At vs_3 0 fun s0_3 => At vs_3 1 fun s4_3 => At vs_3 2 fun s5_3 => At vs_3 3 fun s7_2 => At vs_3 4 fun s12_3 => At vs_3 5 fun s13_3 => At vs_3 6 fun s14_3 => Do (aFieldAddr 3 1 s7_2) fun t56 =>
    Do (loadA false 1 t56 σ_16) fun t57 =>
    Do (fun x => aConvN 3 63 t57 x Go.Proofs.Try.prog) fun t58 =>
    aCall Go.Proofs.Try.prog 49 [s4_3, t58] σ_16 (fun t59 σ_18 =>
    Do (aFieldAddr 2 1 s7_2) fun t60 =>
    Do (loadA false 1 t60 σ_18) fun t61 =>
    Do (aUn Go.Proofs.Try.prog .not t61) fun t62 =>
    aCond t62
      (Do (aFieldAddr 1 1 s7_2) fun t64 =>
      Do (loadA false 1 t64 σ_18) fun t65 =>
      aCall Go.Proofs.Try.prog 48 [t59, t65] σ_18 (fun t66 σ_19 =>
      Do (aBin Go.Proofs.Try.prog .add 3 s14_3 (.val (.int .i64 1))) fun t67 =>
    go [s0_3, t66, s5_3, s12_3, s13_3, t67] σ_19) (fun e_5 σ_20 => Q (.pan e_5) σ_20))
      (Do (aBin Go.Proofs.Try.prog .add 3 s14_3 (.val (.int .i64 1))) fun t67_1 =>
    go [s0_3, t59, s5_3, s12_3, s13_3, t67_1] σ_18)) (fun e_6 σ_21 => Q (.pan e_6) σ_21)))
      (aAppend 5 1 1 s4 s5 σ (subK fun t70 σ_22 =>
  Do (aBuiltin Go.Proofs.Try.prog .len #[25] [s5]) fun t73 =>
  Do (aBin Go.Proofs.Try.prog .quo 3 t73 (.val (.int .i64 4))) fun t74 =>
  Do (fun x => aConvN 3 59 t74 x Go.Proofs.Try.prog) fun t75 =>
  aCall Go.Proofs.Try.prog 46 [t70, t75] σ_22 (fun t76 σ_23 =>
  Q (.ret (.tuple [t76, (.val (.int .i64 0))])) σ_23) (fun e_7 σ_24 => Q (.pan e_7) σ_24))))
    [a0, (.val (.slice none 0 0)), (.val (.slice none 0 0)), a0, t13, (.val (.int .i64 0))] σ)
theorem block_Bytes.eq (a0 : AV) (σ : Store) (Q : AEnd → Store → Prop) : vc (semOf Go.Proofs.Try.prog block_Bytes.mark) Go.Proofs.Try.f20.ntmps block_Bytes.ann (bodyOf Go.Proofs.Try.f20) (endK [.tmp 2, .tmp 3] Q) (argFr [a0]) σ = block_Bytes.sh a0 σ Q := by kernel_rfl
theorem block_Bytes.go {a0 : AV} {σ : Store} {Q : AEnd → Store → Prop} (h : block_Bytes.sh a0 σ Q) : ACalls Go.Proofs.Try.prog 20 [a0] σ Q :=
  acalls_of_eq [.tmp 2, .tmp 3] Go.Proofs.Try.func20 (by kernel_rfl) (by kernel_rfl) (by kernel_rfl) (by kernel_rfl) (block_Bytes.eq a0 σ Q) h
theorem set_last (X : List UInt8) (a b : UInt8) (n : Nat) (h : n = X.length) : (X ++ [a]).set n b = X ++ [b] := by
  subst h
  simp
/-- The bytes of a block, or none, and whether there are any. -/
def blkB (l : List En) : List UInt8 := if fit l = true then blockBytes l else []
def blkE (l : List En) : Int := if fit l = true then 0 else 1
set_option maxHeartbeats 1000000 in
theorem block_Bytes_ok (l : List En) (m : SM) (hl : l.length ≤ 1000000000000) : aPure Go.Proofs.Try.prog 20 [.lst 4 (l.map En.av) m] (.tuple [.lst 1 ((blkB l).map byt) .ro, I .i64 (blkE l)]) := by
  refine ACalls.fin (block_Bytes.go ?_)
  unfold block_Bytes.sh
  repeat' (first | with_reducible apply Stp.go | with_reducible refine imp fun _ => ?_ | (with_reducible refine hyp ?_ ?_; first | assumption | exact leftT_mem (by assumption)) | (with_reducible refine need ?_ ?_; first | trivial | omega | (simp only [List.length_append, List.length_cons, List.length_nil, List.length_map, List.length_take, List.length_drop, List.length_replicate]; omega)) | (with_reducible refine fact ?_ ?_; first | trivial | exact ⟨rfl, rfl⟩ | kernel_rfl) | with_reducible refine choT (by assumption) ?_ | with_reducible refine choF (by assumption) ?_ | with_reducible refine choF' (by assumption) ?_ | (with_reducible refine altT ?_ ?_; first | omega | (simp only [List.length_append, List.length_cons, List.length_nil, List.length_map, List.length_take, List.length_drop, List.length_replicate]; omega)) | with_reducible refine altF ?_ | with_reducible refine all fun _ => ?_ | with_reducible refine both ?_ ?_ | (with_reducible refine choT ?_ ?_; omega) | (with_reducible refine choF ?_ ?_; omega) | with_reducible refine cho (fun _ => ?_) (fun _ => ?_))
  · rename_i hf
    obtain ⟨h64, h0, hs, hr⟩ := fit_right hf
    refine loopI (β := Nat × Value × Value) (fun x => x.1 ≤ l.length) (fun x => [.lst 4 (l.map En.av) m, .own x.2.1 (blk l x.1).1.length, .own x.2.2 (blk l x.1).2.length, .lst 4 (l.map En.av) m, I .i64 (l.length : Nat), I .i64 (x.1 : Nat)])
      (fun x => [.row x.2.1 5 1 ((blk l x.1).1.map byt) 0, .row x.2.2 5 1 ((blk l x.1).2.map byt) 0]) (fun x => l.length - x.1) (0, .slice none 0 0, .slice none 0 0) (Nat.zero_le _)
      ((Sub.nil_own 5 (by decide) _ [_] [_, _, _, _]).trans (Sub.nil_own 5 (by decide) _ [_, _] [_, _, _])) ?_
    rintro ⟨i, v, w⟩ hi
    dsimp only at hi ⊢
    obtain ⟨b1, b2, b3⟩ := blk_length hr i hi
    have hsh := sharedAt_le l i
    by_cases hlt : i < l.length
    · have hri := hr i (by omega)
      obtain ⟨k0, k1, k2, k3, k4, k5⟩ := right_bounds hri
      repeat' (first | with_reducible apply Stp.go | with_reducible refine imp fun _ => ?_ | (with_reducible refine hyp ?_ ?_; first | assumption | exact leftT_mem (by assumption)) | (with_reducible refine need ?_ ?_; first | trivial | omega | (simp only [List.length_append, List.length_cons, List.length_nil, List.length_map, List.length_take, List.length_drop, List.length_replicate]; omega)) | (with_reducible refine fact ?_ ?_; first | trivial | exact ⟨rfl, rfl⟩ | kernel_rfl) | with_reducible refine choT (by assumption) ?_ | with_reducible refine choF (by assumption) ?_ | with_reducible refine choF' (by assumption) ?_ | (with_reducible refine altT ?_ ?_; first | omega | (simp only [List.length_append, List.length_cons, List.length_nil, List.length_map, List.length_take, List.length_drop, List.length_replicate]; omega)) | with_reducible refine altF ?_ | with_reducible refine all fun _ => ?_ | with_reducible refine both ?_ ?_ | (with_reducible refine choT ?_ ?_; omega) | (with_reducible refine choF ?_ ?_; omega) | with_reducible refine cho (fun _ => ?_) (fun _ => ?_))
      rename_i a
      have hprev : (l.getD (i - 1) default).key.length ≤ 128 := by
        rcases Nat.eq_zero_or_pos i with e | e
        · subst e; exact k1
        · exact (right_bounds (hr (i - 1) (by omega))).2.1
      refine joinI (β := Value) (fun _ => True) (fun w => [.lst 4 (l.map En.av) m, .own v (blk l i).1.length, .own w (blk l (i + 1)).2.length, ptrAt a 0, I .i64 (sharedAt l i : Nat), .lst 4 (l.map En.av) m, I .i64 (l.length : Nat), I .i64 (i : Nat)])
        (fun w => [.var a 35 (l.getD i default).cs, .row v 5 1 ((blk l i).1.map byt) 0, .row w 5 1 ((blk l (i + 1)).2.map byt) 0]) ?_ ?_
      · repeat' (first | with_reducible apply Stp.go | with_reducible refine imp fun _ => ?_ | (with_reducible refine hyp ?_ ?_; first | assumption | exact leftT_mem (by assumption)) | (with_reducible refine need ?_ ?_; first | trivial | omega | (simp only [List.length_append, List.length_cons, List.length_nil, List.length_map, List.length_take, List.length_drop, List.length_replicate]; omega)) | (with_reducible refine fact ?_ ?_; first | trivial | exact ⟨rfl, rfl⟩ | kernel_rfl) | with_reducible refine choT (by assumption) ?_ | with_reducible refine choF (by assumption) ?_ | with_reducible refine choF' (by assumption) ?_ | (with_reducible refine altT ?_ ?_; first | omega | (simp only [List.length_append, List.length_cons, List.length_nil, List.length_map, List.length_take, List.length_drop, List.length_replicate]; omega)) | with_reducible refine altF ?_ | with_reducible refine all fun _ => ?_ | with_reducible refine both ?_ ?_ | (with_reducible refine choT ?_ ?_; omega) | (with_reducible refine choF ?_ ?_; omega) | with_reducible refine cho (fun _ => ?_) (fun _ => ?_))
        · rename_i h8 x
          have e : (blk l (i + 1)).2 = (blk l i).2 ++ fixed (blk l i).1.length := by simp only [blk, h8, if_true]
          have e2 : sharedAt l i = 0 := by simp only [sharedAt, h8, if_true]
          refine meet x trivial ?_
          rw [e2, e]
          exact subS _
        · rename_i h8
          have e : (blk l (i + 1)).2 = (blk l i).2 := by simp only [blk, h8, if_false, List.append_nil]
          have e2 : common (l.getD (i - 1) default).key (l.getD i default).key = sharedAt l i := by simp only [sharedAt, h8, if_false]
          refine meet w trivial ?_
          rw [e2, e]
          exact subS _
      · intro w _
        obtain ⟨X, hX⟩ : ∃ X, X = (blk l i).1 ++ put (sharedAt l i) ++ (put ((l.getD i default).key.drop (sharedAt l i)).length ++ (l.getD i default).key.drop (sharedAt l i)) := ⟨_, rfl⟩
        have hp1 := put_len64 (v := sharedAt l i) (by omega)
        have hp2 := put_len64 (v := ((l.getD i default).key.drop (sharedAt l i)).length) (by simp only [List.length_drop]; omega)
        have hd1 : ((l.getD i default).key.drop (sharedAt l i)).length ≤ 128 := by rw [List.length_drop]; omega
        have hXl : X.length ≤ 1200 * i + 150 := by
          rw [hX, List.length_append, List.length_append, List.length_append]
          omega
        repeat' (first | with_reducible apply Stp.go | with_reducible refine imp fun _ => ?_ | (with_reducible refine hyp ?_ ?_; first | assumption | exact leftT_mem (by assumption)) | (with_reducible refine need ?_ ?_; first | trivial | omega | (simp only [List.length_append, List.length_cons, List.length_nil, List.length_map, List.length_take, List.length_drop, List.length_replicate]; omega)) | (with_reducible refine fact ?_ ?_; first | trivial | exact ⟨rfl, rfl⟩ | kernel_rfl) | with_reducible refine choT (by assumption) ?_ | with_reducible refine choF (by assumption) ?_ | with_reducible refine choF' (by assumption) ?_ | (with_reducible refine altT ?_ ?_; first | omega | (simp only [List.length_append, List.length_cons, List.length_nil, List.length_map, List.length_take, List.length_drop, List.length_replicate]; omega)) | with_reducible refine altF ?_ | with_reducible refine all fun _ => ?_ | with_reducible refine both ?_ ?_ | (with_reducible refine choT ?_ ?_; omega) | (with_reducible refine choF ?_ ?_; omega) | with_reducible refine cho (fun _ => ?_) (fun _ => ?_))
        refine joinI (β := Value) (fun _ => True) (fun y => [.lst 4 (l.map En.av) m, .own y X.length, .own w (blk l (i + 1)).2.length, ptrAt a 0, .lst 4 (l.map En.av) m, I .i64 (l.length : Nat), I .i64 (i : Nat)])
          (fun y => [.var a 35 (l.getD i default).cs, .row y 5 1 (X.map byt) 0, .row w 5 1 ((blk l (i + 1)).2.map byt) 0]) ?_ ?_
        · repeat' (first | with_reducible apply Stp.go | with_reducible refine imp fun _ => ?_ | (with_reducible refine hyp ?_ ?_; first | assumption | exact leftT_mem (by assumption)) | (with_reducible refine need ?_ ?_; first | trivial | omega | (simp only [List.length_append, List.length_cons, List.length_nil, List.length_map, List.length_take, List.length_drop, List.length_replicate]; omega)) | (with_reducible refine fact ?_ ?_; first | trivial | exact ⟨rfl, rfl⟩ | kernel_rfl) | with_reducible refine choT (by assumption) ?_ | with_reducible refine choF (by assumption) ?_ | with_reducible refine choF' (by assumption) ?_ | (with_reducible refine altT ?_ ?_; first | omega | (simp only [List.length_append, List.length_cons, List.length_nil, List.length_map, List.length_take, List.length_drop, List.length_replicate]; omega)) | with_reducible refine altF ?_ | with_reducible refine all fun _ => ?_ | with_reducible refine both ?_ ?_ | (with_reducible refine choT ?_ ?_; omega) | (with_reducible refine choF ?_ ?_; omega) | with_reducible refine cho (fun _ => ?_) (fun _ => ?_))
          all_goals
            rename_i y
            refine meet y trivial ?_
            rw [hX]
            exact subS _
        · intro y _
          have hseq := put_len64 (v := (l.getD i default).seq.toNat) (by omega)
          have hvl := put_len64 (v := (l.getD i default).val.length) (by omega)
          obtain ⟨Y, hY⟩ : ∃ Y, Y = X ++ [if (l.getD i default).del = true then (1 : UInt8) else 0] := ⟨_, rfl⟩
          have hYl : Y.length = X.length + 1 := by rw [hY]; simp
          have fin : (blk l (i + 1)).1 = Y ++ put (l.getD i default).seq.toNat ++ (if (l.getD i default).del = true then [] else put (l.getD i default).val.length ++ (l.getD i default).val) := by
            rw [hY, hX]
            simp only [blk, encE, List.append_assoc]
          repeat' (first | with_reducible apply Stp.go | with_reducible refine imp fun _ => ?_ | (with_reducible refine hyp ?_ ?_; first | assumption | exact leftT_mem (by assumption)) | (with_reducible refine need ?_ ?_; first | trivial | omega | (simp only [List.length_append, List.length_cons, List.length_nil, List.length_map, List.length_take, List.length_drop, List.length_replicate]; omega)) | (with_reducible refine fact ?_ ?_; first | trivial | exact ⟨rfl, rfl⟩ | kernel_rfl) | with_reducible refine choT (by assumption) ?_ | with_reducible refine choF (by assumption) ?_ | with_reducible refine choF' (by assumption) ?_ | (with_reducible refine altT ?_ ?_; first | omega | (simp only [List.length_append, List.length_cons, List.length_nil, List.length_map, List.length_take, List.length_drop, List.length_replicate]; omega)) | with_reducible refine altF ?_ | with_reducible refine all fun _ => ?_ | with_reducible refine both ?_ ?_ | (with_reducible refine choT ?_ ?_; omega) | (with_reducible refine choF ?_ ?_; omega) | with_reducible refine cho (fun _ => ?_) (fun _ => ?_))
          refine joinI (β := Value) (fun _ => True) (fun y => [.lst 4 (l.map En.av) m, .own y Y.length, .own w (blk l (i + 1)).2.length, ptrAt a 0, .lst 4 (l.map En.av) m, I .i64 (l.length : Nat), I .i64 (i : Nat)])
            (fun y => [.var a 35 (l.getD i default).cs, .row y 5 1 (Y.map byt) 0, .row w 5 1 ((blk l (i + 1)).2.map byt) 0]) ?_ ?_
          · repeat' (first | with_reducible apply Stp.go | with_reducible refine imp fun _ => ?_ | (with_reducible refine hyp ?_ ?_; first | assumption | exact leftT_mem (by assumption)) | (with_reducible refine need ?_ ?_; first | trivial | omega | (simp only [List.length_append, List.length_cons, List.length_nil, List.length_map, List.length_take, List.length_drop, List.length_replicate]; omega)) | (with_reducible refine fact ?_ ?_; first | trivial | exact ⟨rfl, rfl⟩ | kernel_rfl) | with_reducible refine choT (by assumption) ?_ | with_reducible refine choF (by assumption) ?_ | with_reducible refine choF' (by assumption) ?_ | (with_reducible refine altT ?_ ?_; first | omega | (simp only [List.length_append, List.length_cons, List.length_nil, List.length_map, List.length_take, List.length_drop, List.length_replicate]; omega)) | with_reducible refine altF ?_ | with_reducible refine all fun _ => ?_ | with_reducible refine both ?_ ?_ | (with_reducible refine choT ?_ ?_; omega) | (with_reducible refine choF ?_ ?_; omega) | with_reducible refine cho (fun _ => ?_) (fun _ => ?_))
            · rename_i z hd
              refine meet z trivial ?_
              rw [hYl, hY, if_pos hd, set_last _ _ _ _ (by simp)]
              simp only [List.length_append, List.length_cons, List.length_nil]
              exact subS _
            · rename_i z hd
              refine meet z trivial ?_
              rw [hYl, hY, if_neg hd]
              simp only [List.length_append, List.length_cons, List.length_nil]
              exact subS _
          · intro z _
            repeat' (first | with_reducible apply Stp.go | with_reducible refine imp fun _ => ?_ | (with_reducible refine hyp ?_ ?_; first | assumption | exact leftT_mem (by assumption)) | (with_reducible refine need ?_ ?_; first | trivial | omega | (simp only [List.length_append, List.length_cons, List.length_nil, List.length_map, List.length_take, List.length_drop, List.length_replicate]; omega)) | (with_reducible refine fact ?_ ?_; first | trivial | exact ⟨rfl, rfl⟩ | kernel_rfl) | with_reducible refine choT (by assumption) ?_ | with_reducible refine choF (by assumption) ?_ | with_reducible refine choF' (by assumption) ?_ | (with_reducible refine altT ?_ ?_; first | omega | (simp only [List.length_append, List.length_cons, List.length_nil, List.length_map, List.length_take, List.length_drop, List.length_replicate]; omega)) | with_reducible refine altF ?_ | with_reducible refine all fun _ => ?_ | with_reducible refine both ?_ ?_ | (with_reducible refine choT ?_ ?_; omega) | (with_reducible refine choF ?_ ?_; omega) | with_reducible refine cho (fun _ => ?_) (fun _ => ?_))
            · rename_i x hd
              refine again (i + 1, x, w) (by dsimp only; omega) (by dsimp only; omega) ?_
              dsimp only
              rw [fin, if_pos hd, List.append_nil]
              exact subS _
            · rename_i hd x
              refine again (i + 1, x, w) (by dsimp only; omega) (by dsimp only; omega) ?_
              dsimp only
              rw [fin, if_neg hd]
              exact subS _
    · have e : i = l.length := by omega
      subst e
      repeat' (first | with_reducible apply Stp.go | with_reducible refine imp fun _ => ?_ | (with_reducible refine hyp ?_ ?_; first | assumption | exact leftT_mem (by assumption)) | (with_reducible refine need ?_ ?_; first | trivial | omega | (simp only [List.length_append, List.length_cons, List.length_nil, List.length_map, List.length_take, List.length_drop, List.length_replicate]; omega)) | (with_reducible refine fact ?_ ?_; first | trivial | exact ⟨rfl, rfl⟩ | kernel_rfl) | with_reducible refine choT (by assumption) ?_ | with_reducible refine choF (by assumption) ?_ | with_reducible refine choF' (by assumption) ?_ | (with_reducible refine altT ?_ ?_; first | omega | (simp only [List.length_append, List.length_cons, List.length_nil, List.length_map, List.length_take, List.length_drop, List.length_replicate]; omega)) | with_reducible refine altF ?_ | with_reducible refine all fun _ => ?_ | with_reducible refine both ?_ ?_ | (with_reducible refine choT ?_ ?_; omega) | (with_reducible refine choF ?_ ?_; omega) | with_reducible refine cho (fun _ => ?_) (fun _ => ?_))
      rename_i x
      refine ⟨_, _, _, rfl, Sub.tuple (retOwn (rest := [.row w 5 1 ((blk l l.length).2.map byt) 0]) (Sub.app_nil _)), ?_, rfl⟩
      simp [blkB, blkE, hf, blockBytes]
  · rename_i hf
    refine ⟨_, _, _, rfl, Sub.tuple (retNil byt (sz := 1) (by decide) (Sub.refl _ _)), ?_, rfl⟩
    simp [blkB, blkE, hf]
instance {a : AV} {l : List En} {m : SM} [h : IsL a En.av 4 l m] : PC Go.Proofs.Try.prog 20 [a] (l.length ≤ 1000000000000) (.tuple [.lst 1 ((blkB l).map byt) .ro, I .i64 (blkE l)]) := ⟨fun hl => ⟨[.lst 4 (l.map En.av) m], ⟨h.sub, trivial⟩, block_Bytes_ok l m hl⟩⟩
def ref04_Bytes.mark : Mark := ⟨fun t => Nat.beq t 12 || Nat.beq t 28 || Nat.beq t 42 || Nat.beq t 46 || Nat.beq t 55 || Nat.beq t 72 || Nat.beq t 85 || Nat.beq t 91, fun t => false, fun t => false, fun t => Nat.beq t 36 || Nat.beq t 41 || Nat.beq t 52 || Nat.beq t 60 || Nat.beq t 70 || Nat.beq t 77 || Nat.beq t 84, fun t => false⟩
def ref04_Bytes.ann : Ann := ⟨fun n => bif Nat.beq n 8 then [0, 5, 6, 7, 8] else [], fun n => bif Nat.beq n 15 then some [0, 5, 6, 7, 8, 9] else bif Nat.beq n 20 then some [0, 5, 6, 7, 8, 10] else none, fun n => none⟩
/-- 'marlstone/marlstoneref04.Bytes' -/
def ref04_Bytes.sh (a0 : AV) (σ : Store) (Q : AEnd → Store → Prop) : Prop :=
  Do (aPureC Go.Proofs.Try.prog 50 [a0]) fun t12 =>
  Do (aUn Go.Proofs.Try.prog .not t12) fun t14 =>
  aCond t14
    (Q (.ret (.tuple [(.val (.string ⟨#[]⟩)), (.val (.int .i64 1))])) σ)
    (aLoop (fun go vs σ =>
    At vs 0 fun s0 => At vs 1 fun s5 => At vs 2 fun s6 => At vs 3 fun s7 => At vs 4 fun s8 => Do (aBuiltin Go.Proofs.Try.prog .len #[22] [s0]) fun t17 =>
    Do (aBin Go.Proofs.Try.prog .lss 3 s8 t17) fun t18 =>
    aCond t18
      (aJoin (fun j =>
      Do (aBin Go.Proofs.Try.prog .rem 3 s8 (.val (.int .i64 8))) fun t22 =>
      Do (aBin Go.Proofs.Try.prog .eql 3 t22 (.val (.int .i64 0))) fun t23 =>
      aCond t23
        (Do (aBuiltin Go.Proofs.Try.prog .len #[9] [s5]) fun t26 =>
        Do (fun x => aConvN 3 59 t26 x Go.Proofs.Try.prog) fun t27 =>
        Do (aPureC Go.Proofs.Try.prog 51 [s6, t27]) fun t28 =>
        Do (aBin Go.Proofs.Try.prog .add 3 s7 (.val (.int .i64 1))) fun t30 =>
        j [s0, s5, t28, t30, s8, (.val (.int .i64 0))] σ)
        (Do (aBin Go.Proofs.Try.prog .sub 3 s8 (.val (.int .i64 1))) fun t33 =>
        Do (aIndexAddr .slice 4 s0 t33) fun t34 =>
        Do (aFieldAddr 0 1 t34) fun t35 =>
        Do (loadF false 1 t35) fun t36 =>
        Do (aIndexAddr .slice 4 s0 s8) fun t39 =>
        Do (aFieldAddr 0 1 t39) fun t40 =>
        Do (loadF false 1 t40) fun t41 =>
        Do (aPureC Go.Proofs.Try.prog 52 [t36, t41]) fun t42 =>
        j [s0, s5, s6, s7, s8, t42] σ)) fun vs_1 σ_1 =>
    At vs_1 0 fun s0_1 => At vs_1 1 fun s5_1 => At vs_1 2 fun s6_1 => At vs_1 3 fun s7_1 => At vs_1 4 fun s8_1 => At vs_1 5 fun s9 => Do (fun x => aConvN 3 63 s9 x Go.Proofs.Try.prog) fun t45 =>
    Do (aPureC Go.Proofs.Try.prog 53 [s5_1, t45]) fun t46 =>
    Do (aIndexAddr .slice 4 s0_1 s8_1) fun t50 =>
    Do (aFieldAddr 0 1 t50) fun t51 =>
    Do (loadF false 1 t51) fun t52 =>
    Do (aSlice .string 1 t52 (some s9) none none) fun t54 =>
    Do (aPureC Go.Proofs.Try.prog 54 [t46, t54]) fun t55 =>
    aJoin (fun j_1 =>
      Do (aIndexAddr .slice 4 s0_1 s8_1) fun t58 =>
      Do (aFieldAddr 2 1 t58) fun t59 =>
      Do (loadF false 1 t59) fun t60 =>
      aCond t60
        (j_1 [s0_1, t55, s6_1, s7_1, s8_1, (W8 1)] σ_1)
        (j_1 [s0_1, t55, s6_1, s7_1, s8_1, (W8 0)] σ_1)) fun vs_2 σ_2 =>
    At vs_2 0 fun s0_2 => At vs_2 1 fun s5_2 => At vs_2 2 fun s6_2 => At vs_2 3 fun s7_2 => At vs_2 4 fun s8_2 => At vs_2 5 fun s10 => Do (aSlLit (mkE [.val (.int .u8 0)]) 1 1 [(0, s10)]) fun t63 =>
    Do (aConvBS t63) fun t64 =>
    Do (aBin Go.Proofs.Try.prog .add 9 s5_2 t64) fun t65 =>
    Do (aIndexAddr .slice 4 s0_2 s8_2) fun t68 =>
    Do (aFieldAddr 3 1 t68) fun t69 =>
    Do (loadF false 1 t69) fun t70 =>
    Do (fun x => aConvN 3 63 t70 x Go.Proofs.Try.prog) fun t71 =>
    Do (aPureC Go.Proofs.Try.prog 53 [t65, t71]) fun t72 =>
    Do (aIndexAddr .slice 4 s0_2 s8_2) fun t75 =>
    Do (aFieldAddr 2 1 t75) fun t76 =>
    Do (loadF false 1 t76) fun t77 =>
    Do (aUn Go.Proofs.Try.prog .not t77) fun t78 =>
    aCond t78
      (Do (aIndexAddr .slice 4 s0_2 s8_2) fun t82 =>
      Do (aFieldAddr 1 1 t82) fun t83 =>
      Do (loadF false 1 t83) fun t84 =>
      Do (aPureC Go.Proofs.Try.prog 54 [t72, t84]) fun t85 =>
      Do (aBin Go.Proofs.Try.prog .add 3 s8_2 (.val (.int .i64 1))) fun t20 =>
    go [s0_2, t85, s6_2, s7_2, t20] σ_2)
      (Do (aBin Go.Proofs.Try.prog .add 3 s8_2 (.val (.int .i64 1))) fun t20_1 =>
    go [s0_2, t72, s6_2, s7_2, t20_1] σ_2))
      (Do (aBin Go.Proofs.Try.prog .add 9 s5 s6) fun t88 =>
  Do (fun x => aConvN 3 59 s7 x Go.Proofs.Try.prog) fun t90 =>
  Do (aPureC Go.Proofs.Try.prog 51 [t88, t90]) fun t91 =>
  Q (.ret (.tuple [t91, (.val (.int .i64 0))])) σ))
    [a0, (.val (.string ⟨#[]⟩)), (.val (.string ⟨#[]⟩)), (.val (.int .i64 0)), (.val (.int .i64 0))] σ)
theorem ref04_Bytes.eq (a0 : AV) (σ : Store) (Q : AEnd → Store → Prop) : vc (semOf Go.Proofs.Try.prog ref04_Bytes.mark) Go.Proofs.Try.f21.ntmps ref04_Bytes.ann (bodyOf Go.Proofs.Try.f21) (endK [.tmp 2, .tmp 3] Q) (argFr [a0]) σ = ref04_Bytes.sh a0 σ Q := by kernel_rfl
theorem ref04_Bytes.go {a0 : AV} {σ : Store} {Q : AEnd → Store → Prop} (h : ref04_Bytes.sh a0 σ Q) : ACalls Go.Proofs.Try.prog 21 [a0] σ Q :=
  acalls_of_eq [.tmp 2, .tmp 3] Go.Proofs.Try.func21 (by kernel_rfl) (by kernel_rfl) (by kernel_rfl) (by kernel_rfl) (ref04_Bytes.eq a0 σ Q) h
theorem ref04_Bytes_ok (l : List En) (m : SM) (hl : l.length ≤ 1000000000000) : aPure Go.Proofs.Try.prog 21 [.lst 4 (l.map En.av) m] (.tuple [S (blkB l), I .i64 (blkE l)]) := by
  refine ref04_Bytes.go ?_
  unfold ref04_Bytes.sh
  repeat' (first | with_reducible apply Stp.go | with_reducible refine imp fun _ => ?_ | (with_reducible refine hyp ?_ ?_; first | assumption | exact leftT_mem (by assumption)) | (with_reducible refine need ?_ ?_; first | trivial | omega | (simp only [List.length_append, List.length_cons, List.length_nil, List.length_map, List.length_take, List.length_drop, List.length_replicate]; omega)) | (with_reducible refine fact ?_ ?_; first | trivial | exact ⟨rfl, rfl⟩ | kernel_rfl) | with_reducible refine choT (by assumption) ?_ | with_reducible refine choF (by assumption) ?_ | with_reducible refine choF' (by assumption) ?_ | (with_reducible refine altT ?_ ?_; first | omega | (simp only [List.length_append, List.length_cons, List.length_nil, List.length_map, List.length_take, List.length_drop, List.length_replicate]; omega)) | with_reducible refine altF ?_ | with_reducible refine all fun _ => ?_ | with_reducible refine both ?_ ?_ | (with_reducible refine choT ?_ ?_; omega) | (with_reducible refine choF ?_ ?_; omega) | with_reducible refine cho (fun _ => ?_) (fun _ => ?_))
  · rename_i hf
    obtain ⟨h64, h0, hs, hr⟩ := fit_right hf
    refine loopI (β := Nat) (fun i => i ≤ l.length) (fun i => [.lst 4 (l.map En.av) m, S (blk l i).1, S (blk l i).2, I .i64 ((blk l i).2.length / 4 : Nat), I .i64 (i : Nat)]) (fun _ => []) (fun i => l.length - i) 0 (Nat.zero_le _) ?_ ?_
    · simp only [blk, List.length_nil, Nat.zero_div]
      exact Sub.refl _ _
    intro i hi
    obtain ⟨b1, b2, b3⟩ := blk_length hr i hi
    have hsh := sharedAt_le l i
    by_cases hlt : i < l.length
    · have hri := hr i (by omega)
      obtain ⟨k0, k1, k2, k3, k4, k5⟩ := right_bounds hri
      have hprev : (l.getD (i - 1) default).key.length ≤ 128 := by
        rcases Nat.eq_zero_or_pos i with e | e
        · subst e; exact k1
        · exact (right_bounds (hr (i - 1) (by omega))).2.1
      have hp1 := put_len64 (v := sharedAt l i) (by omega)
      have hp2 := put_len64 (v := ((l.getD i default).key.drop (sharedAt l i)).length) (by simp only [List.length_drop]; omega)
      have hseq := put_len64 (v := (l.getD i default).seq.toNat) (by omega)
      have hvl := put_len64 (v := (l.getD i default).val.length) (by omega)
      repeat' (first | with_reducible apply Stp.go | with_reducible refine imp fun _ => ?_ | (with_reducible refine hyp ?_ ?_; first | assumption | exact leftT_mem (by assumption)) | (with_reducible refine need ?_ ?_; first | trivial | omega | (simp only [List.length_append, List.length_cons, List.length_nil, List.length_map, List.length_take, List.length_drop, List.length_replicate]; omega)) | (with_reducible refine fact ?_ ?_; first | trivial | exact ⟨rfl, rfl⟩ | kernel_rfl) | with_reducible refine choT (by assumption) ?_ | with_reducible refine choF (by assumption) ?_ | with_reducible refine choF' (by assumption) ?_ | (with_reducible refine altT ?_ ?_; first | omega | (simp only [List.length_append, List.length_cons, List.length_nil, List.length_map, List.length_take, List.length_drop, List.length_replicate]; omega)) | with_reducible refine altF ?_ | with_reducible refine all fun _ => ?_ | with_reducible refine both ?_ ?_ | (with_reducible refine choT ?_ ?_; omega) | (with_reducible refine choF ?_ ?_; omega) | with_reducible refine cho (fun _ => ?_) (fun _ => ?_))
      refine joinI (β := Unit) (fun _ => True) (fun _ => [.lst 4 (l.map En.av) m, S (blk l i).1, S (blk l (i + 1)).2, I .i64 ((blk l (i + 1)).2.length / 4 : Nat), I .i64 (i : Nat), I .i64 (sharedAt l i : Nat)]) (fun _ => []) ?_ ?_
      · repeat' (first | with_reducible apply Stp.go | with_reducible refine imp fun _ => ?_ | (with_reducible refine hyp ?_ ?_; first | assumption | exact leftT_mem (by assumption)) | (with_reducible refine need ?_ ?_; first | trivial | omega | (simp only [List.length_append, List.length_cons, List.length_nil, List.length_map, List.length_take, List.length_drop, List.length_replicate]; omega)) | (with_reducible refine fact ?_ ?_; first | trivial | exact ⟨rfl, rfl⟩ | kernel_rfl) | with_reducible refine choT (by assumption) ?_ | with_reducible refine choF (by assumption) ?_ | with_reducible refine choF' (by assumption) ?_ | (with_reducible refine altT ?_ ?_; first | omega | (simp only [List.length_append, List.length_cons, List.length_nil, List.length_map, List.length_take, List.length_drop, List.length_replicate]; omega)) | with_reducible refine altF ?_ | with_reducible refine all fun _ => ?_ | with_reducible refine both ?_ ?_ | (with_reducible refine choT ?_ ?_; omega) | (with_reducible refine choF ?_ ?_; omega) | with_reducible refine cho (fun _ => ?_) (fun _ => ?_))
        · rename_i h8
          have e : (blk l (i + 1)).2 = (blk l i).2 ++ fixed (blk l i).1.length := by simp only [blk, h8, if_true]
          have e2 : sharedAt l i = 0 := by simp only [sharedAt, h8, if_true]
          have e3 : (blk l (i + 1)).2.length / 4 = (blk l i).2.length / 4 + 1 := by rw [e, List.length_append]; simp only [fixed, List.length_cons, List.length_nil]; omega
          refine meet () trivial ?_
          rw [e2, e3, e]
          exact Sub.refl _ _
        · rename_i h8
          have e : (blk l (i + 1)).2 = (blk l i).2 := by simp only [blk, h8, if_false, List.append_nil]
          have e2 : common (l.getD (i - 1) default).key (l.getD i default).key = sharedAt l i := by simp only [sharedAt, h8, if_false]
          refine meet () trivial ?_
          rw [e2, e]
          exact Sub.refl _ _
      · intro _ _
        obtain ⟨X, hX⟩ : ∃ X, X = (blk l i).1 ++ put (sharedAt l i) ++ (put ((l.getD i default).key.drop (sharedAt l i)).length ++ (l.getD i default).key.drop (sharedAt l i)) := ⟨_, rfl⟩
        have hd1 : ((l.getD i default).key.drop (sharedAt l i)).length ≤ 128 := by rw [List.length_drop]; omega
        have hXl : X.length ≤ 1200 * i + 150 := by
          rw [hX, List.length_append, List.length_append, List.length_append]
          omega
        repeat' (first | with_reducible apply Stp.go | with_reducible refine imp fun _ => ?_ | (with_reducible refine hyp ?_ ?_; first | assumption | exact leftT_mem (by assumption)) | (with_reducible refine need ?_ ?_; first | trivial | omega | (simp only [List.length_append, List.length_cons, List.length_nil, List.length_map, List.length_take, List.length_drop, List.length_replicate]; omega)) | (with_reducible refine fact ?_ ?_; first | trivial | exact ⟨rfl, rfl⟩ | kernel_rfl) | with_reducible refine choT (by assumption) ?_ | with_reducible refine choF (by assumption) ?_ | with_reducible refine choF' (by assumption) ?_ | (with_reducible refine altT ?_ ?_; first | omega | (simp only [List.length_append, List.length_cons, List.length_nil, List.length_map, List.length_take, List.length_drop, List.length_replicate]; omega)) | with_reducible refine altF ?_ | with_reducible refine all fun _ => ?_ | with_reducible refine both ?_ ?_ | (with_reducible refine choT ?_ ?_; omega) | (with_reducible refine choF ?_ ?_; omega) | with_reducible refine cho (fun _ => ?_) (fun _ => ?_))
        rw [← hX]
        refine joinI (β := Unit) (fun _ => True) (fun _ => [.lst 4 (l.map En.av) m, S X, S (blk l (i + 1)).2, I .i64 ((blk l (i + 1)).2.length / 4 : Nat), I .i64 (i : Nat), W8 (if (l.getD i default).del = true then 1 else 0)]) (fun _ => []) ?_ ?_
        · repeat' (first | with_reducible apply Stp.go | with_reducible refine imp fun _ => ?_ | (with_reducible refine hyp ?_ ?_; first | assumption | exact leftT_mem (by assumption)) | (with_reducible refine need ?_ ?_; first | trivial | omega | (simp only [List.length_append, List.length_cons, List.length_nil, List.length_map, List.length_take, List.length_drop, List.length_replicate]; omega)) | (with_reducible refine fact ?_ ?_; first | trivial | exact ⟨rfl, rfl⟩ | kernel_rfl) | with_reducible refine choT (by assumption) ?_ | with_reducible refine choF (by assumption) ?_ | with_reducible refine choF' (by assumption) ?_ | (with_reducible refine altT ?_ ?_; first | omega | (simp only [List.length_append, List.length_cons, List.length_nil, List.length_map, List.length_take, List.length_drop, List.length_replicate]; omega)) | with_reducible refine altF ?_ | with_reducible refine all fun _ => ?_ | with_reducible refine both ?_ ?_ | (with_reducible refine choT ?_ ?_; omega) | (with_reducible refine choF ?_ ?_; omega) | with_reducible refine cho (fun _ => ?_) (fun _ => ?_))
          · rename_i hd
            refine meet () trivial ?_
            rw [if_pos hd]
            exact Sub.refl _ _
          · rename_i hd
            refine meet () trivial ?_
            rw [if_neg hd]
            exact Sub.refl _ _
        · intro _ _
          have fin : (blk l (i + 1)).1 = X ++ [if (l.getD i default).del = true then (1 : UInt8) else 0] ++ put (l.getD i default).seq.toNat ++ (if (l.getD i default).del = true then [] else put (l.getD i default).val.length ++ (l.getD i default).val) := by
            rw [hX]
            simp only [blk, encE, List.append_assoc]
          repeat' (first | with_reducible apply Stp.go | with_reducible refine imp fun _ => ?_ | (with_reducible refine hyp ?_ ?_; first | assumption | exact leftT_mem (by assumption)) | (with_reducible refine need ?_ ?_; first | trivial | omega | (simp only [List.length_append, List.length_cons, List.length_nil, List.length_map, List.length_take, List.length_drop, List.length_replicate]; omega)) | (with_reducible refine fact ?_ ?_; first | trivial | exact ⟨rfl, rfl⟩ | kernel_rfl) | with_reducible refine choT (by assumption) ?_ | with_reducible refine choF (by assumption) ?_ | with_reducible refine choF' (by assumption) ?_ | (with_reducible refine altT ?_ ?_; first | omega | (simp only [List.length_append, List.length_cons, List.length_nil, List.length_map, List.length_take, List.length_drop, List.length_replicate]; omega)) | with_reducible refine altF ?_ | with_reducible refine all fun _ => ?_ | with_reducible refine both ?_ ?_ | (with_reducible refine choT ?_ ?_; omega) | (with_reducible refine choF ?_ ?_; omega) | with_reducible refine cho (fun _ => ?_) (fun _ => ?_))
          · rename_i hd
            refine again (i + 1) (by omega) (by omega) ?_
            rw [fin]
            simp only [if_pos hd, List.append_nil]
            exact Sub.refl _ _
          · rename_i hd
            refine again (i + 1) (by omega) (by omega) ?_
            rw [fin]
            simp only [if_neg hd]
            exact Sub.refl _ _
    · have e : i = l.length := by omega
      subst e
      repeat' (first | with_reducible apply Stp.go | with_reducible refine imp fun _ => ?_ | (with_reducible refine hyp ?_ ?_; first | assumption | exact leftT_mem (by assumption)) | (with_reducible refine need ?_ ?_; first | trivial | omega | (simp only [List.length_append, List.length_cons, List.length_nil, List.length_map, List.length_take, List.length_drop, List.length_replicate]; omega)) | (with_reducible refine fact ?_ ?_; first | trivial | exact ⟨rfl, rfl⟩ | kernel_rfl) | with_reducible refine choT (by assumption) ?_ | with_reducible refine choF (by assumption) ?_ | with_reducible refine choF' (by assumption) ?_ | (with_reducible refine altT ?_ ?_; first | omega | (simp only [List.length_append, List.length_cons, List.length_nil, List.length_map, List.length_take, List.length_drop, List.length_replicate]; omega)) | with_reducible refine altF ?_ | with_reducible refine all fun _ => ?_ | with_reducible refine both ?_ ?_ | (with_reducible refine choT ?_ ?_; omega) | (with_reducible refine choF ?_ ?_; omega) | with_reducible refine cho (fun _ => ?_) (fun _ => ?_))
      simp [blkB, blkE, hf, blockBytes]
  · rename_i hf
    simp [blkB, blkE, hf]
instance {a : AV} {l : List En} {m : SM} [h : IsL a En.av 4 l m] : PC Go.Proofs.Try.prog 21 [a] (l.length ≤ 1000000000000) (.tuple [S (blkB l), I .i64 (blkE l)]) := ⟨fun hl => ⟨[.lst 4 (l.map En.av) m], ⟨h.sub, trivial⟩, ref04_Bytes_ok l m hl⟩⟩
end Go.Ab
