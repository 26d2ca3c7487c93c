/- An entry's bytes; few entries. -/
import Derived.Test.YtobhbepiaibceaaF3
import Derived.Test.YtobhbepiaibceaaSp2
set_option linter.unusedVariables false
set_option linter.unusedSimpArgs false
namespace Go.Ab
def entry_Bytes.mark : Mark := ⟨fun t => Nat.beq t 5, fun t => Nat.beq t 7, fun t => Nat.beq t 1, fun t => Nat.beq t 4 || Nat.beq t 9 || Nat.beq t 14 || Nat.beq t 18 || Nat.beq t 21 || Nat.beq t 25, fun t => false⟩
def entry_Bytes.ann : Ann := ⟨fun n => [], fun n => bif Nat.beq n 6 then some [1, 3] else none, fun n => none⟩
/-- 'marlstone/entry.Bytes' -/
def entry_Bytes.sh (a0 : AV) (σ : Store) (Q : AEnd → Store → Prop) : Prop :=
  Do (aFreeze ((a0 : AV)).cells) fun t1 =>
  Do (loadF true 4 t1) fun t4 =>
  Do (aPureC Go.Proofs.Try.prog 61 [t4]) fun t5 =>
  Do (aUn Go.Proofs.Try.prog .not t5) fun t6 =>
  aCond t6
    (Q (.ret (.val (.slice none 0 0))) σ)
    (aRowL 5 (mkE [.val (.int .u8 0)]) 1 1 [(0, (W8 0))] σ fun t7 σ =>
  aJoin (fun j =>
    Do (aFieldAddr 2 1 t1) fun t8 =>
    Do (loadF false 1 t8) fun t9 =>
    aCond t9
      (Do (aIndexAddr .slice 1 t7 (.val (.int .i64 0))) fun t11 =>
      storeA 1 t11 (W8 1) σ fun u σ_2 =>
      j [t1, t7] σ_2)
      (j [t1, t7] σ)) fun vs σ_1 =>
  At vs 0 fun s1 => At vs 1 fun s3 => Do (aFieldAddr 3 1 s1) fun t13 =>
  Do (loadF false 1 t13) fun t14 =>
  Do (fun x => aConvN 3 143 t14 x Go.Proofs.Try.prog) fun t15 =>
  Do (aFieldAddr 0 1 s1) fun t17 =>
  Do (loadF false 1 t17) fun t18 =>
  aCall Go.Proofs.Try.prog 102 [s3, t15] σ_1 (fun t16 σ_3 =>
  aCall Go.Proofs.Try.prog 101 [t16, t18] σ_3 (fun t19 σ_4 =>
  Do (aFieldAddr 2 1 s1) fun t20 =>
  Do (loadF false 1 t20) fun t21 =>
  Do (aUn Go.Proofs.Try.prog .not t21) fun t22 =>
  aCond t22
    (Do (aFieldAddr 1 1 s1) fun t24 =>
    Do (loadF false 1 t24) fun t25 =>
    aCall Go.Proofs.Try.prog 101 [t19, t25] σ_4 (fun t26 σ_5 =>
    Q (.ret t26) σ_5) (fun e σ_6 => Q (.pan e) σ_6))
    (Q (.ret t19) σ_4)) (fun e_1 σ_7 => Q (.pan e_1) σ_7)) (fun e_2 σ_8 => Q (.pan e_2) σ_8))
theorem entry_Bytes.eq (a0 : AV) (σ : Store) (Q : AEnd → Store → Prop) : vc (semOf Go.Proofs.Try.prog entry_Bytes.mark) Go.Proofs.Try.f63.ntmps entry_Bytes.ann (bodyOf Go.Proofs.Try.f63) (endK [.tmp 2] Q) (argFr [a0]) σ = entry_Bytes.sh a0 σ Q := by kernel_rfl
theorem entry_Bytes.go {a0 : AV} {σ : Store} {Q : AEnd → Store → Prop} (h : entry_Bytes.sh a0 σ Q) : ACalls Go.Proofs.Try.prog 63 [a0] σ Q :=
  acalls_of_eq [.tmp 2] Go.Proofs.Try.func63 (by kernel_rfl) (by kernel_rfl) (by kernel_rfl) (by kernel_rfl) (entry_Bytes.eq a0 σ Q) h
def ref03_Bytes.mark : Mark := ⟨fun t => Nat.beq t 5 || Nat.beq t 15 || Nat.beq t 18 || Nat.beq t 24 || Nat.beq t 27 || Nat.beq t 30, fun t => false, fun t => Nat.beq t 1, fun t => Nat.beq t 4 || Nat.beq t 9 || Nat.beq t 13 || Nat.beq t 17 || Nat.beq t 22 || Nat.beq t 26 || Nat.beq t 29, fun t => false⟩
def ref03_Bytes.ann : Ann := ⟨fun n => [], fun n => none, fun n => none⟩
/-- 'marlstone/marlstoneref03.Bytes' -/
def ref03_Bytes.sh (a0 : AV) (σ : Store) (Q : AEnd → Store → Prop) : Prop :=
  Do (aFreeze ((a0 : AV)).cells) fun t1 =>
  Do (loadF true 4 t1) fun t4 =>
  Do (aPureC Go.Proofs.Try.prog 87 [t4]) fun t5 =>
  Do (aUn Go.Proofs.Try.prog .not t5) fun t7 =>
  aCond t7
    (Q (.ret (.val (.string ⟨#[]⟩))) σ)
    (Do (aFieldAddr 2 1 t1) fun t8 =>
  Do (loadF false 1 t8) fun t9 =>
  aCond t9
    (Do (aSlLit (mkE [.val (.int .u8 0)]) 1 1 [(0, (W8 1))]) fun t10 =>
    Do (aConvBS t10) fun t11 =>
    Do (aFieldAddr 3 1 t1) fun t12 =>
    Do (loadF false 1 t12) fun t13 =>
    Do (fun x => aConvN 3 143 t13 x Go.Proofs.Try.prog) fun t14 =>
    Do (aPureC Go.Proofs.Try.prog 110 [t11, t14]) fun t15 =>
    Do (aFieldAddr 0 1 t1) fun t16 =>
    Do (loadF false 1 t16) fun t17 =>
    Do (aPureC Go.Proofs.Try.prog 109 [t15, t17]) fun t18 =>
    Q (.ret t18) σ)
    (Do (aSlLit (mkE [.val (.int .u8 0)]) 1 1 [(0, (W8 0))]) fun t19 =>
  Do (aConvBS t19) fun t20 =>
  Do (aFieldAddr 3 1 t1) fun t21 =>
  Do (loadF false 1 t21) fun t22 =>
  Do (fun x => aConvN 3 143 t22 x Go.Proofs.Try.prog) fun t23 =>
  Do (aPureC Go.Proofs.Try.prog 110 [t20, t23]) fun t24 =>
  Do (aFieldAddr 0 1 t1) fun t25 =>
  Do (loadF false 1 t25) fun t26 =>
  Do (aPureC Go.Proofs.Try.prog 109 [t24, t26]) fun t27 =>
  Do (aFieldAddr 1 1 t1) fun t28 =>
  Do (loadF false 1 t28) fun t29 =>
  Do (aPureC Go.Proofs.Try.prog 109 [t27, t29]) fun t30 =>
  Q (.ret t30) σ))
theorem ref03_Bytes.eq (a0 : AV) (σ : Store) (Q : AEnd → Store → Prop) : vc (semOf Go.Proofs.Try.prog ref03_Bytes.mark) Go.Proofs.Try.f88.ntmps ref03_Bytes.ann (bodyOf Go.Proofs.Try.f88) (endK [.tmp 2] Q) (argFr [a0]) σ = ref03_Bytes.sh a0 σ Q := by kernel_rfl
theorem ref03_Bytes.go {a0 : AV} {σ : Store} {Q : AEnd → Store → Prop} (h : ref03_Bytes.sh a0 σ Q) : ACalls Go.Proofs.Try.prog 88 [a0] σ Q :=
  acalls_of_eq [.tmp 2] Go.Proofs.Try.func88 (by kernel_rfl) (by kernel_rfl) (by kernel_rfl) (by kernel_rfl) (ref03_Bytes.eq a0 σ Q) h
theorem entry_Bytes_ok (e : En) : aPure Go.Proofs.Try.prog 63 [e.av] (.lst 1 ((enB e).map byt) .ro) := by
  refine ACalls.fin (entry_Bytes.go ?_)
  unfold entry_Bytes.sh
  repeat' (first | with_reducible apply Stp.go | with_reducible refine imp fun _ => ?_ | (with_reducible refine hyp ?_ ?_; first | assumption | exact leftT_mem (by assumption)) | (with_reducible refine need ?_ ?_; first | trivial | omega | exact ⟨by assumption, by omega⟩ | (simp only [List.length_append, List.length_cons, List.length_nil, List.length_map, List.length_take, List.length_drop, List.length_replicate, List.length_set]; omega)) | (with_reducible refine fact ?_ ?_; first | trivial | exact ⟨rfl, rfl⟩ | kernel_rfl) | with_reducible refine choT (by assumption) ?_ | with_reducible refine choF (by assumption) ?_ | with_reducible refine choF' (by assumption) ?_ | (with_reducible refine altT ?_ ?_; first | omega | (simp only [List.length_append, List.length_cons, List.length_nil, List.length_map, List.length_take, List.length_drop, List.length_replicate, List.length_set]; omega)) | with_reducible refine altF ?_ | with_reducible refine all fun _ => ?_ | with_reducible refine both ?_ ?_ | (with_reducible refine choT ?_ ?_; omega) | (with_reducible refine choF ?_ ?_; omega) | with_reducible refine cho (fun _ => ?_) (fun _ => ?_))
  · rename_i h v
    obtain ⟨k0, k1, k2, k3, k4, k5⟩ := right_bounds h
    have hp := put_len64 (v := e.seq.toNat) (by omega)
    have hp2 := put_len64 (v := e.key.length) (by omega)
    refine joinI (β := Unit) (fun _ => True) (fun _ => [.rptr e.cs, .own v 1]) (fun _ => [.row v 5 1 ([if e.del = true then (1 : UInt8) else 0].map byt) 0]) ?_ ?_
    · repeat' (first | with_reducible apply Stp.go | with_reducible refine imp fun _ => ?_ | (with_reducible refine hyp ?_ ?_; first | assumption | exact leftT_mem (by assumption)) | (with_reducible refine need ?_ ?_; first | trivial | omega | exact ⟨by assumption, by omega⟩ | (simp only [List.length_append, List.length_cons, List.length_nil, List.length_map, List.length_take, List.length_drop, List.length_replicate, List.length_set]; omega)) | (with_reducible refine fact ?_ ?_; first | trivial | exact ⟨rfl, rfl⟩ | kernel_rfl) | with_reducible refine choT (by assumption) ?_ | with_reducible refine choF (by assumption) ?_ | with_reducible refine choF' (by assumption) ?_ | (with_reducible refine altT ?_ ?_; first | omega | (simp only [List.length_append, List.length_cons, List.length_nil, List.length_map, List.length_take, List.length_drop, List.length_replicate, List.length_set]; omega)) | with_reducible refine altF ?_ | with_reducible refine all fun _ => ?_ | with_reducible refine both ?_ ?_ | (with_reducible refine choT ?_ ?_; omega) | (with_reducible refine choF ?_ ?_; omega) | with_reducible refine cho (fun _ => ?_) (fun _ => ?_))
      · rename_i hd
        refine meet () trivial ?_
        rw [if_pos hd]
        exact Sub.refl _ _
      · rename_i hd
        refine meet () trivial ?_
        rw [if_neg hd]
        exact Sub.refl _ _
    · intro _ _
      repeat' (first | with_reducible apply Stp.go | with_reducible refine imp fun _ => ?_ | (with_reducible refine hyp ?_ ?_; first | assumption | exact leftT_mem (by assumption)) | (with_reducible refine need ?_ ?_; first | trivial | omega | exact ⟨by assumption, by omega⟩ | (simp only [List.length_append, List.length_cons, List.length_nil, List.length_map, List.length_take, List.length_drop, List.length_replicate, List.length_set]; omega)) | (with_reducible refine fact ?_ ?_; first | trivial | exact ⟨rfl, rfl⟩ | kernel_rfl) | with_reducible refine choT (by assumption) ?_ | with_reducible refine choF (by assumption) ?_ | with_reducible refine choF' (by assumption) ?_ | (with_reducible refine altT ?_ ?_; first | omega | (simp only [List.length_append, List.length_cons, List.length_nil, List.length_map, List.length_take, List.length_drop, List.length_replicate, List.length_set]; omega)) | with_reducible refine altF ?_ | with_reducible refine all fun _ => ?_ | with_reducible refine both ?_ ?_ | (with_reducible refine choT ?_ ?_; omega) | (with_reducible refine choF ?_ ?_; omega) | with_reducible refine cho (fun _ => ?_) (fun _ => ?_))
      all_goals
        refine ⟨_, _, _, rfl, retOwn (Sub.refl _ _), ?_, rfl⟩
        simp_all [enB, enR]
  · rename_i h
    refine ⟨_, _, _, rfl, retNil byt (sz := 1) (by decide) (Sub.refl _ _), ?_, rfl⟩
    simp [enB, h]
instance (e : En) : PC Go.Proofs.Try.prog 63 [e.av] True (.lst 1 ((enB e).map byt) .ro) := ⟨fun _ => PC.of (entry_Bytes_ok e)⟩
theorem ref03_Bytes_ok (e : En) : aPure Go.Proofs.Try.prog 88 [e.av] (S (enB e)) := by
  refine ref03_Bytes.go ?_
  unfold ref03_Bytes.sh
  by_cases h : right e = true
  · obtain ⟨k0, k1, k2, k3, k4, k5⟩ := right_bounds h
    have hp := put_len64 (v := e.seq.toNat) (by omega)
    have hp2 := put_len64 (v := e.key.length) (by omega)
    repeat' (first | with_reducible apply Stp.go | with_reducible refine imp fun _ => ?_ | (with_reducible refine hyp ?_ ?_; first | assumption | exact leftT_mem (by assumption)) | (with_reducible refine need ?_ ?_; first | trivial | omega | exact ⟨by assumption, by omega⟩ | (simp only [List.length_append, List.length_cons, List.length_nil, List.length_map, List.length_take, List.length_drop, List.length_replicate, List.length_set]; omega)) | (with_reducible refine fact ?_ ?_; first | trivial | exact ⟨rfl, rfl⟩ | kernel_rfl) | with_reducible refine choT (by assumption) ?_ | with_reducible refine choF (by assumption) ?_ | with_reducible refine choF' (by assumption) ?_ | (with_reducible refine altT ?_ ?_; first | omega | (simp only [List.length_append, List.length_cons, List.length_nil, List.length_map, List.length_take, List.length_drop, List.length_replicate, List.length_set]; omega)) | with_reducible refine altF ?_ | with_reducible refine all fun _ => ?_ | with_reducible refine both ?_ ?_ | (with_reducible refine choT ?_ ?_; omega) | (with_reducible refine choF ?_ ?_; omega) | with_reducible refine cho (fun _ => ?_) (fun _ => ?_))
    all_goals
      simp_all [enB, enR]
  · repeat' (first | with_reducible apply Stp.go | with_reducible refine imp fun _ => ?_ | (with_reducible refine hyp ?_ ?_; first | assumption | exact leftT_mem (by assumption)) | (with_reducible refine need ?_ ?_; first | trivial | omega | exact ⟨by assumption, by omega⟩ | (simp only [List.length_append, List.length_cons, List.length_nil, List.length_map, List.length_take, List.length_drop, List.length_replicate, List.length_set]; omega)) | (with_reducible refine fact ?_ ?_; first | trivial | exact ⟨rfl, rfl⟩ | kernel_rfl) | with_reducible refine choT (by assumption) ?_ | with_reducible refine choF (by assumption) ?_ | with_reducible refine choF' (by assumption) ?_ | (with_reducible refine altT ?_ ?_; first | omega | (simp only [List.length_append, List.length_cons, List.length_nil, List.length_map, List.length_take, List.length_drop, List.length_replicate, List.length_set]; omega)) | with_reducible refine altF ?_ | with_reducible refine all fun _ => ?_ | with_reducible refine both ?_ ?_ | (with_reducible refine choT ?_ ?_; omega) | (with_reducible refine choF ?_ ?_; omega) | with_reducible refine cho (fun _ => ?_) (fun _ => ?_))
    simp [enB, h]
instance (e : En) : PC Go.Proofs.Try.prog 88 [e.av] True (S (enB e)) := ⟨fun _ => PC.of (ref03_Bytes_ok e)⟩
end Go.Ab
