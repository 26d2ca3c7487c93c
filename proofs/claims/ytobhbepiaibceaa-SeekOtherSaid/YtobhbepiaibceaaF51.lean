/- The entry of a leaf; what a table has of a key, checked. -/
import Derived.Test.YtobhbepiaibceaaF50
import Derived.Test.YtobhbepiaibceaaF15
set_option linter.unusedVariables false
set_option linter.unusedSimpArgs false
namespace Go.Ab
def seek_whole.mark : Mark := ⟨fun t => Nat.beq t 9, fun t => false, fun t => false, fun t => false, fun t => false⟩
def seek_whole.ann : Ann := ⟨fun n => [], fun n => none, fun n => none⟩
/-- 'marlstone/seek.whole' -/
def seek_whole.sh (a0 : AV) (σ : Store) (Q : AEnd → Store → Prop) : Prop :=
  aNewVar 54 [.val (.string ⟨#[]⟩), .val (.string ⟨#[]⟩), .val (.bool false), .val (.int .i64 0)] σ fun t2 σ =>
  Do (aPureC Go.Proofs.Try.prog 93 [a0]) fun t9 =>
  Do (aExt t9 0) fun t10 =>
  Do (aExt t9 1) fun t11 =>
  Do (aExt t9 2) fun t12 =>
  aNewVar 54 [.val (.string ⟨#[]⟩), .val (.string ⟨#[]⟩), .val (.bool false), .val (.int .i64 0)] σ fun t4 σ_1 =>
  storeA 4 t4 t10 σ_1 fun u σ_2 =>
  Do (loadA true 4 t4 σ_2) fun t13 =>
  Do (aBin Go.Proofs.Try.prog .eql 33 t12 (.val (.int .i64 0))) fun t15 =>
  Do (aGuard t15 true (aIs t11)) fun t17 =>
  Do (aGuard t15 true (aIs a0)) fun t18 =>
  Do (aGuard t15 true (aBuiltin Go.Proofs.Try.prog .len #[27] [t18])) fun t19 =>
  Do (aGuard t15 true (aBin Go.Proofs.Try.prog .eql 3 t17 t19)) fun t20 =>
  Do (aPick t15 t20 (.val (.bool false))) fun t21 =>
  storeA 4 t2 t13 σ_2 fun u_1 σ_3 =>
  Do (loadA true 4 t2 σ_3) fun r2 => Q (.ret (.tuple [r2, t21])) σ_3
theorem seek_whole.eq (a0 : AV) (σ : Store) (Q : AEnd → Store → Prop) : vc (semOf Go.Proofs.Try.prog seek_whole.mark) Go.Proofs.Try.f52.ntmps seek_whole.ann (bodyOf Go.Proofs.Try.f52) (endK [.cell 2 true 4, .tmp 3] Q) (argFr [a0]) σ = seek_whole.sh a0 σ Q := by kernel_rfl
theorem seek_whole.go {a0 : AV} {σ : Store} {Q : AEnd → Store → Prop} (h : seek_whole.sh a0 σ Q) : ACalls Go.Proofs.Try.prog 52 [a0] σ Q :=
  acalls_of_eq [.cell 2 true 4, .tmp 3] Go.Proofs.Try.func52 (by kernel_rfl) (by kernel_rfl) (by kernel_rfl) (by kernel_rfl) (seek_whole.eq a0 σ Q) h
def seek_none.mark : Mark := ⟨fun t => false, fun t => false, fun t => Nat.beq t 1, fun t => Nat.beq t 4 || Nat.beq t 8 || Nat.beq t 14, fun t => false⟩
def seek_none.ann : Ann := ⟨fun n => [], fun n => none, fun n => none⟩
/-- 'marlstone/seek.none' -/
def seek_none.sh (a0 : AV) (σ : Store) (Q : AEnd → Store → Prop) : Prop :=
  Do (aFreeze ((a0 : AV)).cells) fun t1 =>
  Do (aFieldAddr 0 1 t1) fun t3 =>
  Do (loadF false 1 t3) fun t4 =>
  Do (aBin Go.Proofs.Try.prog .eql 3 t4 (.val (.int .i64 0))) fun t5 =>
  Do (aGuard t5 true (aFieldAddr 1 1 t1)) fun t7 =>
  Do (aGuard t5 true (loadF false 1 t7)) fun t8 =>
  Do (aGuard t5 true (aBuiltin Go.Proofs.Try.prog .len #[27] [t8])) fun t9 =>
  Do (aGuard t5 true (aBin Go.Proofs.Try.prog .eql 3 t9 (.val (.int .i64 0)))) fun t10 =>
  Do (aPick t5 t10 (.val (.bool false))) fun t11 =>
  Do (aGuard t11 true (aFieldAddr 2 1 t1)) fun t13 =>
  Do (aGuard t11 true (loadF false 1 t13)) fun t14 =>
  Do (aGuard t11 true (aBuiltin Go.Proofs.Try.prog .len #[28] [t14])) fun t15 =>
  Do (aGuard t11 true (aBin Go.Proofs.Try.prog .eql 3 t15 (.val (.int .i64 0)))) fun t16 =>
  Do (aPick t11 t16 (.val (.bool false))) fun t17 =>
  Q (.ret t17) σ
theorem seek_none.eq (a0 : AV) (σ : Store) (Q : AEnd → Store → Prop) : vc (semOf Go.Proofs.Try.prog seek_none.mark) Go.Proofs.Try.f50.ntmps seek_none.ann (bodyOf Go.Proofs.Try.f50) (endK [.tmp 2] Q) (argFr [a0]) σ = seek_none.sh a0 σ Q := by kernel_rfl
theorem seek_none.go {a0 : AV} {σ : Store} {Q : AEnd → Store → Prop} (h : seek_none.sh a0 σ Q) : ACalls Go.Proofs.Try.prog 50 [a0] σ Q :=
  acalls_of_eq [.tmp 2] Go.Proofs.Try.func50 (by kernel_rfl) (by kernel_rfl) (by kernel_rfl) (by kernel_rfl) (seek_none.eq a0 σ Q) h
theorem none_ok (o : Opn) : aPure Go.Proofs.Try.prog 50 [.agg [I .i64 o.1, bl o.2.1, .lst 32 (o.2.2.map dgF) .ro]] (B (decide (o.1 = 0 ∧ o.2.1.length = 0 ∧ o.2.2.length = 0))) := by
  refine ACalls.fin (seek_none.go ?_)
  unfold seek_none.sh
  repeat' (first | with_reducible apply Stp.go | with_reducible refine imp fun _ => ?_ | (with_reducible refine hyp ?_ ?_; first | assumption | exact leftT_mem (by assumption)) | (with_reducible refine need ?_ ?_; first | trivial | omega | exact ⟨by assumption, by omega⟩ | (simp only [List.length_append, List.length_cons, List.length_nil, List.length_map, List.length_take, List.length_drop, List.length_replicate, List.length_set]; omega)) | (with_reducible refine fact ?_ ?_; first | trivial | exact ⟨rfl, rfl⟩ | kernel_rfl) | with_reducible refine choT (by assumption) ?_ | with_reducible refine choF (by assumption) ?_ | with_reducible refine choF' (by assumption) ?_ | (with_reducible refine altT ?_ ?_; first | omega | (simp only [List.length_append, List.length_cons, List.length_nil, List.length_map, List.length_take, List.length_drop, List.length_replicate, List.length_set]; omega)) | with_reducible refine altF ?_ | with_reducible refine all fun _ => ?_ | with_reducible refine both ?_ ?_ | (with_reducible refine choT ?_ ?_; omega) | (with_reducible refine choF ?_ ?_; omega) | with_reducible refine cho (fun _ => ?_) (fun _ => ?_))
  all_goals
    refine ⟨_, _, _, rfl, Sub.app_nil _, ?_, rfl⟩
    simp_all
instance {o : Opn} : PC Go.Proofs.Try.prog 50 [.agg [I .i64 o.1, bl o.2.1, .lst 32 (o.2.2.map dgF) .ro]] True (B (decide (o.1 = 0 ∧ o.2.1.length = 0 ∧ o.2.2.length = 0))) := ⟨fun _ => PC.of (none_ok o)⟩
/-- Bytes are one entry, whole. -/
def wholeB (l : List UInt8) : Bool := decide (parseX l = 0) && decide (parseN l = l.length)
theorem whole_ok (l : List UInt8) (m : SM) (hl : l.length ≤ 100000000000000) : aPure Go.Proofs.Try.prog 52 [.lst 1 (l.map byt) m] (.tuple [(parseV l).av, B (wholeB l)]) := by
  refine ACalls.fin (seek_whole.go ?_)
  unfold seek_whole.sh
  repeat' (first | with_reducible apply Stp.go | with_reducible refine imp fun _ => ?_ | (with_reducible refine hyp ?_ ?_; first | assumption | exact leftT_mem (by assumption)) | (with_reducible refine need ?_ ?_; first | trivial | omega | exact ⟨by assumption, by omega⟩ | (simp only [List.length_append, List.length_cons, List.length_nil, List.length_map, List.length_take, List.length_drop, List.length_replicate, List.length_set]; omega)) | (with_reducible refine fact ?_ ?_; first | trivial | exact ⟨rfl, rfl⟩ | kernel_rfl) | with_reducible refine choT (by assumption) ?_ | with_reducible refine choF (by assumption) ?_ | with_reducible refine choF' (by assumption) ?_ | (with_reducible refine altT ?_ ?_; first | omega | (simp only [List.length_append, List.length_cons, List.length_nil, List.length_map, List.length_take, List.length_drop, List.length_replicate, List.length_set]; omega)) | with_reducible refine altF ?_ | with_reducible refine all fun _ => ?_ | with_reducible refine both ?_ ?_ | (with_reducible refine choT ?_ ?_; omega) | (with_reducible refine choF ?_ ?_; omega) | with_reducible refine cho (fun _ => ?_) (fun _ => ?_))
  · rename_i h
    refine ⟨_, _, _, rfl, Sub.app_nil _, ?_, rfl⟩
    rw [wholeB, decide_eq_true h, Bool.true_and]
  · rename_i h
    refine ⟨_, _, _, rfl, Sub.app_nil _, ?_, rfl⟩
    rw [wholeB, decide_eq_false h, Bool.false_and]
instance {a : AV} {l : List UInt8} {m : SM} [h : IsL a byt 1 l m] : PC Go.Proofs.Try.prog 52 [a] (l.length ≤ 100000000000000) (.tuple [(parseV l).av, B (wholeB l)]) := ⟨fun hl => ⟨[.lst 1 (l.map byt) m], ⟨h.sub, trivial⟩, whole_ok l m hl⟩⟩
def seek_holds.mark : Mark := ⟨fun t => Nat.beq t 13 || Nat.beq t 30, fun t => false, fun t => Nat.beq t 3 || Nat.beq t 4 || Nat.beq t 5, fun t => Nat.beq t 12 || Nat.beq t 19 || Nat.beq t 21 || Nat.beq t 23 || Nat.beq t 25 || Nat.beq t 27 || Nat.beq t 29, fun t => false⟩
def seek_holds.ann : Ann := ⟨fun n => [], fun n => none, fun n => none⟩
/-- 'marlstone/seek.holds' -/
def seek_holds.sh (a0 a1 a2 : AV) (σ : Store) (Q : AEnd → Store → Prop) : Prop :=
  Do (aFreeze ((a0 : AV)).cells) fun t3 =>
  Do (aFreeze ((a1 : AV)).cells) fun t4 =>
  Do (aFreeze ((a2 : AV)).cells) fun t5 =>
  aNewVar 54 [.val (.string ⟨#[]⟩), .val (.string ⟨#[]⟩), .val (.bool false), .val (.int .i64 0)] σ fun t6 σ =>
  Do (aFieldAddr 1 1 t5) fun t11 =>
  Do (loadF false 1 t11) fun t12 =>
  Do (aPureC Go.Proofs.Try.prog 52 [t12]) fun t13 =>
  Do (aExt t13 0) fun t14 =>
  Do (aExt t13 1) fun t15 =>
  aNewVar 54 [.val (.string ⟨#[]⟩), .val (.string ⟨#[]⟩), .val (.bool false), .val (.int .i64 0)] σ fun t8 σ_1 =>
  storeA 4 t8 t14 σ_1 fun u σ_2 =>
  Do (loadA true 4 t8 σ_2) fun t16 =>
  Do (aGuard t15 true (loadF true 1 t3)) fun t19 =>
  Do (aGuard t15 true (aFieldAddr 2 32 t4)) fun t20 =>
  Do (aGuard t15 true (loadF true 32 t20)) fun t21 =>
  Do (aGuard t15 true (aFieldAddr 1 1 t4)) fun t22 =>
  Do (aGuard t15 true (loadF false 1 t22)) fun t23 =>
  Do (aGuard t15 true (aFieldAddr 0 1 t5)) fun t24 =>
  Do (aGuard t15 true (loadF false 1 t24)) fun t25 =>
  Do (aGuard t15 true (aFieldAddr 1 1 t5)) fun t26 =>
  Do (aGuard t15 true (loadF false 1 t26)) fun t27 =>
  Do (aGuard t15 true (aFieldAddr 2 1 t5)) fun t28 =>
  Do (aGuard t15 true (loadF false 1 t28)) fun t29 =>
  Do (aGuard t15 true (aPureC Go.Proofs.Try.prog 64 [t19, t21, t23, t25, t27, t29])) fun t30 =>
  Do (aPick t15 t30 (.val (.bool false))) fun t31 =>
  storeA 4 t6 t16 σ_2 fun u_1 σ_3 =>
  Do (loadA true 4 t6 σ_3) fun r6 => Q (.ret (.tuple [r6, t31])) σ_3
theorem seek_holds.eq (a0 a1 a2 : AV) (σ : Store) (Q : AEnd → Store → Prop) : vc (semOf Go.Proofs.Try.prog seek_holds.mark) Go.Proofs.Try.f49.ntmps seek_holds.ann (bodyOf Go.Proofs.Try.f49) (endK [.cell 6 true 4, .tmp 7] Q) (argFr [a0, a1, a2]) σ = seek_holds.sh a0 a1 a2 σ Q := by kernel_rfl
theorem seek_holds.go {a0 a1 a2 : AV} {σ : Store} {Q : AEnd → Store → Prop} (h : seek_holds.sh a0 a1 a2 σ Q) : ACalls Go.Proofs.Try.prog 49 [a0, a1, a2] σ Q :=
  acalls_of_eq [.cell 6 true 4, .tmp 7] Go.Proofs.Try.func49 (by kernel_rfl) (by kernel_rfl) (by kernel_rfl) (by kernel_rfl) (seek_holds.eq a0 a1 a2 σ Q) h
def holdsB (b : Int) (root : D32) (cnt i : Int) (leaf : List UInt8) (path : List D32) : Bool := wholeB leaf && checkZ b root cnt i leaf path
theorem holdsB_in {b : Int} {root : D32} {cnt i : Int} {leaf : List UInt8} {path : List D32} (h : holdsB b root cnt i leaf path = true) : 0 ≤ i ∧ i < cnt := by
  unfold holdsB at h
  rw [Bool.and_eq_true] at h
  exact checkZ_in h.2
theorem holds_ok (b lev cnt i : Int) (d f g leaf : List UInt8) [hd : Len32 d] (path : List D32) (hc : cnt ≤ 9223372036854775807) (hl : leaf.length ≤ 100000000000000) : aPure Go.Proofs.Try.prog 49 [trA b, tabA lev cnt d f g, .agg [I .i64 i, bl leaf, .lst 32 (path.map dgF) .ro]] (.tuple [(parseV leaf).av, B (holdsB b ⟨d, hd.len⟩ cnt i leaf path)]) := by
  refine ACalls.fin (seek_holds.go ?_)
  unfold seek_holds.sh
  cases hw : wholeB leaf with
  | true =>
    have ht : (true : Bool) = true := rfl
    repeat' (first | with_reducible apply Stp.go | with_reducible refine imp fun _ => ?_ | (with_reducible refine hyp ?_ ?_; first | assumption | exact leftT_mem (by assumption)) | (with_reducible refine need ?_ ?_; first | trivial | omega | exact ⟨by assumption, by omega⟩ | (simp only [List.length_append, List.length_cons, List.length_nil, List.length_map, List.length_take, List.length_drop, List.length_replicate, List.length_set]; omega)) | (with_reducible refine fact ?_ ?_; first | trivial | exact ⟨rfl, rfl⟩ | kernel_rfl) | with_reducible refine choT (by assumption) ?_ | with_reducible refine choF (by assumption) ?_ | with_reducible refine choF' (by assumption) ?_ | (with_reducible refine altT ?_ ?_; first | omega | (simp only [List.length_append, List.length_cons, List.length_nil, List.length_map, List.length_take, List.length_drop, List.length_replicate, List.length_set]; omega)) | with_reducible refine altF ?_ | with_reducible refine all fun _ => ?_ | with_reducible refine both ?_ ?_ | (with_reducible refine choT ?_ ?_; omega) | (with_reducible refine choF ?_ ?_; omega) | with_reducible refine cho (fun _ => ?_) (fun _ => ?_))
    refine ⟨_, _, _, rfl, Sub.app_nil _, ?_, rfl⟩
    rw [holdsB, hw, Bool.true_and]
  | false =>
    have hff : ¬ (false : Bool) = true := by decide
    repeat' (first | with_reducible apply Stp.go | with_reducible refine imp fun _ => ?_ | (with_reducible refine hyp ?_ ?_; first | assumption | exact leftT_mem (by assumption)) | (with_reducible refine need ?_ ?_; first | trivial | omega | exact ⟨by assumption, by omega⟩ | (simp only [List.length_append, List.length_cons, List.length_nil, List.length_map, List.length_take, List.length_drop, List.length_replicate, List.length_set]; omega)) | (with_reducible refine fact ?_ ?_; first | trivial | exact ⟨rfl, rfl⟩ | kernel_rfl) | with_reducible refine choT (by assumption) ?_ | with_reducible refine choF (by assumption) ?_ | with_reducible refine choF' (by assumption) ?_ | (with_reducible refine altT ?_ ?_; first | omega | (simp only [List.length_append, List.length_cons, List.length_nil, List.length_map, List.length_take, List.length_drop, List.length_replicate, List.length_set]; omega)) | with_reducible refine altF ?_ | with_reducible refine all fun _ => ?_ | with_reducible refine both ?_ ?_ | (with_reducible refine choT ?_ ?_; omega) | (with_reducible refine choF ?_ ?_; omega) | with_reducible refine cho (fun _ => ?_) (fun _ => ?_))
    refine ⟨_, _, _, rfl, Sub.app_nil _, ?_, rfl⟩
    rw [holdsB, hw, Bool.false_and]
instance {b lev cnt i : Int} {d f g leaf : List UInt8} [hd : Len32 d] {path : List D32} : PC Go.Proofs.Try.prog 49 [trA b, tabA lev cnt d f g, .agg [I .i64 i, bl leaf, .lst 32 (path.map dgF) .ro]] (cnt ≤ 9223372036854775807 ∧ leaf.length ≤ 100000000000000) (.tuple [(parseV leaf).av, B (holdsB b ⟨d, hd.len⟩ cnt i leaf path)]) := ⟨fun hl => PC.of (holds_ok b lev cnt i d f g leaf path hl.1 hl.2)⟩
end Go.Ab
