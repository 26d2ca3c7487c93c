/- Layer 3: what is shown in any case, few entries; places of keys in a fold. -/
import Derived.Test.YtopmpooglnfalaaF9
set_option linter.unusedVariables false
set_option linter.unusedSimpArgs false
namespace Go.Ab
def law03_shown.mark : Mark := ⟨fun t => Nat.beq t 4 || Nat.beq t 9 || Nat.beq t 34, fun t => false, fun t => false, fun t => Nat.beq t 22 || Nat.beq t 29, fun t => false⟩
def law03_shown.ann : Ann := ⟨fun n => [], fun n => none, fun n => none⟩
/-- 'marlstone/marlstonelaw03.shown' -/
def law03_shown.sh (σ : Store) (Q : AEnd → Store → Prop) : Prop :=
  Do (aLit [.val (.string ⟨#[]⟩), .val (.string ⟨#[]⟩), .val (.bool false), .val (.int .i64 0)] [(0, 1), (1, 1), (2, 1), (3, 1)] [(0, (.val (.string ⟨#[97]⟩))), (1, (.val (.string ⟨#[118]⟩))), (3, (.val (.int .i64 1)))]) fun t3 =>
  Do (aPureC Go.Proofs.Try.prog 30 [t3]) fun t4 =>
  Do (aLit [.val (.string ⟨#[]⟩), .val (.string ⟨#[]⟩), .val (.bool false), .val (.int .i64 0)] [(0, 1), (1, 1), (2, 1), (3, 1)] [(0, (.val (.string ⟨#[98]⟩))), (3, (.val (.int .i64 1)))]) fun t5 =>
  Do (aLit [.val (.string ⟨#[]⟩), .val (.string ⟨#[]⟩), .val (.bool false), .val (.int .i64 0)] [(0, 1), (1, 1), (2, 1), (3, 1)] [(0, (.val (.string ⟨#[97]⟩))), (3, (.val (.int .i64 2)))]) fun t6 =>
  Do (aLit [.val (.string ⟨#[]⟩), .val (.string ⟨#[]⟩), .val (.bool false), .val (.int .i64 0)] [(0, 1), (1, 1), (2, 1), (3, 1)] [(0, (.val (.string ⟨#[98]⟩))), (3, (.val (.int .i64 3)))]) fun t7 =>
  Do (aSlLit (mkE [.val (.string ⟨#[]⟩), .val (.string ⟨#[]⟩), .val (.bool false), .val (.int .i64 0)]) 4 3 [(0, t5), (1, t6), (2, t7)]) fun t8 =>
  Do (aPureC Go.Proofs.Try.prog 31 [t8]) fun t9 =>
  Do (aConvBS t4) fun t11 =>
  Do (aBin Go.Proofs.Try.prog .eql 9 t11 (.val (.string ⟨#[0, 1, 1, 97, 1, 118]⟩))) fun t12 =>
  Do (aGuard t12 true (aIs t9)) fun t14 =>
  Do (aGuard t12 true (aBuiltin Go.Proofs.Try.prog .len #[22] [t14])) fun t15 =>
  Do (aGuard t12 true (aBin Go.Proofs.Try.prog .eql 3 t15 (.val (.int .i64 2)))) fun t16 =>
  Do (aPick t12 t16 (.val (.bool false))) fun t17 =>
  Do (aGuard t17 true (aIs t9)) fun t19 =>
  Do (aGuard t17 true (aIndexAddr .slice 4 t19 (.val (.int .i64 0)))) fun t20 =>
  Do (aGuard t17 true (aFieldAddr 3 1 t20)) fun t21 =>
  Do (aGuard t17 true (loadF false 1 t21)) fun t22 =>
  Do (aGuard t17 true (aBin Go.Proofs.Try.prog .eql 3 t22 (.val (.int .i64 2)))) fun t23 =>
  Do (aPick t17 t23 (.val (.bool false))) fun t24 =>
  Do (aGuard t24 true (aIs t9)) fun t26 =>
  Do (aGuard t24 true (aIndexAddr .slice 4 t26 (.val (.int .i64 1)))) fun t27 =>
  Do (aGuard t24 true (aFieldAddr 3 1 t27)) fun t28 =>
  Do (aGuard t24 true (loadF false 1 t28)) fun t29 =>
  Do (aGuard t24 true (aBin Go.Proofs.Try.prog .eql 3 t29 (.val (.int .i64 3)))) fun t30 =>
  Do (aPick t24 t30 (.val (.bool false))) fun t31 =>
  Do (aGuard t31 true (aLit [.val (.string ⟨#[]⟩), .val (.string ⟨#[]⟩), .val (.bool false), .val (.int .i64 0)] [(0, 1), (1, 1), (2, 1), (3, 1)] [(0, (.val (.string ⟨#[97]⟩))), (3, (.val (.int .i64 1)))])) fun t33 =>
  Do (aGuard t31 true (aPureC Go.Proofs.Try.prog 24 [t33])) fun t34 =>
  Do (aPick t31 t34 (.val (.bool false))) fun t35 =>
  Q (.ret t35) σ
theorem law03_shown.eq (σ : Store) (Q : AEnd → Store → Prop) : vc (semOf Go.Proofs.Try.prog law03_shown.mark) Go.Proofs.Try.f29.ntmps law03_shown.ann (bodyOf Go.Proofs.Try.f29) (endK [.tmp 0] Q) (argFr []) σ = law03_shown.sh  σ Q := by kernel_rfl
theorem law03_shown.go {σ : Store} {Q : AEnd → Store → Prop} (h : law03_shown.sh  σ Q) : ACalls Go.Proofs.Try.prog 29 [] σ Q :=
  acalls_of_eq [.tmp 0] Go.Proofs.Try.func29 (by kernel_rfl) (by kernel_rfl) (by kernel_rfl) (by kernel_rfl) (law03_shown.eq  σ Q) h
def law03_EntryFinds.mark : Mark := ⟨fun t => Nat.beq t 10 || Nat.beq t 12 || Nat.beq t 13 || Nat.beq t 17, fun t => false, fun t => false, fun t => Nat.beq t 38 || Nat.beq t 57, fun t => false⟩
def law03_EntryFinds.ann : Ann := ⟨fun n => bif Nat.beq n 7 then [1, 5, 6, 7, 8, 9] else [], fun n => none, fun n => none⟩
/-- 'marlstone/marlstonelaw03.EntryFinds' -/
def law03_EntryFinds.sh (a0 a1 : AV) (σ : Store) (Q : AEnd → Store → Prop) : Prop :=
  Do (aPureC Go.Proofs.Try.prog 29 []) fun t10 =>
  Do (aPureC Go.Proofs.Try.prog 32 [a0, (.val (.int .i64 60))]) fun t12 =>
  Do (aPureC Go.Proofs.Try.prog 31 [t12]) fun t13 =>
  Do (aPureC Go.Proofs.Try.prog 33 [t13, a1]) fun t17 =>
  Do (aExt t17 0) fun t18 =>
  Do (aExt t17 1) fun t19 =>
  Do (aBin Go.Proofs.Try.prog .lss 3 t18 (.val (.int .i64 0))) fun t21 =>
  Do (aGuard t21 false (aIs t18)) fun t23 =>
  Do (aGuard t21 false (aIs t13)) fun t24 =>
  Do (aGuard t21 false (aBuiltin Go.Proofs.Try.prog .len #[22] [t24])) fun t25 =>
  Do (aGuard t21 false (aBin Go.Proofs.Try.prog .gtr 3 t23 t25)) fun t26 =>
  Do (aPick t21 (.val (.bool true)) t26) fun t27 =>
  aCond t27
    (Q (.ret (.val (.bool false))) σ)
    (aLoop (fun go vs σ =>
    At vs 0 fun s1 => At vs 1 fun s5 => At vs 2 fun s6 => At vs 3 fun s7 => At vs 4 fun s8 => At vs 5 fun s9 => Do (aBuiltin Go.Proofs.Try.prog .len #[22] [s6]) fun t30 =>
    Do (aBin Go.Proofs.Try.prog .lss 3 s9 t30) fun t31 =>
    aCond t31
      (Do (aIndexAddr .slice 4 s6 s9) fun t36 =>
    Do (aFieldAddr 0 1 t36) fun t37 =>
    Do (loadF false 1 t37) fun t38 =>
    Do (aBin Go.Proofs.Try.prog .lss 9 t38 s1) fun t40 =>
    Do (aBin Go.Proofs.Try.prog .lss 3 s9 s7) fun t43 =>
    Do (aBin Go.Proofs.Try.prog .neq 4 t40 t43) fun t44 =>
    aCond t44
      (Q (.ret (.val (.bool false))) σ)
      (Do (aBin Go.Proofs.Try.prog .add 3 s9 (.val (.int .i64 1))) fun t33 =>
    go [s1, s5, s6, s7, s8, t33] σ))
      (Do (aGuard s5 true (aIs s8)) fun t47 =>
  Do (aGuard s5 true (aIs s7)) fun t48 =>
  Do (aGuard s5 true (aIs s6)) fun t49 =>
  Do (aGuard s5 true (aBuiltin Go.Proofs.Try.prog .len #[22] [t49])) fun t50 =>
  Do (aGuard s5 true (aBin Go.Proofs.Try.prog .lss 3 t48 t50)) fun t51 =>
  Do (aGuard s5 true (aIs t51)) fun t52 =>
  Do (aGuard t52 true (aIs s6)) fun t53 =>
  Do (aGuard t52 true (aIs s7)) fun t54 =>
  Do (aGuard t52 true (aIndexAddr .slice 4 t53 t54)) fun t55 =>
  Do (aGuard t52 true (aFieldAddr 0 1 t55)) fun t56 =>
  Do (aGuard t52 true (loadF false 1 t56)) fun t57 =>
  Do (aGuard t52 true (aIs s1)) fun t58 =>
  Do (aGuard t52 true (aBin Go.Proofs.Try.prog .eql 9 t57 t58)) fun t59 =>
  Do (aGuard s5 true (aPick t52 t59 (.val (.bool false)))) fun t60 =>
  Do (aGuard s5 true (aBin Go.Proofs.Try.prog .eql 4 t47 t60)) fun t61 =>
  Do (aPick s5 t61 (.val (.bool false))) fun t62 =>
  Q (.ret t62) σ))
    [a1, t10, t13, t18, t19, (.val (.int .i64 0))] σ)
theorem law03_EntryFinds.eq (a0 a1 : AV) (σ : Store) (Q : AEnd → Store → Prop) : vc (semOf Go.Proofs.Try.prog law03_EntryFinds.mark) Go.Proofs.Try.f8.ntmps law03_EntryFinds.ann (bodyOf Go.Proofs.Try.f8) (endK [.tmp 4] Q) (argFr [a0, a1]) σ = law03_EntryFinds.sh a0 a1 σ Q := by kernel_rfl
theorem law03_EntryFinds.go {a0 a1 : AV} {σ : Store} {Q : AEnd → Store → Prop} (h : law03_EntryFinds.sh a0 a1 σ Q) : ACalls Go.Proofs.Try.prog 8 [a0, a1] σ Q :=
  acalls_of_eq [.tmp 4] Go.Proofs.Try.func8 (by kernel_rfl) (by kernel_rfl) (by kernel_rfl) (by kernel_rfl) (law03_EntryFinds.eq a0 a1 σ Q) h
theorem place_iff {k : List UInt8} : ∀ {F : List En} {i : Nat}, Rises F → i < F.length → (lt (F.getD i default).key k = true ↔ i < placeN F k)
  | [], i, _, h => by simp at h
  | y :: l, i, hr, h => by
    obtain ⟨h1, h2⟩ := List.pairwise_cons.1 hr
    cases hlt : lt y.key k with
    | true =>
      rw [place_cons hlt]
      cases i with
      | zero => simp [hlt]
      | succ i =>
        have ih := place_iff (k := k) (i := i) h2 (by simpa using h)
        rw [List.getD_cons_succ, ih]
        omega
    | false =>
      rw [place_zero hr hlt]
      cases i with
      | zero => simp [hlt]
      | succ i =>
        rw [List.getD_cons_succ]
        refine ⟨fun hc => ?_, fun hc => by omega⟩
        have hm : l.getD i default ∈ l := by
          have hi : i < l.length := by simpa using h
          rw [List.getD_eq_getElem?_getD, List.getElem?_eq_getElem hi]
          exact List.getElem_mem hi
        have := lt_trans' (h1 _ hm) hc
        rw [hlt] at this
        cases this
theorem place_has {k : List UInt8} {F : List En} (hr : Rises F) : hasK F k = true ↔ placeN F k < F.length ∧ (F.getD (placeN F k) default).key = k := by
  refine ⟨place_lt hr, fun ⟨h1, h2⟩ => ?_⟩
  unfold hasK
  rw [List.any_eq_true]
  refine ⟨F.getD (placeN F k) default, ?_, by simpa using h2⟩
  rw [List.getD_eq_getElem?_getD, List.getElem?_eq_getElem h1]
  exact List.getElem_mem h1
theorem cut3_ok (e : En) : aPure Go.Proofs.Try.prog 39 [e.av] (cutE 200 1100 e).av := by
  refine ACalls.fin (law03_cut.go ?_)
  unfold law03_cut.sh
  repeat' (first | with_reducible apply Stp.go | with_reducible refine imp fun _ => ?_ | (with_reducible refine hyp ?_ ?_; first | assumption | exact leftT_mem (by assumption)) | (with_reducible refine need ?_ ?_; first | trivial | omega | (simp only [List.length_append, List.length_cons, List.length_nil, List.length_map, List.length_take, List.length_drop, List.length_replicate]; omega)) | (with_reducible refine fact ?_ ?_; first | trivial | exact ⟨rfl, rfl⟩ | kernel_rfl) | with_reducible refine choT (by assumption) ?_ | with_reducible refine choF (by assumption) ?_ | with_reducible refine choF' (by assumption) ?_ | (with_reducible refine altT ?_ ?_; first | omega | (simp only [List.length_append, List.length_cons, List.length_nil, List.length_map, List.length_take, List.length_drop, List.length_replicate]; omega)) | with_reducible refine altF ?_ | with_reducible refine all fun _ => ?_ | with_reducible refine both ?_ ?_ | (with_reducible refine choT ?_ ?_; omega) | (with_reducible refine choF ?_ ?_; omega) | with_reducible refine cho (fun _ => ?_) (fun _ => ?_))
  exact ⟨_, _, _, rfl, subS _, by rw [take_minN, take_minN]; rfl, rfl⟩
instance {e : En} : PC Go.Proofs.Try.prog 39 [e.av] True (cutE 200 1100 e).av := ⟨fun _ => PC.of (cut3_ok e)⟩
theorem few3_ok (l : List En) (m : SM) (k : Nat) (hl : l.length ≤ 100000000000000) (hk : k ≤ 1000) : aPure Go.Proofs.Try.prog 32 [.lst 4 (l.map En.av) m, I .i64 (k : Nat)] (.lst 4 (((l.take k).map (cutE 200 1100)).map En.av) .ro) := by
  refine ACalls.fin (law03_few.go ?_)
  unfold law03_few.sh
  repeat' (first | with_reducible apply Stp.go | with_reducible refine imp fun _ => ?_ | (with_reducible refine hyp ?_ ?_; first | assumption | exact leftT_mem (by assumption)) | (with_reducible refine need ?_ ?_; first | trivial | omega | (simp only [List.length_append, List.length_cons, List.length_nil, List.length_map, List.length_take, List.length_drop, List.length_replicate]; omega)) | (with_reducible refine fact ?_ ?_; first | trivial | exact ⟨rfl, rfl⟩ | kernel_rfl) | with_reducible refine choT (by assumption) ?_ | with_reducible refine choF (by assumption) ?_ | with_reducible refine choF' (by assumption) ?_ | (with_reducible refine altT ?_ ?_; first | omega | (simp only [List.length_append, List.length_cons, List.length_nil, List.length_map, List.length_take, List.length_drop, List.length_replicate]; omega)) | with_reducible refine altF ?_ | with_reducible refine all fun _ => ?_ | with_reducible refine both ?_ ?_ | (with_reducible refine choT ?_ ?_; omega) | (with_reducible refine choF ?_ ?_; omega) | with_reducible refine cho (fun _ => ?_) (fun _ => ?_))
  refine loopI (β := Nat × Value) (fun x => x.1 ≤ l.length ∧ x.1 ≤ k) (fun x => [.lst 4 (l.map En.av) m, I .i64 (k : Nat), .own x.2 x.1, I .i64 (x.1 : Nat)]) (fun x => [.row x.2 35 4 (((l.take x.1).map (cutE 200 1100)).map En.av) 0]) (fun x => k - x.1) (0, _) ⟨Nat.zero_le _, Nat.zero_le _⟩ (Sub.nil_own 35 (by decide) _ [_, _] [_]) ?_
  rintro ⟨i, v⟩ ⟨h1, h2⟩
  dsimp only at h1 h2 ⊢
  repeat' (first | with_reducible apply Stp.go | with_reducible refine imp fun _ => ?_ | (with_reducible refine hyp ?_ ?_; first | assumption | exact leftT_mem (by assumption)) | (with_reducible refine need ?_ ?_; first | trivial | omega | (simp only [List.length_append, List.length_cons, List.length_nil, List.length_map, List.length_take, List.length_drop, List.length_replicate]; omega)) | (with_reducible refine fact ?_ ?_; first | trivial | exact ⟨rfl, rfl⟩ | kernel_rfl) | with_reducible refine choT (by assumption) ?_ | with_reducible refine choF (by assumption) ?_ | with_reducible refine choF' (by assumption) ?_ | (with_reducible refine altT ?_ ?_; first | omega | (simp only [List.length_append, List.length_cons, List.length_nil, List.length_map, List.length_take, List.length_drop, List.length_replicate]; omega)) | with_reducible refine altF ?_ | with_reducible refine all fun _ => ?_ | with_reducible refine both ?_ ?_ | (with_reducible refine choT ?_ ?_; omega) | (with_reducible refine choF ?_ ?_; omega) | with_reducible refine cho (fun _ => ?_) (fun _ => ?_))
  · rename_i w
    refine again (i + 1, w) (by dsimp only; omega) ⟨by dsimp only; omega, by dsimp only; omega⟩ ?_
    have e : (l.take (i + 1)).map (cutE 200 1100) = (l.take i).map (cutE 200 1100) ++ [cutE 200 1100 (l.getD i default)] := by rw [take_succ_d (by omega), List.map_append]; rfl
    have en : ((l.take i).map (cutE 200 1100)).length = i := by simp; omega
    dsimp only
    rw [e, List.length_append, en]
    exact subS _
  · have e : i = min l.length k := by omega
    refine ⟨_, _, _, rfl, retOwn (Sub.refl _ _), ?_, rfl⟩
    rw [e, take_minN]
  · have e : i = min l.length k := by omega
    refine ⟨_, _, _, rfl, retOwn (Sub.refl _ _), ?_, rfl⟩
    rw [e, take_minN]
instance {a : AV} {l : List En} {m : SM} {k : Nat} {x : Int} [h : IsL a En.av 4 l m] [hk : NatOf x k] : PC Go.Proofs.Try.prog 32 [a, .val (.int .i64 x)] (l.length ≤ 100000000000000 ∧ k ≤ 1000) (.lst 4 (((l.take k).map (cutE 200 1100)).map En.av) .ro) := ⟨fun hl => by rw [hk.eq]; exact ⟨[.lst 4 (l.map En.av) m, I .i64 (k : Nat)], ⟨h.sub, SubVs.refl _⟩, few3_ok l m k hl.1 hl.2⟩⟩
theorem shown3_ok : aPure Go.Proofs.Try.prog 29 [] (B true) := by
  refine law03_shown.go ?_
  unfold law03_shown.sh
  have e1 : enB ⟨[97], [118], false, 1⟩ = [0, 1, 1, 97, 1, 118] := by simp [enB, enR, right, put_small]
  have e2 : foldE [⟨[98], [], false, 1⟩, ⟨[97], [], false, 2⟩, ⟨[98], [], false, 3⟩] = [⟨[97], [], false, 2⟩, ⟨[98], [], false, 3⟩] := by decide
  have e3 : right ⟨[97], [], false, 1⟩ = true := by decide
  repeat' (first | with_reducible apply Stp.go | with_reducible refine imp fun _ => ?_ | (with_reducible refine hyp ?_ ?_; first | assumption | exact leftT_mem (by assumption)) | (with_reducible refine need ?_ ?_; first | trivial | omega | (simp only [List.length_append, List.length_cons, List.length_nil, List.length_map, List.length_take, List.length_drop, List.length_replicate]; omega)) | (with_reducible refine fact ?_ ?_; first | trivial | exact ⟨rfl, rfl⟩ | kernel_rfl) | with_reducible refine choT (by assumption) ?_ | with_reducible refine choF (by assumption) ?_ | with_reducible refine choF' (by assumption) ?_ | (with_reducible refine altT ?_ ?_; first | omega | (simp only [List.length_append, List.length_cons, List.length_nil, List.length_map, List.length_take, List.length_drop, List.length_replicate]; omega)) | with_reducible refine altF ?_ | with_reducible refine all fun _ => ?_ | with_reducible refine both ?_ ?_ | (with_reducible refine choT ?_ ?_; omega) | (with_reducible refine choF ?_ ?_; omega) | with_reducible refine cho (fun _ => ?_) (fun _ => ?_))
  all_goals simp_all
instance shown3I : PC Go.Proofs.Try.prog 29 [] True (B true) := ⟨fun _ => PC.of shown3_ok⟩
theorem EntryFinds_ok (l : List En) (m : SM) (k : List UInt8) (hl : l.length ≤ 100000000000000) (hk : k.length ≤ 140737488355328) : aPure Go.Proofs.Try.prog 8 [.lst 4 (l.map En.av) m, S k] (B true) := by
  refine law03_EntryFinds.go ?_
  unfold law03_EntryFinds.sh
  obtain ⟨L, hL⟩ : ∃ L, L = (l.take 60).map (cutE 200 1100) := ⟨_, rfl⟩
  have h60 : L.length ≤ 60 := by rw [hL]; simp; omega
  have hF := foldE_length L
  have hr := foldE_rises L
  have hp := placeN_le (foldE L) k
  repeat' (first | with_reducible apply Stp.go | with_reducible refine imp fun _ => ?_ | (with_reducible refine hyp ?_ ?_; first | assumption | exact leftT_mem (by assumption)) | (with_reducible refine need ?_ ?_; first | trivial | omega | (simp only [List.length_append, List.length_cons, List.length_nil, List.length_map, List.length_take, List.length_drop, List.length_replicate]; omega)) | (with_reducible refine fact ?_ ?_; first | trivial | exact ⟨rfl, rfl⟩ | kernel_rfl) | with_reducible refine choT (by assumption) ?_ | with_reducible refine choF (by assumption) ?_ | with_reducible refine choF' (by assumption) ?_ | (with_reducible refine altT ?_ ?_; first | omega | (simp only [List.length_append, List.length_cons, List.length_nil, List.length_map, List.length_take, List.length_drop, List.length_replicate]; omega)) | with_reducible refine altF ?_ | with_reducible refine all fun _ => ?_ | with_reducible refine both ?_ ?_ | (with_reducible refine choT ?_ ?_; omega) | (with_reducible refine choF ?_ ?_; omega) | with_reducible refine cho (fun _ => ?_) (fun _ => ?_))
  rw [← hL] at *
  have hpi := fun i => place_iff (k := k) (i := i) hr
  have hph := place_has (k := k) hr
  generalize hFe : foldE L = F at *
  generalize hPe : placeN F k = p at *
  repeat' (first | with_reducible apply Stp.go | with_reducible refine imp fun _ => ?_ | (with_reducible refine hyp ?_ ?_; first | assumption | exact leftT_mem (by assumption)) | (with_reducible refine need ?_ ?_; first | trivial | omega | (simp only [List.length_append, List.length_cons, List.length_nil, List.length_map, List.length_take, List.length_drop, List.length_replicate]; omega)) | (with_reducible refine fact ?_ ?_; first | trivial | exact ⟨rfl, rfl⟩ | kernel_rfl) | with_reducible refine choT (by assumption) ?_ | with_reducible refine choF (by assumption) ?_ | with_reducible refine choF' (by assumption) ?_ | (with_reducible refine altT ?_ ?_; first | omega | (simp only [List.length_append, List.length_cons, List.length_nil, List.length_map, List.length_take, List.length_drop, List.length_replicate]; omega)) | with_reducible refine altF ?_ | with_reducible refine all fun _ => ?_ | with_reducible refine both ?_ ?_ | (with_reducible refine choT ?_ ?_; omega) | (with_reducible refine choF ?_ ?_; omega) | with_reducible refine cho (fun _ => ?_) (fun _ => ?_))
  refine loopI (β := Nat) (fun i => i ≤ F.length) (fun i => [S k, B true, .lst 4 (F.map En.av) .ro, I .i64 (p : Nat), B (hasK F k), I .i64 (i : Nat)]) (fun _ => []) (fun i => F.length - i) 0 (Nat.zero_le _) (Sub.refl _ _) ?_
  intro i hi
  by_cases hlt : i < F.length
  · have hpi := hpi i hlt
    repeat' (first | with_reducible apply Stp.go | with_reducible refine imp fun _ => ?_ | (with_reducible refine hyp ?_ ?_; first | assumption | exact leftT_mem (by assumption)) | (with_reducible refine need ?_ ?_; first | trivial | omega | (simp only [List.length_append, List.length_cons, List.length_nil, List.length_map, List.length_take, List.length_drop, List.length_replicate]; omega)) | (with_reducible refine fact ?_ ?_; first | trivial | exact ⟨rfl, rfl⟩ | kernel_rfl) | with_reducible refine choT (by assumption) ?_ | with_reducible refine choF (by assumption) ?_ | with_reducible refine choF' (by assumption) ?_ | (with_reducible refine altT ?_ ?_; first | omega | (simp only [List.length_append, List.length_cons, List.length_nil, List.length_map, List.length_take, List.length_drop, List.length_replicate]; omega)) | with_reducible refine altF ?_ | with_reducible refine all fun _ => ?_ | with_reducible refine both ?_ ?_ | (with_reducible refine choT ?_ ?_; omega) | (with_reducible refine choF ?_ ?_; omega) | with_reducible refine cho (fun _ => ?_) (fun _ => ?_))
    · exact again (i + 1) (by omega) (by omega) (Sub.refl _ _)
    · rename_i hne
      exfalso
      apply hne
      rw [Bool.eq_iff_iff, decide_eq_true_eq]
      exact hpi
  · repeat' (first | with_reducible apply Stp.go | with_reducible refine imp fun _ => ?_ | (with_reducible refine hyp ?_ ?_; first | assumption | exact leftT_mem (by assumption)) | (with_reducible refine need ?_ ?_; first | trivial | omega | (simp only [List.length_append, List.length_cons, List.length_nil, List.length_map, List.length_take, List.length_drop, List.length_replicate]; omega)) | (with_reducible refine fact ?_ ?_; first | trivial | exact ⟨rfl, rfl⟩ | kernel_rfl) | with_reducible refine choT (by assumption) ?_ | with_reducible refine choF (by assumption) ?_ | with_reducible refine choF' (by assumption) ?_ | (with_reducible refine altT ?_ ?_; first | omega | (simp only [List.length_append, List.length_cons, List.length_nil, List.length_map, List.length_take, List.length_drop, List.length_replicate]; omega)) | with_reducible refine altF ?_ | with_reducible refine all fun _ => ?_ | with_reducible refine both ?_ ?_ | (with_reducible refine choT ?_ ?_; omega) | (with_reducible refine choF ?_ ?_; omega) | with_reducible refine cho (fun _ => ?_) (fun _ => ?_))
    · rename_i h
      have e : hasK F k = decide ((F.getD p default).key = k) := by rw [Bool.eq_iff_iff, hph, decide_eq_true_eq]; exact ⟨fun x => x.2, fun x => ⟨h, x⟩⟩
      rw [decide_eq_true e]
      exact ⟨rfl, rfl⟩
    · rename_i h
      have e : hasK F k = false := by
        cases hc : hasK F k with
        | false => rfl
        | true => exact absurd (hph.1 hc).1 h
      rw [decide_eq_true e]
      exact ⟨rfl, rfl⟩
end Go.Ab
