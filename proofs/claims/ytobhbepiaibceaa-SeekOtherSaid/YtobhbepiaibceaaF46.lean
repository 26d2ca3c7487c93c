/- What is fit for a table; its leaves. -/
import Derived.Test.YtobhbepiaibceaaF45
import Derived.Test.YtobhbepiaibceaaF3
import Derived.Test.YtobhbepiaibceaaF4
import Derived.Test.YtobhbepiaibceaaSp8
set_option linter.unusedVariables false
set_option linter.unusedSimpArgs false
namespace Go.Ab
def table_Fit_1.mark : Mark := ⟨fun t => Nat.beq t 4, fun t => false, fun t => Nat.beq t 1, fun t => Nat.beq t 3, fun t => false⟩
def table_Fit_1.ann : Ann := ⟨fun n => [], fun n => none, fun n => none⟩
/-- 'marlstone/table.Fit$1' -/
def table_Fit_1.sh (a0 : AV) (σ : Store) (Q : AEnd → Store → Prop) : Prop :=
  Do (aFreeze ((a0 : AV)).cells) fun t1 =>
  Do (loadF true 4 t1) fun t3 =>
  Do (aPureC Go.Proofs.Try.prog 61 [t3]) fun t4 =>
  Do (aUn Go.Proofs.Try.prog .not t4) fun t5 =>
  Q (.ret t5) σ
theorem table_Fit_1.eq (a0 : AV) (σ : Store) (Q : AEnd → Store → Prop) : vc (semOf Go.Proofs.Try.prog table_Fit_1.mark) Go.Proofs.Try.f82.ntmps table_Fit_1.ann (bodyOf Go.Proofs.Try.f82) (endK [.tmp 2] Q) (argFr [a0]) σ = table_Fit_1.sh a0 σ Q := by kernel_rfl
theorem table_Fit_1.go {a0 : AV} {σ : Store} {Q : AEnd → Store → Prop} (h : table_Fit_1.sh a0 σ Q) : ACalls Go.Proofs.Try.prog 82 [a0] σ Q :=
  acalls_of_eq [.tmp 2] Go.Proofs.Try.func82 (by kernel_rfl) (by kernel_rfl) (by kernel_rfl) (by kernel_rfl) (table_Fit_1.eq a0 σ Q) h
def table_Fit.mark : Mark := ⟨fun t => Nat.beq t 13 || Nat.beq t 17, fun t => false, fun t => false, fun t => false, fun t => false⟩
def table_Fit.ann : Ann := ⟨fun n => [], fun n => none, fun n => none⟩
/-- 'marlstone/table.Fit' -/
def table_Fit.sh (a0 : AV) (σ : Store) (Q : AEnd → Store → Prop) : Prop :=
  Do (aBuiltin Go.Proofs.Try.prog .len #[22] [a0]) fun t4 =>
  Do (aBin Go.Proofs.Try.prog .gtr 3 t4 (.val (.int .i64 0))) fun t5 =>
  Do (aGuard t5 true (aIs a0)) fun t7 =>
  Do (aGuard t5 true (aBuiltin Go.Proofs.Try.prog .len #[22] [t7])) fun t8 =>
  Do (aGuard t5 true (aBin Go.Proofs.Try.prog .leq 3 t8 (.val (.int .i64 64)))) fun t9 =>
  Do (aPick t5 t9 (.val (.bool false))) fun t10 =>
  Do (aGuard t10 true (aIs a0)) fun t12 =>
  Do (aGuard t10 true (aPureC Go.Proofs.Try.prog 53 [t12])) fun t13 =>
  Do (aPick t10 t13 (.val (.bool false))) fun t14 =>
  Do (aGuard t14 true (aIs a0)) fun t16 =>
  Do (aGuard t14 true (aPureC Go.Proofs.Try.prog 81 [t16, (.val (.func (.func 82) #[] #[]))])) fun t17 =>
  Do (aGuard t14 true (aUn Go.Proofs.Try.prog .not t17)) fun t18 =>
  Do (aPick t14 t18 (.val (.bool false))) fun t19 =>
  Q (.ret t19) σ
theorem table_Fit.eq (a0 : AV) (σ : Store) (Q : AEnd → Store → Prop) : vc (semOf Go.Proofs.Try.prog table_Fit.mark) Go.Proofs.Try.f36.ntmps table_Fit.ann (bodyOf Go.Proofs.Try.f36) (endK [.tmp 2] Q) (argFr [a0]) σ = table_Fit.sh a0 σ Q := by kernel_rfl
theorem table_Fit.go {a0 : AV} {σ : Store} {Q : AEnd → Store → Prop} (h : table_Fit.sh a0 σ Q) : ACalls Go.Proofs.Try.prog 36 [a0] σ Q :=
  acalls_of_eq [.tmp 2] Go.Proofs.Try.func36 (by kernel_rfl) (by kernel_rfl) (by kernel_rfl) (by kernel_rfl) (table_Fit.eq a0 σ Q) h
def table_Leaves.mark : Mark := ⟨fun t => Nat.beq t 14, fun t => false, fun t => false, fun t => Nat.beq t 11, fun t => false⟩
def table_Leaves.ann : Ann := ⟨fun n => bif Nat.beq n 3 then [3, 6, 7, 8] else [], fun n => none, fun n => none⟩
/-- 'marlstone/table.Leaves' -/
def table_Leaves.sh (a0 : AV) (σ : Store) (Q : AEnd → Store → Prop) : Prop :=
  Do (aBuiltin Go.Proofs.Try.prog .len #[22] [a0]) fun t7 =>
  aLoop (fun go vs σ =>
    At vs 0 fun s3 => At vs 1 fun s6 => At vs 2 fun s7 => At vs 3 fun s8 => Do (aBin Go.Proofs.Try.prog .lss 3 s8 s7) fun t9 =>
    aCond t9
      (Do (aIndexAddr .slice 4 s6 s8) fun t10 =>
    Do (loadF true 4 t10) fun t11 =>
    aNewVar 54 [.val (.string ⟨#[]⟩), .val (.string ⟨#[]⟩), .val (.bool false), .val (.int .i64 0)] σ fun t5 σ_1 =>
    storeA 4 t5 t11 σ_1 fun u σ_2 =>
    Do (loadA true 4 t5 σ_2) fun t13 =>
    Do (aPureC Go.Proofs.Try.prog 63 [t13]) fun t14 =>
    Do (aSlLit (mkE [.val (.slice none 0 0)]) 1 1 [(0, t14)]) fun t15 =>
    aAppend 27 1 24 s3 t15 σ_2 (subK fun t16 σ_3 =>
    Do (aBin Go.Proofs.Try.prog .add 3 s8 (.val (.int .i64 1))) fun t17 =>
    go [t16, s6, s7, t17] σ_3))
      (Q (.ret s3) σ))
    [(.val (.slice none 0 0)), a0, t7, (.val (.int .i64 0))] σ
theorem table_Leaves.eq (a0 : AV) (σ : Store) (Q : AEnd → Store → Prop) : vc (semOf Go.Proofs.Try.prog table_Leaves.mark) Go.Proofs.Try.f32.ntmps table_Leaves.ann (bodyOf Go.Proofs.Try.f32) (endK [.tmp 2] Q) (argFr [a0]) σ = table_Leaves.sh a0 σ Q := by kernel_rfl
theorem table_Leaves.go {a0 : AV} {σ : Store} {Q : AEnd → Store → Prop} (h : table_Leaves.sh a0 σ Q) : ACalls Go.Proofs.Try.prog 32 [a0] σ Q :=
  acalls_of_eq [.tmp 2] Go.Proofs.Try.func32 (by kernel_rfl) (by kernel_rfl) (by kernel_rfl) (by kernel_rfl) (table_Leaves.eq a0 σ Q) h
theorem tfit1_ok (e : En) : aPure Go.Proofs.Try.prog 82 [e.av] (B (!right e)) := by
  refine table_Fit_1.go ?_
  unfold table_Fit_1.sh
  repeat' (first | with_reducible apply Stp.go | with_reducible refine imp fun _ => ?_ | (with_reducible refine hyp ?_ ?_; first | assumption | exact leftT_mem (by assumption)) | (with_reducible refine need ?_ ?_; first | trivial | omega | exact ⟨by assumption, by omega⟩ | (simp only [List.length_append, List.length_cons, List.length_nil, List.length_map, List.length_take, List.length_drop, List.length_replicate, List.length_set]; omega)) | (with_reducible refine fact ?_ ?_; first | trivial | exact ⟨rfl, rfl⟩ | kernel_rfl) | with_reducible refine choT (by assumption) ?_ | with_reducible refine choF (by assumption) ?_ | with_reducible refine choF' (by assumption) ?_ | (with_reducible refine altT ?_ ?_; first | omega | (simp only [List.length_append, List.length_cons, List.length_nil, List.length_map, List.length_take, List.length_drop, List.length_replicate, List.length_set]; omega)) | with_reducible refine altF ?_ | with_reducible refine all fun _ => ?_ | with_reducible refine both ?_ ?_ | (with_reducible refine choT ?_ ?_; omega) | (with_reducible refine choF ?_ ?_; omega) | with_reducible refine cho (fun _ => ?_) (fun _ => ?_))
  exact ⟨rfl, rfl⟩
instance (e : En) : PC Go.Proofs.Try.prog 82 [e.av] True (B (!right e)) := ⟨fun _ => PC.of (tfit1_ok e)⟩
theorem tFit_ok (l : List En) (m : SM) (hl : l.length ≤ 1000000000000) : aPure Go.Proofs.Try.prog 36 [.lst 4 (l.map En.av) m] (B (fit l)) := by
  refine table_Fit.go ?_
  unfold table_Fit.sh
  repeat' (first | with_reducible apply Stp.go | with_reducible refine imp fun _ => ?_ | (with_reducible refine hyp ?_ ?_; first | assumption | exact leftT_mem (by assumption)) | (with_reducible refine need ?_ ?_; first | trivial | omega | exact ⟨by assumption, by omega⟩ | (simp only [List.length_append, List.length_cons, List.length_nil, List.length_map, List.length_take, List.length_drop, List.length_replicate, List.length_set]; omega)) | (with_reducible refine fact ?_ ?_; first | trivial | exact ⟨rfl, rfl⟩ | kernel_rfl) | with_reducible refine choT (by assumption) ?_ | with_reducible refine choF (by assumption) ?_ | with_reducible refine choF' (by assumption) ?_ | (with_reducible refine altT ?_ ?_; first | omega | (simp only [List.length_append, List.length_cons, List.length_nil, List.length_map, List.length_take, List.length_drop, List.length_replicate, List.length_set]; omega)) | with_reducible refine altF ?_ | with_reducible refine all fun _ => ?_ | with_reducible refine both ?_ ?_ | (with_reducible refine choT ?_ ?_; omega) | (with_reducible refine choF ?_ ?_; omega) | with_reducible refine cho (fun _ => ?_) (fun _ => ?_))
  · rename_i h1 h2 h
    refine ⟨?_, rfl⟩
    rw [all_right]
    unfold fit
    rw [h, decide_eq_true (show 0 < l.length by omega), decide_eq_true (show l.length ≤ 64 by omega)]
    simp
  · rename_i h1 h2 h
    refine ⟨?_, rfl⟩
    simp [fit, h]
  · rename_i h1 h2
    refine ⟨?_, rfl⟩
    simp [fit, h2]
  · rename_i h1
    refine ⟨?_, rfl⟩
    have : l.length = 0 := by omega
    simp [fit, this]
instance {a : AV} {l : List En} {m : SM} [h : IsL a En.av 4 l m] : PC Go.Proofs.Try.prog 36 [a] (l.length ≤ 1000000000000) (B (fit l)) := ⟨fun hl => ⟨[.lst 4 (l.map En.av) m], ⟨h.sub, trivial⟩, tFit_ok l m hl⟩⟩
instance : ElemF [.val (.slice none 0 0)] (List UInt8) bl := ⟨trivial⟩
abbrev LfT : TypeId := 27
theorem Leaves_ok (l : List En) (m : SM) (hl : l.length ≤ 1000000) : aPure Go.Proofs.Try.prog 32 [.lst 4 (l.map En.av) m] (.lst 1 ((l.map enB).map bl) .ro) := by
  refine ACalls.fin (table_Leaves.go ?_)
  unfold table_Leaves.sh
  repeat' (first | with_reducible apply Stp.go | with_reducible refine imp fun _ => ?_ | (with_reducible refine hyp ?_ ?_; first | assumption | exact leftT_mem (by assumption)) | (with_reducible refine need ?_ ?_; first | trivial | omega | exact ⟨by assumption, by omega⟩ | (simp only [List.length_append, List.length_cons, List.length_nil, List.length_map, List.length_take, List.length_drop, List.length_replicate, List.length_set]; omega)) | (with_reducible refine fact ?_ ?_; first | trivial | exact ⟨rfl, rfl⟩ | kernel_rfl) | with_reducible refine choT (by assumption) ?_ | with_reducible refine choF (by assumption) ?_ | with_reducible refine choF' (by assumption) ?_ | (with_reducible refine altT ?_ ?_; first | omega | (simp only [List.length_append, List.length_cons, List.length_nil, List.length_map, List.length_take, List.length_drop, List.length_replicate, List.length_set]; omega)) | with_reducible refine altF ?_ | with_reducible refine all fun _ => ?_ | with_reducible refine both ?_ ?_ | (with_reducible refine choT ?_ ?_; omega) | (with_reducible refine choF ?_ ?_; omega) | with_reducible refine cho (fun _ => ?_) (fun _ => ?_))
  refine loopI (β := Nat × Value) (fun x => x.1 ≤ l.length) (fun x => [.own x.2 ((l.take x.1).map enB).length, .lst 4 (l.map En.av) m, I .i64 (l.length : Nat), I .i64 (x.1 : Nat)]) (fun x => [.row x.2 LfT 1 (((l.take x.1).map enB).map bl) 0]) (fun x => l.length - x.1) (0, .slice none 0 0) (Nat.zero_le _) (Sub.nil_own LfT (sz := 1) (by decide) [] [] [.lst 4 (l.map En.av) m, I .i64 (l.length : Nat), I .i64 ((0 : Nat) : Int)]) ?_
  rintro ⟨i, v⟩ h1
  dsimp only at h1 ⊢
  by_cases hi : i < l.length
  · have hk : ((l.take i).map enB).length ≤ l.length := by simp; omega
    have e : (l.take (i + 1)).map enB = (l.take i).map enB ++ [enB (l.getD i default)] := by rw [take_succ_d (by omega), List.map_append]; rfl
    repeat' (first | with_reducible apply Stp.go | with_reducible refine imp fun _ => ?_ | (with_reducible refine hyp ?_ ?_; first | assumption | exact leftT_mem (by assumption)) | (with_reducible refine need ?_ ?_; first | trivial | omega | exact ⟨by assumption, by omega⟩ | (simp only [List.length_append, List.length_cons, List.length_nil, List.length_map, List.length_take, List.length_drop, List.length_replicate, List.length_set]; omega)) | (with_reducible refine fact ?_ ?_; first | trivial | exact ⟨rfl, rfl⟩ | kernel_rfl) | with_reducible refine choT (by assumption) ?_ | with_reducible refine choF (by assumption) ?_ | with_reducible refine choF' (by assumption) ?_ | (with_reducible refine altT ?_ ?_; first | omega | (simp only [List.length_append, List.length_cons, List.length_nil, List.length_map, List.length_take, List.length_drop, List.length_replicate, List.length_set]; omega)) | with_reducible refine altF ?_ | with_reducible refine all fun _ => ?_ | with_reducible refine both ?_ ?_ | (with_reducible refine choT ?_ ?_; omega) | (with_reducible refine choF ?_ ?_; omega) | with_reducible refine cho (fun _ => ?_) (fun _ => ?_))
    rename_i w
    refine again (i + 1, w) (by dsimp only; omega) (by dsimp only; omega) ?_
    dsimp only
    rw [e]
    exact Sub.drop_ (List.sublist_cons_self _ _) _
  · have e1 : i = l.length := by omega
    subst e1
    rw [List.take_length]
    repeat' (first | with_reducible apply Stp.go | with_reducible refine imp fun _ => ?_ | (with_reducible refine hyp ?_ ?_; first | assumption | exact leftT_mem (by assumption)) | (with_reducible refine need ?_ ?_; first | trivial | omega | exact ⟨by assumption, by omega⟩ | (simp only [List.length_append, List.length_cons, List.length_nil, List.length_map, List.length_take, List.length_drop, List.length_replicate, List.length_set]; omega)) | (with_reducible refine fact ?_ ?_; first | trivial | exact ⟨rfl, rfl⟩ | kernel_rfl) | with_reducible refine choT (by assumption) ?_ | with_reducible refine choF (by assumption) ?_ | with_reducible refine choF' (by assumption) ?_ | (with_reducible refine altT ?_ ?_; first | omega | (simp only [List.length_append, List.length_cons, List.length_nil, List.length_map, List.length_take, List.length_drop, List.length_replicate, List.length_set]; omega)) | with_reducible refine altF ?_ | with_reducible refine all fun _ => ?_ | with_reducible refine both ?_ ?_ | (with_reducible refine choT ?_ ?_; omega) | (with_reducible refine choF ?_ ?_; omega) | with_reducible refine cho (fun _ => ?_) (fun _ => ?_))
    exact ⟨_, _, _, rfl, retOwn (Sub.refl _ _), rfl, rfl⟩
instance {a : AV} {l : List En} {m : SM} [h : IsL a En.av 4 l m] : PC Go.Proofs.Try.prog 32 [a] (l.length ≤ 1000000) (.lst 1 ((l.map enB).map bl) .ro) := ⟨fun hl => ⟨[.lst 4 (l.map En.av) m], ⟨h.sub, trivial⟩, Leaves_ok l m hl⟩⟩
/-- What is known of a table, as a value. -/
abbrev tabA (lev n : Int) (d : List UInt8) (f g : List UInt8) : AV := .agg (I .i64 lev :: I .i64 n :: (d.map byt ++ [S f, S g]))
def zeroD : List UInt8 := List.replicate 32 0
instance : Len32 zeroD := ⟨by simp [zeroD]⟩
theorem litTab {zs : List AV} {offs : List (Nat × Nat)} {lev n : Int} {d f g : List UInt8} {K : AV → Prop} [hc : Len32 d] (h2 : zs.length = 36) (h3 : offs = [(0, 1), (1, 1), (2, 32), (34, 1), (35, 1)]) (hK : K (tabA lev n d f g)) : Do (aLit zs offs [(0, I .i64 lev), (1, I .i64 n), (2, dgA d), (3, S f), (4, S g)]) K := by
  have hl := hc.len
  refine ⟨_, ⟨?_, I .i64 lev :: I .i64 n :: (d.map byt ++ [S f, S g]), ?_, rfl⟩, hK⟩
  · intro p hp y hy
    simp only [List.mem_cons, List.not_mem_nil, or_false] at hp
    rcases hp with rfl | rfl | rfl | rfl | rfl
    · rw [List.mem_singleton.1 (show y ∈ [I .i64 lev] from hy)]; rfl
    · rw [List.mem_singleton.1 (show y ∈ [I .i64 n] from hy)]; rfl
    · obtain ⟨z, _, rfl⟩ := List.mem_map.1 (show y ∈ d.map byt from hy); rfl
    · rw [List.mem_singleton.1 (show y ∈ [S f] from hy)]; rfl
    · rw [List.mem_singleton.1 (show y ∈ [S g] from hy)]; rfl
  · subst h3
    have e : ∀ (i off s : Nat) (cs : List AV) (v : AV) (rest : List (Nat × AV)) (pl : Nat → Option (Nat × Nat)), pl i = some (off, s) → v.cells.length = s → off + s ≤ cs.length → fillA pl cs ((i, v) :: rest) = fillA pl (splice cs off v.cells) rest := by
      intro i off s cs v rest pl h1 h2 h3
      conv => lhs; unfold fillA
      rw [h1]
      simp only
      rw [if_pos ⟨h2, h3⟩]
    have c3 : (dgA d).cells.length = 32 := by simp [AV.cells, hl]
    rw [e 0 0 1 zs _ _ _ rfl rfl (by omega)]
    have l1 : (splice zs 0 (AV.cells (I .i64 lev))).length = 36 := by rw [splice_length (by simp [AV.cells]; omega)]; exact h2
    rw [e 1 1 1 _ _ _ _ rfl rfl (by omega)]
    have l2 : (splice (splice zs 0 (AV.cells (I .i64 lev))) 1 (AV.cells (I .i64 n))).length = 36 := by rw [splice_length (by rw [l1]; simp [AV.cells])]; exact l1
    rw [e 2 2 32 _ _ _ _ rfl c3 (by omega)]
    have l3 : (splice (splice (splice zs 0 (AV.cells (I .i64 lev))) 1 (AV.cells (I .i64 n))) 2 (AV.cells (dgA d))).length = 36 := by rw [splice_length (by rw [l2, c3]; decide)]; exact l2
    rw [e 3 34 1 _ _ _ _ rfl rfl (by omega)]
    have l4 : (splice (splice (splice (splice zs 0 (AV.cells (I .i64 lev))) 1 (AV.cells (I .i64 n))) 2 (AV.cells (dgA d))) 34 (AV.cells (S f))).length = 36 := by rw [splice_length (by rw [l3]; simp [AV.cells])]; exact l3
    rw [e 4 35 1 _ _ _ _ rfl rfl (by omega)]
    unfold fillA
    congr 1
    have hd : (d.map byt).length = 32 := by simp [hl]
    have ed : AV.cells (dgA d) = d.map byt := rfl
    rw [ed]
    generalize d.map byt = D at hd
    have s1 : splice zs 0 (AV.cells (I .i64 lev)) = I .i64 lev :: zs.drop 1 := by simp [splice, AV.cells]
    rw [s1]
    have s2 : splice (I .i64 lev :: zs.drop 1) 1 (AV.cells (I .i64 n)) = I .i64 lev :: I .i64 n :: zs.drop 2 := by simp [splice, AV.cells]
    rw [s2]
    have s3 : splice (I .i64 lev :: I .i64 n :: zs.drop 2) 2 D = I .i64 lev :: I .i64 n :: (D ++ zs.drop 34) := by simp [splice, hd]
    rw [s3]
    have hz : ∃ x y, zs.drop 34 = [x, y] := by
      have : (zs.drop 34).length = 2 := by simp [h2]
      match zs.drop 34, this with
      | [x, y], _ => exact ⟨x, y, rfl⟩
    obtain ⟨x, y, hz⟩ := hz
    rw [hz]
    have s4 : splice (I .i64 lev :: I .i64 n :: (D ++ [x, y])) 34 (AV.cells (S f)) = I .i64 lev :: I .i64 n :: (D ++ [S f, y]) := by
      have e1 : I .i64 lev :: I .i64 n :: (D ++ [x, y]) = (I .i64 lev :: I .i64 n :: D) ++ [x, y] := rfl
      have e2 : (I .i64 lev :: I .i64 n :: D).length = 34 := by simp [hd]
      rw [e1]
      unfold splice
      rw [List.take_left' e2, List.drop_append, e2, List.drop_of_length_le (by rw [e2]; simp [AV.cells])]
      simp [AV.cells]
    rw [s4]
    have e1 : I .i64 lev :: I .i64 n :: (D ++ [S f, y]) = (I .i64 lev :: I .i64 n :: (D ++ [S f])) ++ [y] := by simp
    have e2 : (I .i64 lev :: I .i64 n :: (D ++ [S f])).length = 35 := by simp [hd]
    rw [e1]
    unfold splice
    rw [List.take_left' e2, List.drop_of_length_le (by rw [List.length_append, e2]; simp [AV.cells])]
    simp [AV.cells]
end Go.Ab
