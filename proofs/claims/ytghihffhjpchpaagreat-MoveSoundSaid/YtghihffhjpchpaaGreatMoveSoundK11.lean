/- The texts that this claim needs, part 11: a logic over abstract values, its steps, what the functions do. No condition of its own. -/
import Derived.Test.YtghihffhjpchpaaGreatMoveSoundK10
set_option linter.unusedVariables false
set_option linter.unusedSimpArgs false
namespace Go.Ab
open Go.Proofs
abbrev EsT : TypeId := 33
namespace Es
def slices_Clone.mark : Mark := ⟨fun t => false, fun t => Nat.beq t 5, fun t => false, fun t => false, fun t => false⟩
def slices_Clone.ann : Ann := ⟨fun n => [], fun n => none, fun n => none⟩
def slices_Clone.sh (a0 : AV) (σ : Store) (Q : AEnd → Store → Prop) : Prop :=
 Do (aBin Tryz.prog .eql 33 a0 (.val (.slice none 0 0))) fun t4 =>
 aCond t4
 (Q (.ret (.val (.slice none 0 0))) σ)
 (aRowL 50 (mkE [.val (.string ⟨#[]⟩), .val (.string ⟨#[]⟩), .val (.bool false), .val (.int .i64 0)]) 4 0 [] σ fun t5 σ =>
 aAppend 50 4 48 t5 a0 σ (subK fun t7 σ_1 =>
 Q (.ret t7) σ_1))
theorem slices_Clone.eq (a0 : AV) (σ : Store) (Q : AEnd → Store → Prop) : vc (semOf Tryz.prog slices_Clone.mark) Tryz.f67.ntmps slices_Clone.ann (bodyOf Tryz.f67) (endK [.tmp 2] Q) (argFr [a0]) σ = slices_Clone.sh a0 σ Q := by kernel_rfl
theorem slices_Clone.go {a0 : AV} {σ : Store} {Q : AEnd → Store → Prop} (h : slices_Clone.sh a0 σ Q) : ACalls Tryz.prog 67 [a0] σ Q :=
 acalls_of_eq [.tmp 2] Tryz.func67 (by kernel_rfl) (by kernel_rfl) (by kernel_rfl) (by kernel_rfl) (slices_Clone.eq a0 σ Q) h
end Es
theorem CloneE_ok (l : List En) (hl : l.length ≤ 1000000) : ACalls Tryz.prog 67 [.lst 4 (l.map En.av) .ro] [] (fun x σ' => x = .ret (.lst 4 (l.map En.av) .ro) ∧ σ' = []) := by
 by_cases h0 : l.length = 0
 ·have e : l = [] := List.length_eq_zero_iff.1 h0
  subst e
  refine emptyArg fun ao cap => ACalls.fin (Es.slices_Clone.go ?_)
  unfold Es.slices_Clone.sh
  cases ao with
  | none =>
   have ht : (none : Option Addr).isNone = true := rfl
   repeat' (with_reducible first|apply Stp.go|refine imp fun _=>?_|refine zq ?_|refine zt ?_|refine zf ?_|refine zg ?_|refine za ?_|refine altF ?_|refine all fun _=>?_|refine both ?_ ?_|refine zu ?_|refine zv ?_|refine cho (fun _=>?_) fun _=>?_|refine zw ?_)
   exact ⟨_, _, _, rfl, retNil En.av (sz := 4) (by decide) (Sub.refl _ _), rfl, rfl⟩
  | some a =>
   have ht : ¬ (some a).isNone = true := by simp
   have hs := fun σ => srcE (sz := 4) (cap := cap) (f := En.av) σ a
   repeat' (with_reducible first|apply Stp.go|refine imp fun _=>?_|refine zq ?_|refine zt ?_|refine zf ?_|refine zg ?_|refine za ?_|refine altF ?_|refine all fun _=>?_|refine both ?_ ?_|refine zu ?_|refine zv ?_|refine cho (fun _=>?_) fun _=>?_|refine zw ?_)
   exact ⟨_, _, _, rfl, retOwn (Sub.refl _ _), rfl, rfl⟩
 ·refine ACalls.fin (Es.slices_Clone.go ?_)
  unfold Es.slices_Clone.sh
  repeat' (with_reducible first|apply Stp.go|refine imp fun _=>?_|refine zq ?_|refine zt ?_|refine zf ?_|refine zg ?_|refine za ?_|refine altF ?_|refine all fun _=>?_|refine both ?_ ?_|refine zu ?_|refine zv ?_|refine cho (fun _=>?_) fun _=>?_|refine zw ?_)
  exact ⟨_, _, _, rfl, retOwn (Sub.refl _ _), rfl, rfl⟩
instance {a : AV} {l : List En} {m : SM} [h : IsL a En.av 4 l m] : PC Tryz.prog 67 [a] (l.length ≤ 1000000) (.lst 4 (l.map En.av) .ro) := ⟨fun hl => ⟨[.lst 4 (l.map En.av) .ro], ⟨fun R v hv => SubV.ro _ _ _ R v (h.sub R v hv), trivial⟩, CloneE_ok l hl⟩⟩
instance : ElemF [.val (.slice none 0 0)] (List En) enL := ⟨trivial⟩
instance (l : List En) : AsF enL (.lst 4 (l.map En.av) .ro) l := ⟨rfl⟩
def merge_Split.mark : Mark := ⟨fun t => false, fun t => false, fun t => false, fun t => false, fun t => false⟩
def merge_Split.ann : Ann := ⟨fun n => bif Nat.beq n 6 then [0, 3, 4, 15, 16] else [], fun n => bif Nat.beq n 11 then some [0, 3, 4, 6, 15, 16] else none, fun n => none⟩
def merge_Split.sh (a0 : AV) (σ : Store) (Q : AEnd → Store → Prop) : Prop :=
 Do (aBuiltin Tryz.prog .len #[33] [a0]) fun t8 =>
 Do (aBin Tryz.prog .eql 3 t8 (.val (.int .i64 0))) fun t9 =>
 aCond t9
 (Q (.ret (.val (.slice none 0 0))) σ)
 (Do (aBuiltin Tryz.prog .len #[33] [a0]) fun t11 =>
 Do (aBin Tryz.prog .add 3 t11 (.val (.int .i64 64))) fun t12 =>
 Do (aBin Tryz.prog .sub 3 t12 (.val (.int .i64 1))) fun t13 =>
 Do (aBin Tryz.prog .quo 3 t13 (.val (.int .i64 64))) fun t14 =>
 aLoop (fun go vs σ =>
 At vs 0 fun s0 => At vs 1 fun s3 => At vs 2 fun s4 => At vs 3 fun s15 => At vs 4 fun s16 => Do (aBin Tryz.prog .lss 3 s16 s15) fun t17 =>
 aCond t17
 (Do (aBuiltin Tryz.prog .len #[33] [s0]) fun t20 =>
 Do (aBin Tryz.prog .sub 3 s3 s16) fun t23 =>
 Do (aBin Tryz.prog .quo 3 t20 t23) fun t24 =>
 aJoin (fun j =>
 Do (aBuiltin Tryz.prog .len #[33] [s0]) fun t26 =>
 Do (aBin Tryz.prog .sub 3 s3 s16) fun t29 =>
 Do (aBin Tryz.prog .rem 3 t26 t29) fun t30 =>
 Do (aBin Tryz.prog .gtr 3 t30 (.val (.int .i64 0))) fun t31 =>
 aCond t31
 (Do (aBin Tryz.prog .add 3 t24 (.val (.int .i64 1))) fun t33 =>
 j [s0, s3, s4, t33, s15, s16] σ)
 (j [s0, s3, s4, t24, s15, s16] σ)) fun vs_1 σ_1 =>
 At vs_1 0 fun s0_1 => At vs_1 1 fun s3_1 => At vs_1 2 fun s4_1 => At vs_1 3 fun s6 => At vs_1 4 fun s15_1 => At vs_1 5 fun s16_1 => Do (aSlice .slice 4 s0_1 none (some s6) none) fun t37 =>
 aCall Tryz.prog 67 [t37] σ_1 (fun t38 σ_2 =>
 Do (aSlLit (mkE [.val (.slice none 0 0)]) 1 1 [(0, t38)]) fun t39 =>
 aAppend 33 1 24 s4_1 t39 σ_2 (subK fun t40 σ_3 =>
 Do (aSlice .slice 4 s0_1 (some s6) none none) fun t43 =>
 Do (aBin Tryz.prog .add 3 s16_1 (.val (.int .i64 1))) fun t44 =>
 go [t43, s3_1, t40, s15_1, t44] σ_3)) (fun e σ_4 => Q (.pan e) σ_4))
 (Q (.ret s4) σ))
 [a0, t14, (.val (.slice none 0 0)), t14, (.val (.int .i64 0))] σ)
theorem merge_Split.eq (a0 : AV) (σ : Store) (Q : AEnd → Store → Prop) : vc (semOf Tryz.prog merge_Split.mark) Tryz.f34.ntmps merge_Split.ann (bodyOf Tryz.f34) (endK [.tmp 2] Q) (argFr [a0]) σ = merge_Split.sh a0 σ Q := by kernel_rfl
theorem merge_Split.go {a0 : AV} {σ : Store} {Q : AEnd → Store → Prop} (h : merge_Split.sh a0 σ Q) : ACalls Tryz.prog 34 [a0] σ Q :=
 acalls_of_eq [.tmp 2] Tryz.func34 (by kernel_rfl) (by kernel_rfl) (by kernel_rfl) (by kernel_rfl) (merge_Split.eq a0 σ Q) h
theorem Split_ok (l : List En) (hl : l.length ≤ 100000) : aPure Tryz.prog 34 [.lst 4 (l.map En.av) .ro] (.lst 1 ((splitL l).map enL) .ro) := by
 refine ACalls.fin (merge_Split.go ?_)
 unfold merge_Split.sh
 by_cases h0 : l.length = 0
 ·have e : l = [] := List.length_eq_zero_iff.1 h0
  subst e
  repeat' (with_reducible first|apply Stp.go|refine imp fun _=>?_|refine zq ?_|refine zt ?_|refine zf ?_|refine zg ?_|refine za ?_|refine altF ?_|refine all fun _=>?_|refine both ?_ ?_|refine zu ?_|refine zv ?_|refine cho (fun _=>?_) fun _=>?_|refine zw ?_)
  all_goals exact ⟨_, _, _, rfl, retNil enL (sz := 1) (by decide) (Sub.refl _ _), rfl, rfl⟩
 ·have hm : (l.length + 64 - 1) / 64 = manyP l.length := rfl
  have hml := manyP_le l.length
  have hsl := splitL_len l
  repeat' (with_reducible first|apply Stp.go|refine imp fun _=>?_|refine zq ?_|refine zt ?_|refine zf ?_|refine zg ?_|refine za ?_|refine altF ?_|refine all fun _=>?_|refine both ?_ ?_|refine zu ?_|refine zv ?_|refine cho (fun _=>?_) fun _=>?_|refine zw ?_)
  generalize hM : manyP l.length = M at *
  refine loopI (β := Nat × Value × List En) (fun x => x.1 ≤ M ∧ M - x.1 ≤ x.2.2.length ∧ x.2.2.length ≤ 64 * (M - x.1) ∧ splitK (M - x.1) x.2.2 = (splitL l).drop x.1)
   (fun x => [.lst 4 (x.2.2.map En.av) .ro, I .i64 (M : Nat), .own x.2.1 ((splitL l).take x.1).length, I .i64 (M : Nat), I .i64 (x.1 : Nat)])
   (fun x => [.row x.2.1 EsT 1 (((splitL l).take x.1).map enL) 0]) (fun x => M - x.1) (0, .slice none 0 0, l) ⟨Nat.zero_le _, hml.1, hml.2, by show splitK (M - 0) l = splitL l; unfold splitL; rw [hM]; rfl⟩ ?_ ?_
  ·rw [hm]
   exact Sub.nil_own EsT (sz := 1) (by decide) _ [_, _] [_, _]
  rintro ⟨i, v, R⟩ ⟨h1, h2, h3, h4⟩
  dsimp only at h1 h2 h3 h4 ⊢
  by_cases hi : i < M
  ·obtain ⟨k, hk⟩ : ∃ k, M - i = k + 1 := ⟨M - i - 1, by omega⟩
   rw [hk] at h2 h3 h4
   have hps := partN_step h2 h3
   have hRl : R.length ≤ 200000 := by omega
   have hkl : k + 1 = M - i := hk.symm
   have hget : (splitL l).drop i = R.take (partN R.length (k + 1)) :: splitK k (R.drop (partN R.length (k + 1))) := h4.symm
   have hil : i < (splitL l).length := by omega
   have hgd : (splitL l).getD i default = R.take (partN R.length (k + 1)) := by
    have := congrArg (fun x => x.getD 0 default) hget
    simpa [List.getD_eq_getElem?_getD, List.getElem?_drop] using this
   have hdr : (splitL l).drop (i + 1) = splitK k (R.drop (partN R.length (k + 1))) := by
    have := congrArg (List.drop 1) hget
    simpa [List.drop_drop] using this
   have htk := take_succ_d hil
   rw [hgd] at htk
   repeat' (with_reducible first|apply Stp.go|refine imp fun _=>?_|refine zq ?_|refine zt ?_|refine zf ?_|refine zg ?_|refine za ?_|refine altF ?_|refine all fun _=>?_|refine both ?_ ?_|refine zu ?_|refine zv ?_|refine cho (fun _=>?_) fun _=>?_|refine zw ?_)
   refine joinI (β := Unit) (fun _ => True) (fun _ => [.lst 4 (R.map En.av) .ro, I .i64 (M : Nat), .own v ((splitL l).take i).length, I .i64 (partN R.length (k + 1) : Nat), I .i64 (M : Nat), I .i64 (i : Nat)]) (fun _ => [.row v EsT 1 (((splitL l).take i).map enL) 0]) ?_ ?_
   ·have hpn : partN R.length (k + 1) = R.length / (M - i) + if R.length % (M - i) = 0 then 0 else 1 := by rw [hk]; rfl
    by_cases hr : R.length % (M - i) = 0
    ·rw [if_pos hr, Nat.add_zero] at hpn
     rw [hpn]
     repeat' (with_reducible first|apply Stp.go|refine imp fun _=>?_|refine zq ?_|refine zt ?_|refine zf ?_|refine zg ?_|refine za ?_|refine altF ?_|refine all fun _=>?_|refine both ?_ ?_|refine zu ?_|refine zv ?_|refine cho (fun _=>?_) fun _=>?_|refine zw ?_)
     all_goals exact meet () trivial (Sub.refl _ _)
    ·rw [if_neg hr] at hpn
     rw [hpn]
     have hr2 : 0 < R.length % (M - i) := by omega
     repeat' (with_reducible first|apply Stp.go|refine imp fun _=>?_|refine zq ?_|refine zt ?_|refine zf ?_|refine zg ?_|refine za ?_|refine altF ?_|refine all fun _=>?_|refine both ?_ ?_|refine zu ?_|refine zv ?_|refine cho (fun _=>?_) fun _=>?_|refine zw ?_)
     all_goals exact meet () trivial (Sub.refl _ _)
   ·rintro ⟨⟩ -
    generalize partN R.length (k + 1) = n at *
    have hln : ((splitL l).take i).length ≤ 200000 := by rw [List.length_take]; omega
    have hRd : (R.drop n).length = R.length - n := List.length_drop
    repeat' (with_reducible first|apply Stp.go|refine imp fun _=>?_|refine zq ?_|refine zt ?_|refine zf ?_|refine zg ?_|refine za ?_|refine altF ?_|refine all fun _=>?_|refine both ?_ ?_|refine zu ?_|refine zv ?_|refine cho (fun _=>?_) fun _=>?_|refine zw ?_)
    rename_i w
    exact again (i + 1, w, R.drop n) (by dsimp only; omega) ⟨by dsimp only; omega, by dsimp only; omega, by dsimp only; omega, by dsimp only; rw [show M - (i + 1) = k by omega]; exact hdr.symm⟩ (by dsimp only; rw [htk]; exact subS _)
  ·have e : i = M := by omega
   subst e
   rw [List.take_of_length_le (by omega)]
   repeat' (with_reducible first|apply Stp.go|refine imp fun _=>?_|refine zq ?_|refine zt ?_|refine zf ?_|refine zg ?_|refine za ?_|refine altF ?_|refine all fun _=>?_|refine both ?_ ?_|refine zu ?_|refine zv ?_|refine cho (fun _=>?_) fun _=>?_|refine zw ?_)
   exact ⟨_, _, _, rfl, retOwn (Sub.refl _ _), rfl, rfl⟩
instance {a : AV} {l : List En} {m : SM} [h : IsL a En.av 4 l m] : PC Tryz.prog 34 [a] (l.length ≤ 100000) (.lst 1 ((splitL l).map enL) .ro) := ⟨fun hl => ⟨[.lst 4 (l.map En.av) .ro], ⟨fun R v hv => SubV.ro _ _ _ R v (h.sub R v hv), trivial⟩, Split_ok l hl⟩⟩
end Go.Ab

namespace Go.Ab
open Go.Proofs
instance {a : AV} {ls : List (List En)} {b : Bool} {m : SM} [h : IsL a enL 1 ls m] : PC Tryz.prog 35 [a, .val (.bool b)] (ls.length ≤ 1000 ∧ ∀ l ∈ ls, l.length ≤ 1000) (.lst 4 ((mergeL b ls).map En.av) .ro) := ⟨fun hl => ⟨[.lst 1 (ls.map enL) m, B b], ⟨h.sub, SubV.refl _, trivial⟩, Merge_ok ls b m hl.1 hl.2⟩⟩
def inputsR (l : List TabR) : AV := if rightT l = true then pickR l else .tuple [.lst 1 (([] : List Int).map it) .ro, I .i64 0, B false]
def move_Inputs.mark : Mark := ⟨fun t => Nat.beq t 6 || Nat.beq t 9, fun t => false, fun t => false, fun t => false, fun t => false⟩
def move_Inputs.ann : Ann := ⟨fun n => [], fun n => none, fun n => none⟩
def move_Inputs.sh (a0 : AV) (σ : Store) (Q : AEnd → Store → Prop) : Prop :=
 Do (aPureC Tryz.prog 21 [a0]) fun t6 =>
 Do (aUn Tryz.prog .not t6) fun t7 =>
 aCond t7
 (Q (.ret (.tuple [(.val (.slice none 0 0)), (.val (.int .i64 0)), (.val (.bool false))])) σ)
 (Do (aPureC Tryz.prog 31 [a0]) fun t9 =>
 Do (aExt t9 0) fun t10 =>
 Do (aExt t9 1) fun t11 =>
 Do (aExt t9 2) fun t12 =>
 Q (.ret (.tuple [t10, t11, t12])) σ)
theorem move_Inputs.eq (a0 : AV) (σ : Store) (Q : AEnd → Store → Prop) : vc (semOf Tryz.prog move_Inputs.mark) Tryz.f9.ntmps move_Inputs.ann (bodyOf Tryz.f9) (endK [.tmp 2, .tmp 3, .tmp 4] Q) (argFr [a0]) σ = move_Inputs.sh a0 σ Q := by kernel_rfl
theorem move_Inputs.go {a0 : AV} {σ : Store} {Q : AEnd → Store → Prop} (h : move_Inputs.sh a0 σ Q) : ACalls Tryz.prog 9 [a0] σ Q :=
 acalls_of_eq [.tmp 2, .tmp 3, .tmp 4] Tryz.func9 (by kernel_rfl) (by kernel_rfl) (by kernel_rfl) (by kernel_rfl) (move_Inputs.eq a0 σ Q) h
theorem Inputs_ok (l : List TabR) (m : SM) (hl : l.length ≤ 1000000) : aPure Tryz.prog 9 [.lst 36 (l.map tbF) m] (inputsR l) := by
 refine ACalls.fin (move_Inputs.go ?_)
 unfold move_Inputs.sh inputsR
 by_cases hr : rightT l = true
 ·rw [if_pos hr]
  have hp := Pick_ok l m hl
  unfold pickR at hp ⊢
  by_cases hk : lvlT l < 3
  ·rw [if_pos hk] at hp ⊢
   have iP : PC Tryz.prog 31 [.lst 36 (l.map tbF) m] True _ := ⟨fun _ => PC.of hp⟩
   repeat' (with_reducible first|apply Stp.go|refine imp fun _=>?_|refine zq ?_|refine zt ?_|refine zf ?_|refine zg ?_|refine za ?_|refine altF ?_|refine all fun _=>?_|refine both ?_ ?_|refine zu ?_|refine zv ?_|refine cho (fun _=>?_) fun _=>?_|refine zw ?_)
   all_goals exact ⟨_, _, _, rfl, Sub.refl _ _, rfl, rfl⟩
  ·rw [if_neg hk] at hp ⊢
   have iP : PC Tryz.prog 31 [.lst 36 (l.map tbF) m] True _ := ⟨fun _ => PC.of hp⟩
   repeat' (with_reducible first|apply Stp.go|refine imp fun _=>?_|refine zq ?_|refine zt ?_|refine zf ?_|refine zg ?_|refine za ?_|refine altF ?_|refine all fun _=>?_|refine both ?_ ?_|refine zu ?_|refine zv ?_|refine cho (fun _=>?_) fun _=>?_|refine zw ?_)
   all_goals exact ⟨_, _, _, rfl, Sub.refl _ _, rfl, rfl⟩
 ·rw [if_neg hr]
  repeat' (with_reducible first|apply Stp.go|refine imp fun _=>?_|refine zq ?_|refine zt ?_|refine zf ?_|refine zg ?_|refine za ?_|refine altF ?_|refine all fun _=>?_|refine both ?_ ?_|refine zu ?_|refine zv ?_|refine cho (fun _=>?_) fun _=>?_|refine zw ?_)
  all_goals exact ⟨_, _, _, rfl, Sub.tuple (retNil it (sz := 1) (by decide) (Sub.app_nil _)), rfl, rfl⟩
def okB (b : Int) (x : TabR) (row : List En) : Bool := fit row && decide (newT b x.lev.toNat row = x)
theorem okB_iff {b : Int} {x : TabR} {row : List En} (hx : mayT x = true) : okB b x row = true ↔ OkRow b x row := by
 have h1 := mayT_lev hx
 unfold okB
 rw [Bool.and_eq_true, decide_eq_true_eq]
 exact ⟨fun h => ⟨h.1, h1.1, h1.2.1, h.2⟩, fun h => ⟨h.fit, h.eq⟩⟩
def allOk (b : Int) (l : List TabR) (ins : List Nat) (RS : List (List En)) : Bool := decide (∀ j, j < ins.length → okB b (l.getD (ins.getD j default) default) (RS.getD j default) = true)
def compactT (b : Int) (l : List TabR) (RS : List (List En)) : (List TabR × List (List En)) × Nat :=
 if rightT l = true then
  (if lvlT l < 3 then
   (if (inK l (lvlT l)).length = RS.length ∧ allOk b l (inK l (lvlT l)) RS = true then ((nextT b l (lvlT l) RS, partsT (lvlT l) RS), 0) else (([], []), 8))
  else (([], []), 5))
 else (([], []), 1)
theorem allOk_no {b : Int} {l : List TabR} {ins : List Nat} {RS : List (List En)} {j : Nat} (hj : j < ins.length) (h : ¬ okB b (l.getD (ins.getD j default) default) (RS.getD j default) = true) : ¬ allOk b l ins RS = true := by
 unfold allOk
 rw [decide_eq_true_eq]
 exact fun g => h (g j hj)
def move_Compact.mark : Mark := ⟨fun t => Nat.beq t 23 || Nat.beq t 27 || Nat.beq t 58 || Nat.beq t 75 || Nat.beq t 76 || Nat.beq t 87, fun t => false, fun t => Nat.beq t 3, fun t => Nat.beq t 46 || Nat.beq t 48 || Nat.beq t 53 || Nat.beq t 57 || Nat.beq t 68 || Nat.beq t 82 || Nat.beq t 84, fun t => false⟩
def move_Compact.ann : Ann := ⟨fun n => bif Nat.beq n 9 then [1, 2, 3, 9, 10, 40, 41, 42] else bif Nat.beq n 18 then [1, 3, 9, 10, 16, 17, 77, 78, 79] else [], fun n => none, fun n => none⟩
def move_Compact.sh (a0 a1 a2 : AV) (σ : Store) (Q : AEnd → Store → Prop) : Prop :=
 Do (aFreeze ((a0 : AV)).cells) fun t3 =>
 Do (aPureC Tryz.prog 21 [a1]) fun t23 =>
 Do (aUn Tryz.prog .not t23) fun t24 =>
 aCond t24
 (Q (.ret (.tuple [(.val (.slice none 0 0)), (.val (.slice none 0 0)), (.val (.int .i64 1))])) σ)
 (Do (aPureC Tryz.prog 31 [a1]) fun t27 =>
 Do (aExt t27 0) fun t28 =>
 Do (aExt t27 1) fun t29 =>
 Do (aExt t27 2) fun t30 =>
 Do (aUn Tryz.prog .not t30) fun t33 =>
 aCond t33
 (Q (.ret (.tuple [(.val (.slice none 0 0)), (.val (.slice none 0 0)), (.val (.int .i64 5))])) σ)
 (Do (aBuiltin Tryz.prog .len #[23] [t28]) fun t36 =>
 Do (aBuiltin Tryz.prog .len #[22] [a2]) fun t38 =>
 Do (aBin Tryz.prog .neq 3 t36 t38) fun t39 =>
 aCond t39
 (Q (.ret (.tuple [(.val (.slice none 0 0)), (.val (.slice none 0 0)), (.val (.int .i64 8))])) σ)
 (Do (aBuiltin Tryz.prog .len #[23] [t28]) fun t41 =>
 aLoop (fun go vs σ =>
 At vs 0 fun s1 => At vs 1 fun s2 => At vs 2 fun s3 => At vs 3 fun s9 => At vs 4 fun s10 => At vs 5 fun s40 => At vs 6 fun s41 => At vs 7 fun s42 => Do (aBin Tryz.prog .lss 3 s42 s41) fun t43 =>
 aCond t43
 (Do (aIndexAddr .slice 1 s40 s42) fun t45 =>
 Do (loadF false 1 t45) fun t46 =>
 Do (loadF true 1 s3) fun t48 =>
 Do (aIndexAddr .slice 36 s1 t46) fun t51 =>
 Do (aFieldAddr 0 1 t51) fun t52 =>
 Do (loadF false 1 t52) fun t53 =>
 Do (aIndexAddr .slice 1 s2 s42) fun t56 =>
 Do (loadF false 1 t56) fun t57 =>
 Do (aPureC Tryz.prog 27 [t48, t53, t57]) fun t58 =>
 Do (aExt t58 0) fun t59 =>
 Do (aExt t58 1) fun t60 =>
 aNewVar 58 [.val (.int .i64 0), .val (.int .i64 0), .val (.int .u8 0), .val (.int .u8 0), .val (.int .u8 0), .val (.int .u8 0), .val (.int .u8 0), .val (.int .u8 0), .val (.int .u8 0), .val (.int .u8 0), .val (.int .u8 0), .val (.int .u8 0), .val (.int .u8 0), .val (.int .u8 0), .val (.int .u8 0), .val (.int .u8 0), .val (.int .u8 0), .val (.int .u8 0), .val (.int .u8 0), .val (.int .u8 0), .val (.int .u8 0), .val (.int .u8 0), .val (.int .u8 0), .val (.int .u8 0), .val (.int .u8 0), .val (.int .u8 0), .val (.int .u8 0), .val (.int .u8 0), .val (.int .u8 0), .val (.int .u8 0), .val (.int .u8 0), .val (.int .u8 0), .val (.int .u8 0), .val (.int .u8 0), .val (.string ⟨#[]⟩), .val (.string ⟨#[]⟩)] σ fun t14 σ_1 =>
 storeA 36 t14 t59 σ_1 fun u σ_2 =>
 Do (aBin Tryz.prog .neq 35 t60 (.val (.int .i64 0))) fun t62 =>
 Do (aGuard t62 false (loadA true 36 t14 σ_2)) fun t64 =>
 Do (aGuard t62 false (aIs s1)) fun t65 =>
 Do (aGuard t62 false (aIs t46)) fun t66 =>
 Do (aGuard t62 false (aIndexAddr .slice 36 t65 t66)) fun t67 =>
 Do (aGuard t62 false (loadF true 36 t67)) fun t68 =>
 Do (aGuard t62 false (aBin Tryz.prog .neq 58 t64 t68)) fun t69 =>
 Do (aPick t62 (.val (.bool true)) t69) fun t70 =>
 aCond t70
 (Q (.ret (.tuple [(.val (.slice none 0 0)), (.val (.slice none 0 0)), (.val (.int .i64 8))])) σ_2)
 (Do (aBin Tryz.prog .add 3 s42 (.val (.int .i64 1))) fun t71 =>
 go [s1, s2, s3, s9, s10, s40, s41, t71] σ_2))
 (Do (aBin Tryz.prog .eql 3 s10 (.val (.int .i64 3))) fun t74 =>
 Do (aPureC Tryz.prog 35 [s2, t74]) fun t75 =>
 Do (aPureC Tryz.prog 34 [t75]) fun t76 =>
 Do (aBuiltin Tryz.prog .len #[22] [t76]) fun t78 =>
 aLoop (fun go_1 vs_1 σ_3 =>
 At vs_1 0 fun s1_1 => At vs_1 1 fun s3_1 => At vs_1 2 fun s9_1 => At vs_1 3 fun s10_1 => At vs_1 4 fun s16 => At vs_1 5 fun s17 => At vs_1 6 fun s77 => At vs_1 7 fun s78 => At vs_1 8 fun s79 => Do (aBin Tryz.prog .lss 3 s79 s78) fun t80 =>
 aCond t80
 (Do (aIndexAddr .slice 1 s77 s79) fun t81 =>
 Do (loadF false 1 t81) fun t82 =>
 Do (loadF true 1 s3_1) fun t84 =>
 Do (aPureC Tryz.prog 27 [t84, s10_1, t82]) fun t87 =>
 Do (aExt t87 0) fun t88 =>
 Do (aExt t87 1) fun t89 =>
 aNewVar 58 [.val (.int .i64 0), .val (.int .i64 0), .val (.int .u8 0), .val (.int .u8 0), .val (.int .u8 0), .val (.int .u8 0), .val (.int .u8 0), .val (.int .u8 0), .val (.int .u8 0), .val (.int .u8 0), .val (.int .u8 0), .val (.int .u8 0), .val (.int .u8 0), .val (.int .u8 0), .val (.int .u8 0), .val (.int .u8 0), .val (.int .u8 0), .val (.int .u8 0), .val (.int .u8 0), .val (.int .u8 0), .val (.int .u8 0), .val (.int .u8 0), .val (.int .u8 0), .val (.int .u8 0), .val (.int .u8 0), .val (.int .u8 0), .val (.int .u8 0), .val (.int .u8 0), .val (.int .u8 0), .val (.int .u8 0), .val (.int .u8 0), .val (.int .u8 0), .val (.int .u8 0), .val (.int .u8 0), .val (.string ⟨#[]⟩), .val (.string ⟨#[]⟩)] σ_3 fun t20 σ_4 =>
 storeA 36 t20 t88 σ_4 fun u_1 σ_5 =>
 Do (loadA true 36 t20 σ_5) fun t91 =>
 Do (aSlLit (mkE [.val (.int .i64 0), .val (.int .i64 0), .val (.int .u8 0), .val (.int .u8 0), .val (.int .u8 0), .val (.int .u8 0), .val (.int .u8 0), .val (.int .u8 0), .val (.int .u8 0), .val (.int .u8 0), .val (.int .u8 0), .val (.int .u8 0), .val (.int .u8 0), .val (.int .u8 0), .val (.int .u8 0), .val (.int .u8 0), .val (.int .u8 0), .val (.int .u8 0), .val (.int .u8 0), .val (.int .u8 0), .val (.int .u8 0), .val (.int .u8 0), .val (.int .u8 0), .val (.int .u8 0), .val (.int .u8 0), .val (.int .u8 0), .val (.int .u8 0), .val (.int .u8 0), .val (.int .u8 0), .val (.int .u8 0), .val (.int .u8 0), .val (.int .u8 0), .val (.int .u8 0), .val (.int .u8 0), .val (.string ⟨#[]⟩), .val (.string ⟨#[]⟩)]) 36 1 [(0, t91)]) fun t92 =>
 aAppend 58 36 80 s17 t92 σ_5 (subK fun t93 σ_6 =>
 Do (aBin Tryz.prog .add 3 s79 (.val (.int .i64 1))) fun t94 =>
 go_1 [s1_1, s3_1, s9_1, s10_1, s16, t93, s77, s78, t94] σ_6))
 (aCall Tryz.prog 17 [s1_1, s9_1, s17] σ_3 (fun t98 σ_7 =>
 Q (.ret (.tuple [t98, s16, (.val (.int .i64 0))])) σ_7) (fun e σ_8 => Q (.pan e) σ_8)))
 [s1, s3, s9, s10, t76, (.val (.slice none 0 0)), t76, t78, (.val (.int .i64 0))] σ))
 [a1, a2, t3, t28, t29, t28, t41, (.val (.int .i64 0))] σ)))
theorem move_Compact.eq (a0 a1 a2 : AV) (σ : Store) (Q : AEnd → Store → Prop) : vc (semOf Tryz.prog move_Compact.mark) Tryz.f13.ntmps move_Compact.ann (bodyOf Tryz.f13) (endK [.tmp 6, .tmp 7, .tmp 8] Q) (argFr [a0, a1, a2]) σ = move_Compact.sh a0 a1 a2 σ Q := by kernel_rfl
theorem move_Compact.go {a0 a1 a2 : AV} {σ : Store} {Q : AEnd → Store → Prop} (h : move_Compact.sh a0 a1 a2 σ Q) : ACalls Tryz.prog 13 [a0, a1, a2] σ Q :=
 acalls_of_eq [.tmp 6, .tmp 7, .tmp 8] Tryz.func13 (by kernel_rfl) (by kernel_rfl) (by kernel_rfl) (by kernel_rfl) (move_Compact.eq a0 a1 a2 σ Q) h
theorem Compact_ok (b : Int) (l : List TabR) (RS : List (List En)) (m m' : SM) (hl : l.length ≤ 1000000) (hR : RS.length ≤ 1000000) (hRl : ∀ r ∈ RS, r.length ≤ 1000000) : aPure Tryz.prog 13 [trA b, .lst 36 (l.map tbF) m, .lst 1 (RS.map enL) m'] (.tuple [.lst 36 ((compactT b l RS).1.1.map tbF) .ro, .lst 1 ((compactT b l RS).1.2.map enL) .ro, I .i64 ((compactT b l RS).2 : Nat)]) := by
 refine ACalls.fin (move_Compact.go ?_)
 unfold move_Compact.sh compactT
 by_cases hr : rightT l = true
 ·rw [if_pos hr]
  have hp := Pick_ok l m hl
  unfold pickR at hp
  obtain ⟨hm, hpw, h5⟩ := (rightT_iff l).1 hr
  by_cases hk : lvlT l < 3
  ·rw [if_pos hk] at hp ⊢
   have hmI : ∀ j, j < (inK l (lvlT l)).length → (inK l (lvlT l)).getD j default < l.length := fun j hj => (inK_mem.1 (getD_memT hj)).1
   have hIl : (inK l (lvlT l)).length ≤ l.length := Nat.le_trans (List.length_filter_le _ _) (by rw [List.length_range]; exact Nat.le_refl _)
   generalize lvlT l = k at *
   rw [map_itN] at hp
   have iP : PC Tryz.prog 31 [.lst 36 (l.map tbF) m] True _ := ⟨fun _ => PC.of hp⟩
   have htt : (true : Bool) = true := rfl
   by_cases hn : (inK l k).length = RS.length
   ·repeat' (with_reducible first|apply Stp.go|refine imp fun _=>?_|refine zq ?_|refine zt ?_|refine zf ?_|refine zg ?_|refine za ?_|refine altF ?_|refine all fun _=>?_|refine both ?_ ?_|refine zu ?_|refine zv ?_|refine cho (fun _=>?_) fun _=>?_|refine zw ?_)
    have hRn : RS.length ≤ 1000 := by omega
    refine loopI (β := Nat) (fun j => j ≤ (inK l k).length ∧ ∀ i, i < j → okB b (l.getD ((inK l k).getD i default) default) (RS.getD i default) = true)
     (fun j => [.lst 36 (l.map tbF) m, .lst 1 (RS.map enL) m', .rptr [I .i64 b], .lst 1 ((inK l k).map itN) .ro, I .i64 (k + 1 : Nat), .lst 1 ((inK l k).map itN) .ro, I .i64 ((inK l k).length : Nat), I .i64 (j : Nat)]) (fun _ => []) (fun j => (inK l k).length - j) 0 ⟨Nat.zero_le _, fun i h => absurd h (Nat.not_lt_zero _)⟩ (Sub.refl _ _) ?_
    rintro j ⟨j1, j2⟩
    by_cases hj : j < (inK l k).length
    ·have hix := hmI j hj
     have hjR : j < RS.length := by omega
     have hrl := hRl _ (getD_memT hjR)
     have hmx := mayT_lev (hm _ (getD_memT hix))
     obtain ⟨lv, hlv⟩ : ∃ lv : Nat, (l.getD ((inK l k).getD j default) default).lev = (lv : Nat) := ⟨_, (Int.toNat_of_nonneg hmx.1).symm⟩
     have hlv4 : lv < 4 := by omega
     have hno := allOk_no (b := b) (l := l) (RS := RS) hj
     unfold okB at hno j2
     generalize hx : l.getD ((inK l k).getD j default) default = x at *
     generalize hrow : RS.getD j default = row at *
     have hlt : x.lev.toNat = lv := by rw [hlv, Int.toNat_natCast]
     rw [hlt] at hno
     by_cases hf : fit row = true
     ·have iD : ∀ {a : AV} {m : SM} [h : IsL a En.av 4 row m], PC Tryz.prog 27 [trA b, .val (.int .i64 ((lv : Nat) : Int)), a] True (.tuple [tbF (newT b lv row), .val (.int .i64 0)]) := desc17 (b := b) (lev := lv) rfl hf hlv4
      by_cases he : newT b lv row = x
      ·repeat' (with_reducible first|apply Stp.go|refine imp fun _=>?_|refine zq ?_|refine zt ?_|refine zf ?_|refine zg ?_|refine za ?_|refine altF ?_|refine all fun _=>?_|refine both ?_ ?_|refine zu ?_|refine zv ?_|refine cho (fun _=>?_) fun _=>?_|refine zw ?_)
       rw [hx, hlv, hrow]
       repeat' (with_reducible first|apply Stp.go|refine imp fun _=>?_|refine zq ?_|refine zt ?_|refine zf ?_|refine zg ?_|refine za ?_|refine altF ?_|refine all fun _=>?_|refine both ?_ ?_|refine zu ?_|refine zv ?_|refine cho (fun _=>?_) fun _=>?_|refine zw ?_)
       ·refine again (j + 1) (by omega) ⟨by omega, fun i hi => ?_⟩ (Sub.app_nil _)
        by_cases e : i = j
        ·subst e
         unfold okB
         rw [hx, hrow, hlt, hf, decide_eq_true he]
         rfl
        ·exact j2 i (by omega)
       ·exfalso
        rename_i h
        exact h (he.trans hx.symm)
      ·rw [if_neg fun h => hno (by rw [hf, decide_eq_false he]; exact Bool.false_ne_true) h.2]
       repeat' (with_reducible first|apply Stp.go|refine imp fun _=>?_|refine zq ?_|refine zt ?_|refine zf ?_|refine zg ?_|refine za ?_|refine altF ?_|refine all fun _=>?_|refine both ?_ ?_|refine zu ?_|refine zv ?_|refine cho (fun _=>?_) fun _=>?_|refine zw ?_)
       rw [hx, hlv, hrow]
       repeat' (with_reducible first|apply Stp.go|refine imp fun _=>?_|refine zq ?_|refine zt ?_|refine zf ?_|refine zg ?_|refine za ?_|refine altF ?_|refine all fun _=>?_|refine both ?_ ?_|refine zu ?_|refine zv ?_|refine cho (fun _=>?_) fun _=>?_|refine zw ?_)
       ·exfalso
        rename_i h
        exact he (Eq.trans (show newT b lv row = _ from h) hx)
       ·exact ⟨_, _, _, rfl, Sub.tuple (retNil tbF (sz := 36) (by decide) (retNil enL (sz := 1) (by decide) (Sub.app_nil _))), rfl, rfl⟩
     ·rw [if_neg fun h => hno (by rw [Bool.eq_false_iff.2 hf, Bool.false_and]; exact Bool.false_ne_true) h.2]
      have hde : dErr lv row = 1 := by unfold dErr dFit; rw [Bool.eq_false_iff.2 hf]; rfl
      repeat' (with_reducible first|apply Stp.go|refine imp fun _=>?_|refine zq ?_|refine zt ?_|refine zf ?_|refine zg ?_|refine za ?_|refine altF ?_|refine all fun _=>?_|refine both ?_ ?_|refine zu ?_|refine zv ?_|refine cho (fun _=>?_) fun _=>?_|refine zw ?_)
      rw [hx, hlv, hrow]
      repeat' (with_reducible first|apply Stp.go|refine imp fun _=>?_|refine zq ?_|refine zt ?_|refine zf ?_|refine zg ?_|refine za ?_|refine altF ?_|refine all fun _=>?_|refine both ?_ ?_|refine zu ?_|refine zv ?_|refine cho (fun _=>?_) fun _=>?_|refine zw ?_)
      all_goals exact ⟨_, _, _, rfl, Sub.tuple (retNil tbF (sz := 36) (by decide) (retNil enL (sz := 1) (by decide) (Sub.app_nil _))), rfl, rfl⟩
    ·have ej : j = (inK l k).length := by omega
     subst ej
     rw [if_pos ⟨hn, decide_eq_true j2⟩]
     have hRO : RowsOf b l (inK l k) RS := ⟨hn.symm, fun j hj => (okB_iff (hm _ (getD_memT (hmI j hj)))).1 (j2 j hj)⟩
     have hfit : ∀ r ∈ RS, fit r = true := fun r hr => hRO.fit hr
     have hRS : ∀ r ∈ RS, r.length ≤ 1000 := fun r hr => by have := (fit_right (hfit r hr)).1; omega
     have hpf : ∀ p ∈ partsT k RS, fit p = true := fun p hp => parts_fit hfit hp
     have hpl := parts_len17 (k := k) hfit
     have hmg := merge_le (decide (k + 1 = 3)) _ RS rfl
     have htl := totL_le' hRS
     have hm6 : (mergeL (decide (k + 1 = 3)) RS).length ≤ 100000 := by have := totL_le (RS := RS) fun r hr => (fit_right (hfit r hr)).1; omega
     have iI : IsL (.lst 1 ((inK l k).map itN) .ro) it 1 ((inK l k).map Int.ofNat) .ro := ⟨by rw [← map_itN]; exact SubV.refl _⟩
     repeat' (with_reducible first|apply Stp.go|refine imp fun _=>?_|refine zq ?_|refine zt ?_|refine zf ?_|refine zg ?_|refine za ?_|refine altF ?_|refine all fun _=>?_|refine both ?_ ?_|refine zu ?_|refine zv ?_|refine cho (fun _=>?_) fun _=>?_|refine zw ?_)
     rw [show splitL (mergeL (decide (k + 1 = 3)) RS) = partsT k RS from rfl]
     have hnx : nextT b l k RS = placeT l ((inK l k).map Int.ofNat) ((partsT k RS).map (newT b (k + 1))) := rfl
     rw [hnx]
     generalize partsT k RS = PP at *
     refine loopI (β := Nat × Value) (fun x => x.1 ≤ PP.length)
      (fun x => [.lst 36 (l.map tbF) m, .rptr [I .i64 b], .lst 1 ((inK l k).map itN) .ro, I .i64 (k + 1 : Nat), .lst 1 (PP.map enL) .ro, .own x.2 ((PP.take x.1).map (newT b (k + 1))).length, .lst 1 (PP.map enL) .ro, I .i64 (PP.length : Nat), I .i64 (x.1 : Nat)])
      (fun x => [.row x.2 TbE 36 (((PP.take x.1).map (newT b (k + 1))).map tbF) 0]) (fun x => PP.length - x.1) (0, .slice none 0 0) (Nat.zero_le _) (Sub.nil_own TbE (sz := 36) (by decide) _ [_, _, _, _, _] [_, _, _]) ?_
     rintro ⟨j, v⟩ q1
     dsimp only at q1 ⊢
     by_cases hjp : j < PP.length
     ·have htk := congrArg (List.map (newT b (k + 1))) (take_succ_d hjp)
      rw [List.map_append] at htk
      have hjf := hpf _ (getD_memT hjp)
      have hln : ((PP.take j).map (newT b (k + 1))).length ≤ 10000 := by rw [List.length_map, List.length_take]; omega
      have iD : ∀ {a : AV} {m : SM} [h : IsL a En.av 4 (PP.getD j default) m], PC Tryz.prog 27 [trA b, .val (.int .i64 ((k + 1 : Nat) : Int)), a] True (.tuple [tbF (newT b (k + 1) (PP.getD j default)), .val (.int .i64 0)]) := desc17 (b := b) (lev := k + 1) rfl hjf (by omega)
      repeat' (with_reducible first|apply Stp.go|refine imp fun _=>?_|refine zq ?_|refine zt ?_|refine zf ?_|refine zg ?_|refine za ?_|refine altF ?_|refine all fun _=>?_|refine both ?_ ?_|refine zu ?_|refine zv ?_|refine cho (fun _=>?_) fun _=>?_|refine zw ?_)
      rename_i bx w
      exact again (j + 1, w) (by dsimp only; omega) (by dsimp only; omega) (by dsimp only; rw [htk]; exact Sub.drop_ (.cons _ (.cons_cons _ .slnil)) _)
     ·have ej : j = PP.length := by omega
      subst ej
      rw [List.take_length]
      have hln : (PP.map (newT b (k + 1))).length ≤ 10000 := by rw [List.length_map]; omega
      repeat' (with_reducible first|apply Stp.go|refine imp fun _=>?_|refine zq ?_|refine zt ?_|refine zf ?_|refine zg ?_|refine za ?_|refine altF ?_|refine all fun _=>?_|refine both ?_ ?_|refine zu ?_|refine zv ?_|refine cho (fun _=>?_) fun _=>?_|refine zw ?_)
      exact ⟨_, _, _, rfl, Sub.refl _ _, rfl, rfl⟩
   ·rw [if_neg fun h => hn h.1]
    repeat' (with_reducible first|apply Stp.go|refine imp fun _=>?_|refine zq ?_|refine zt ?_|refine zf ?_|refine zg ?_|refine za ?_|refine altF ?_|refine all fun _=>?_|refine both ?_ ?_|refine zu ?_|refine zv ?_|refine cho (fun _=>?_) fun _=>?_|refine zw ?_)
    all_goals exact ⟨_, _, _, rfl, Sub.tuple (retNil tbF (sz := 36) (by decide) (retNil enL (sz := 1) (by decide) (Sub.app_nil _))), rfl, rfl⟩
  ·rw [if_neg hk] at hp ⊢
   have iP : PC Tryz.prog 31 [.lst 36 (l.map tbF) m] True _ := ⟨fun _ => PC.of hp⟩
   have hff : ¬ (false : Bool) = true := by decide
   repeat' (with_reducible first|apply Stp.go|refine imp fun _=>?_|refine zq ?_|refine zt ?_|refine zf ?_|refine zg ?_|refine za ?_|refine altF ?_|refine all fun _=>?_|refine both ?_ ?_|refine zu ?_|refine zv ?_|refine cho (fun _=>?_) fun _=>?_|refine zw ?_)
   all_goals exact ⟨_, _, _, rfl, Sub.tuple (retNil tbF (sz := 36) (by decide) (retNil enL (sz := 1) (by decide) (Sub.app_nil _))), rfl, rfl⟩
 ·rw [if_neg hr]
  repeat' (with_reducible first|apply Stp.go|refine imp fun _=>?_|refine zq ?_|refine zt ?_|refine zf ?_|refine zg ?_|refine za ?_|refine altF ?_|refine all fun _=>?_|refine both ?_ ?_|refine zu ?_|refine zv ?_|refine cho (fun _=>?_) fun _=>?_|refine zw ?_)
  all_goals exact ⟨_, _, _, rfl, Sub.tuple (retNil tbF (sz := 36) (by decide) (retNil enL (sz := 1) (by decide) (Sub.app_nil _))), rfl, rfl⟩
end Go.Ab

namespace Go.Ab
theorem foldE_take_succ {l : List En} {i : Nat} (h : i < l.length) : foldE (l.take (i + 1)) = putE (l.getD i default) (foldE (l.take i)) := by rw [take_succ_d h, foldE_snoc]
end Go.Ab
