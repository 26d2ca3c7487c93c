/- Layer 12: what is shown in any case; SeekOther. -/
import Derived.Test.YtobhbepiaibceaaF55
import Derived.Test.YtobhbepiaibceaaF56
import Derived.Test.YtobhbepiaibceaaF7
set_option linter.unusedVariables false
set_option linter.unusedSimpArgs false
namespace Go.Ab
def law12_shown.mark : Mark := ⟨fun t => Nat.beq t 21 || Nat.beq t 27 || Nat.beq t 33 || Nat.beq t 39 || Nat.beq t 46, fun t => false, fun t => false, fun t => false, fun t => false⟩
def law12_shown.ann : Ann := ⟨fun n => [], fun n => none, fun n => none⟩
/-- 'marlstone/marlstonelaw12.shown' -/
def law12_shown.sh (σ : Store) (Q : AEnd → Store → Prop) : Prop :=
  Do (aLit [.val (.int .i64 0)] [(0, 1)] [(0, (.val (.int .i64 256)))]) fun t14 =>
  aNewVar 26 [.val (.int .i64 0)] σ fun t1 σ =>
  storeA 1 t1 t14 σ fun u σ_1 =>
  Do (aLit [.val (.string ⟨#[]⟩), .val (.string ⟨#[]⟩), .val (.bool false), .val (.int .i64 0)] [(0, 1), (1, 1), (2, 1), (3, 1)] [(0, (.val (.string ⟨#[97]⟩))), (3, (.val (.int .i64 1)))]) fun t15 =>
  Do (aLit [.val (.string ⟨#[]⟩), .val (.string ⟨#[]⟩), .val (.bool false), .val (.int .i64 0)] [(0, 1), (1, 1), (2, 1), (3, 1)] [(0, (.val (.string ⟨#[99]⟩))), (3, (.val (.int .i64 2)))]) fun t16 =>
  Do (aSlLit (mkE [.val (.string ⟨#[]⟩), .val (.string ⟨#[]⟩), .val (.bool false), .val (.int .i64 0)]) 4 2 [(0, t15), (1, t16)]) fun t17 =>
  Do (loadA true 1 t1 σ_1) fun t19 =>
  Do (aPureC Go.Proofs.Try.prog 12 [t19, t17, (.val (.string ⟨#[98]⟩))]) fun t21 =>
  Do (aExt t21 0) fun t22 =>
  Do (aExt t21 1) fun t23 =>
  aNewVar 32 [.val (.bool false), .val (.int .i64 0), .val (.slice none 0 0), .val (.slice none 0 0), .val (.int .i64 0), .val (.slice none 0 0), .val (.slice none 0 0)] σ_1 fun t3 σ_2 =>
  storeA 7 t3 t22 σ_2 fun u_1 σ_3 =>
  Do (loadA true 1 t1 σ_3) fun t25 =>
  Do (aPureC Go.Proofs.Try.prog 12 [t25, t17, (.val (.string ⟨#[99]⟩))]) fun t27 =>
  Do (aExt t27 0) fun t28 =>
  Do (aExt t27 1) fun t29 =>
  aNewVar 32 [.val (.bool false), .val (.int .i64 0), .val (.slice none 0 0), .val (.slice none 0 0), .val (.int .i64 0), .val (.slice none 0 0), .val (.slice none 0 0)] σ_3 fun t5 σ_4 =>
  storeA 7 t5 t28 σ_4 fun u_2 σ_5 =>
  Do (loadA true 1 t1 σ_5) fun t31 =>
  Do (aPureC Go.Proofs.Try.prog 12 [t31, t17, (.val (.string ⟨#[100]⟩))]) fun t33 =>
  Do (aExt t33 0) fun t34 =>
  Do (aExt t33 1) fun t35 =>
  aNewVar 32 [.val (.bool false), .val (.int .i64 0), .val (.slice none 0 0), .val (.slice none 0 0), .val (.int .i64 0), .val (.slice none 0 0), .val (.slice none 0 0)] σ_5 fun t7 σ_6 =>
  storeA 7 t7 t34 σ_6 fun u_3 σ_7 =>
  Do (loadA true 1 t1 σ_7) fun t37 =>
  Do (aPureC Go.Proofs.Try.prog 30 [t37, (.val (.int .i64 0)), t17]) fun t39 =>
  Do (aExt t39 0) fun t40 =>
  Do (aExt t39 1) fun t41 =>
  aNewVar 48 [.val (.int .i64 0), .val (.int .i64 0), .val (.int .u8 0), .val (.int .u8 0), .val (.int .u8 0), .val (.int .u8 0), .val (.int .u8 0), .val (.int .u8 0), .val (.int .u8 0), .val (.int .u8 0), .val (.int .u8 0), .val (.int .u8 0), .val (.int .u8 0), .val (.int .u8 0), .val (.int .u8 0), .val (.int .u8 0), .val (.int .u8 0), .val (.int .u8 0), .val (.int .u8 0), .val (.int .u8 0), .val (.int .u8 0), .val (.int .u8 0), .val (.int .u8 0), .val (.int .u8 0), .val (.int .u8 0), .val (.int .u8 0), .val (.int .u8 0), .val (.int .u8 0), .val (.int .u8 0), .val (.int .u8 0), .val (.int .u8 0), .val (.int .u8 0), .val (.int .u8 0), .val (.int .u8 0), .val (.string ⟨#[]⟩), .val (.string ⟨#[]⟩)] σ_7 fun t9 σ_8 =>
  storeA 36 t9 t40 σ_8 fun u_4 σ_9 =>
  Do (loadA true 1 t1 σ_9) fun t43 =>
  Do (loadA true 36 t9 σ_9) fun t44 =>
  Do (loadA true 7 t5 σ_9) fun t45 =>
  Do (aPureC Go.Proofs.Try.prog 23 [t43, t44, (.val (.string ⟨#[99]⟩)), t45]) fun t46 =>
  Do (aExt t46 0) fun t47 =>
  Do (aExt t46 1) fun t48 =>
  Do (aExt t46 2) fun t49 =>
  aNewVar 54 [.val (.string ⟨#[]⟩), .val (.string ⟨#[]⟩), .val (.bool false), .val (.int .i64 0)] σ_9 fun t11 σ_10 =>
  storeA 4 t11 t47 σ_10 fun u_5 σ_11 =>
  Do (aFieldAddr 0 1 t3) fun t50 =>
  Do (loadA false 1 t50 σ_11) fun t51 =>
  Do (aGuard t51 true (aFieldAddr 1 3 t3)) fun t53 =>
  Do (aGuard t51 true (aFieldAddr 0 1 t53)) fun t54 =>
  Do (aGuard t51 true (loadA false 1 t54 σ_11)) fun t55 =>
  Do (aGuard t51 true (aBin Go.Proofs.Try.prog .eql 3 t55 (.val (.int .i64 0)))) fun t56 =>
  Do (aPick t51 t56 (.val (.bool false))) fun t57 =>
  Do (aGuard t57 true (aFieldAddr 4 3 t3)) fun t59 =>
  Do (aGuard t57 true (aFieldAddr 0 1 t59)) fun t60 =>
  Do (aGuard t57 true (loadA false 1 t60 σ_11)) fun t61 =>
  Do (aGuard t57 true (aBin Go.Proofs.Try.prog .eql 3 t61 (.val (.int .i64 1)))) fun t62 =>
  Do (aPick t57 t62 (.val (.bool false))) fun t63 =>
  Do (aGuard t63 true (aIs t23)) fun t65 =>
  Do (aGuard t63 true (aBin Go.Proofs.Try.prog .eql 33 t65 (.val (.int .i64 0)))) fun t66 =>
  Do (aPick t63 t66 (.val (.bool false))) fun t67 =>
  Do (aGuard t67 true (aFieldAddr 0 1 t5)) fun t69 =>
  Do (aGuard t67 true (loadA false 1 t69 σ_11)) fun t70 =>
  Do (aGuard t67 true (aUn Go.Proofs.Try.prog .not t70)) fun t71 =>
  Do (aPick t67 t71 (.val (.bool false))) fun t72 =>
  Do (aGuard t72 true (aFieldAddr 1 3 t5)) fun t74 =>
  Do (aGuard t72 true (aFieldAddr 0 1 t74)) fun t75 =>
  Do (aGuard t72 true (loadA false 1 t75 σ_11)) fun t76 =>
  Do (aGuard t72 true (aBin Go.Proofs.Try.prog .eql 3 t76 (.val (.int .i64 1)))) fun t77 =>
  Do (aPick t72 t77 (.val (.bool false))) fun t78 =>
  Do (aGuard t78 true (aIs t29)) fun t80 =>
  Do (aGuard t78 true (aBin Go.Proofs.Try.prog .eql 33 t80 (.val (.int .i64 0)))) fun t81 =>
  Do (aPick t78 t81 (.val (.bool false))) fun t82 =>
  Do (aGuard t82 true (aIs t35)) fun t84 =>
  Do (aGuard t82 true (aBin Go.Proofs.Try.prog .eql 33 t84 (.val (.int .i64 5)))) fun t85 =>
  Do (aPick t82 t85 (.val (.bool false))) fun t86 =>
  Do (aGuard t86 true (aIs t48)) fun t88 =>
  Do (aPick t86 t88 (.val (.bool false))) fun t89 =>
  Do (aGuard t89 true (aFieldAddr 3 1 t11)) fun t91 =>
  Do (aGuard t89 true (loadA false 1 t91 σ_11)) fun t92 =>
  Do (aGuard t89 true (aBin Go.Proofs.Try.prog .eql 3 t92 (.val (.int .i64 2)))) fun t93 =>
  Do (aPick t89 t93 (.val (.bool false))) fun t94 =>
  Do (aGuard t94 true (aIs t49)) fun t96 =>
  Do (aGuard t94 true (aBin Go.Proofs.Try.prog .eql 33 t96 (.val (.int .i64 0)))) fun t97 =>
  Do (aPick t94 t97 (.val (.bool false))) fun t98 =>
  Q (.ret t98) σ_11
theorem law12_shown.eq (σ : Store) (Q : AEnd → Store → Prop) : vc (semOf Go.Proofs.Try.prog law12_shown.mark) Go.Proofs.Try.f10.ntmps law12_shown.ann (bodyOf Go.Proofs.Try.f10) (endK [.tmp 0] Q) (argFr []) σ = law12_shown.sh  σ Q := by kernel_rfl
theorem law12_shown.go {σ : Store} {Q : AEnd → Store → Prop} (h : law12_shown.sh  σ Q) : ACalls Go.Proofs.Try.prog 10 [] σ Q :=
  acalls_of_eq [.tmp 0] Go.Proofs.Try.func10 (by kernel_rfl) (by kernel_rfl) (by kernel_rfl) (by kernel_rfl) (law12_shown.eq  σ Q) h
def law12_SeekOther.mark : Mark := ⟨fun t => Nat.beq t 22 || Nat.beq t 24 || Nat.beq t 30 || Nat.beq t 37 || Nat.beq t 49 || Nat.beq t 56 || Nat.beq t 62 || Nat.beq t 70, fun t => false, fun t => false, fun t => false, fun t => false⟩
def law12_SeekOther.ann : Ann := ⟨fun n => [], fun n => none, fun n => none⟩
/-- 'marlstone/marlstonelaw12.SeekOther' -/
def law12_SeekOther.sh (a0 a1 a2 a3 : AV) (σ : Store) (Q : AEnd → Store → Prop) : Prop :=
  Do (aPureC Go.Proofs.Try.prog 10 []) fun t22 =>
  Do (aPureC Go.Proofs.Try.prog 29 [a0]) fun t24 =>
  Do (aLit [.val (.int .i64 0)] [(0, 1)] [(0, a1)]) fun t26 =>
  aNewVar 26 [.val (.int .i64 0)] σ fun t10 σ =>
  storeA 1 t10 t26 σ fun u σ_1 =>
  Do (loadA true 1 t10 σ_1) fun t28 =>
  Do (aPureC Go.Proofs.Try.prog 30 [t28, (.val (.int .i64 1)), t24]) fun t30 =>
  Do (aExt t30 0) fun t31 =>
  Do (aExt t30 1) fun t32 =>
  aNewVar 48 [.val (.int .i64 0), .val (.int .i64 0), .val (.int .u8 0), .val (.int .u8 0), .val (.int .u8 0), .val (.int .u8 0), .val (.int .u8 0), .val (.int .u8 0), .val (.int .u8 0), .val (.int .u8 0), .val (.int .u8 0), .val (.int .u8 0), .val (.int .u8 0), .val (.int .u8 0), .val (.int .u8 0), .val (.int .u8 0), .val (.int .u8 0), .val (.int .u8 0), .val (.int .u8 0), .val (.int .u8 0), .val (.int .u8 0), .val (.int .u8 0), .val (.int .u8 0), .val (.int .u8 0), .val (.int .u8 0), .val (.int .u8 0), .val (.int .u8 0), .val (.int .u8 0), .val (.int .u8 0), .val (.int .u8 0), .val (.int .u8 0), .val (.int .u8 0), .val (.int .u8 0), .val (.int .u8 0), .val (.string ⟨#[]⟩), .val (.string ⟨#[]⟩)] σ_1 fun t11 σ_2 =>
  storeA 36 t11 t31 σ_2 fun u_1 σ_3 =>
  Do (loadA true 1 t10 σ_3) fun t34 =>
  Do (aPureC Go.Proofs.Try.prog 12 [t34, t24, a2]) fun t37 =>
  Do (aExt t37 0) fun t38 =>
  Do (aExt t37 1) fun t39 =>
  aNewVar 32 [.val (.bool false), .val (.int .i64 0), .val (.slice none 0 0), .val (.slice none 0 0), .val (.int .i64 0), .val (.slice none 0 0), .val (.slice none 0 0)] σ_3 fun t13 σ_4 =>
  storeA 7 t13 t38 σ_4 fun u_2 σ_5 =>
  Do (aBin Go.Proofs.Try.prog .neq 33 t32 (.val (.int .i64 0))) fun t41 =>
  Do (aGuard t41 false (aIs t39)) fun t43 =>
  Do (aGuard t41 false (aBin Go.Proofs.Try.prog .neq 33 t43 (.val (.int .i64 0)))) fun t44 =>
  Do (aPick t41 (.val (.bool true)) t44) fun t45 =>
  Do (aGuard t45 false (loadA true 36 t11 σ_5)) fun t47 =>
  Do (aGuard t45 false (aIs a3)) fun t48 =>
  Do (aGuard t45 false (aPureC Go.Proofs.Try.prog 18 [t47, t48])) fun t49 =>
  Do (aGuard t45 false (aUn Go.Proofs.Try.prog .not t49)) fun t50 =>
  Do (aPick t45 (.val (.bool true)) t50) fun t51 =>
  aCond t51
    (Q (.ret t22) σ_5)
    (Do (aPureC Go.Proofs.Try.prog 31 [t24, a2]) fun t56 =>
  Do (aExt t56 0) fun t57 =>
  Do (aExt t56 1) fun t58 =>
  Do (aPureC Go.Proofs.Try.prog 31 [t24, a3]) fun t62 =>
  Do (aExt t62 0) fun t63 =>
  Do (aExt t62 1) fun t64 =>
  Do (loadA true 1 t10 σ_5) fun t66 =>
  Do (loadA true 36 t11 σ_5) fun t67 =>
  Do (loadA true 7 t13 σ_5) fun t69 =>
  Do (aPureC Go.Proofs.Try.prog 23 [t66, t67, a3, t69]) fun t70 =>
  Do (aExt t70 0) fun t71 =>
  Do (aExt t70 1) fun t72 =>
  Do (aExt t70 2) fun t73 =>
  aNewVar 54 [.val (.string ⟨#[]⟩), .val (.string ⟨#[]⟩), .val (.bool false), .val (.int .i64 0)] σ_5 fun t19 σ_6 =>
  storeA 4 t19 t71 σ_6 fun u_3 σ_7 =>
  Do (aGuard t22 true (aIs t73)) fun t76 =>
  Do (aGuard t22 true (aBin Go.Proofs.Try.prog .eql 33 t76 (.val (.int .i64 0)))) fun t77 =>
  Do (aGuard t22 true (aIs a2)) fun t78 =>
  Do (aGuard t22 true (aIs a3)) fun t79 =>
  Do (aGuard t22 true (aBin Go.Proofs.Try.prog .eql 9 t78 t79)) fun t80 =>
  Do (aGuard t22 true (aIs t80)) fun t81 =>
  Do (aGuard t81 false (aIs t58)) fun t82 =>
  Do (aGuard t81 false (aUn Go.Proofs.Try.prog .not t82)) fun t83 =>
  Do (aGuard t81 false (aIs t83)) fun t84 =>
  Do (aGuard t84 true (aIs t64)) fun t85 =>
  Do (aGuard t84 true (aUn Go.Proofs.Try.prog .not t85)) fun t86 =>
  Do (aGuard t81 false (aPick t84 t86 (.val (.bool false)))) fun t87 =>
  Do (aGuard t81 false (aIs t87)) fun t88 =>
  Do (aGuard t88 true (aIs t57)) fun t89 =>
  Do (aGuard t88 true (aIs t63)) fun t90 =>
  Do (aGuard t88 true (aBin Go.Proofs.Try.prog .eql 3 t89 t90)) fun t91 =>
  Do (aGuard t81 false (aPick t88 t91 (.val (.bool false)))) fun t92 =>
  Do (aGuard t22 true (aPick t81 (.val (.bool true)) t92)) fun t93 =>
  Do (aGuard t22 true (aBin Go.Proofs.Try.prog .eql 4 t77 t93)) fun t94 =>
  Do (aPick t22 t94 (.val (.bool false))) fun t95 =>
  Q (.ret t95) σ_7)
theorem law12_SeekOther.eq (a0 a1 a2 a3 : AV) (σ : Store) (Q : AEnd → Store → Prop) : vc (semOf Go.Proofs.Try.prog law12_SeekOther.mark) Go.Proofs.Try.f5.ntmps law12_SeekOther.ann (bodyOf Go.Proofs.Try.f5) (endK [.tmp 8] Q) (argFr [a0, a1, a2, a3]) σ = law12_SeekOther.sh a0 a1 a2 a3 σ Q := by kernel_rfl
theorem law12_SeekOther.go {a0 a1 a2 a3 : AV} {σ : Store} {Q : AEnd → Store → Prop} (h : law12_SeekOther.sh a0 a1 a2 a3 σ Q) : ACalls Go.Proofs.Try.prog 5 [a0, a1, a2, a3] σ Q :=
  acalls_of_eq [.tmp 8] Go.Proofs.Try.func5 (by kernel_rfl) (by kernel_rfl) (by kernel_rfl) (by kernel_rfl) (law12_SeekOther.eq a0 a1 a2 a3 σ Q) h
theorem len_enB (l : List En) (i : Nat) : ((l.map enB).getD i default).length ≤ 100000000000000 := by
  by_cases h : i < l.length
  · rw [getD_mapd enB h]
    have := enB_length (l.getD i default)
    omega
  · rw [List.getD_eq_getElem?_getD, List.getElem?_eq_none (by simpa using Nat.le_of_not_lt h)]
    exact Nat.zero_le _
theorem len_opn (b : Int) (l : List En) (i : Nat) : (opnAt b (l.map enB) i).2.1.length ≤ 100000000000000 := len_enB l i
theorem len_opn0 : opn0.2.1.length ≤ 100000000000000 := Nat.zero_le _
/-- A point of a key there is. -/
theorem seekC_is (b : Int) {l : List En} (hf : fit l = true) (k o : List UInt8) (hk : hasK l k = true) (ho : coversB (l.getD 0 default).key (l.getD (l.length - 1) default).key o = true) :
    seekC b (rootF b (l.map enB)) (l.length : Nat) (l.getD 0 default).key (l.getD (l.length - 1) default).key o false (opnAt b (l.map enB) (placeN l k)) opn0 = if k = o then (0, true, l.getD (placeN l k) default) else (8, false, En.zero) := by
  obtain ⟨_, h0, hs, hr⟩ := fit_right hf
  have hri := (sorted_iff l).1 hs
  obtain ⟨g1, g2⟩ := place_lt hri hk
  obtain ⟨g3, g4⟩ := holds_real b hr g1
  unfold seekC opnAt opn0
  dsimp only
  rw [if_pos ⟨g3, ho⟩, if_neg (by decide), g4, g2]
  by_cases h : k = o
  · rw [if_pos ⟨h, rfl, rfl, rfl⟩, if_pos h]
  · rw [if_neg (fun c => h c.1), if_neg h]
/-- A point of a key between two. -/
theorem seekC_gap (b : Int) {l : List En} (hf : fit l = true) {n : Nat} (h0 : 0 < n) (hn : n < l.length) (o : List UInt8) (ho : coversB (l.getD 0 default).key (l.getD (l.length - 1) default).key o = true) :
    seekC b (rootF b (l.map enB)) (l.length : Nat) (l.getD 0 default).key (l.getD (l.length - 1) default).key o true (opnAt b (l.map enB) (n - 1)) (opnAt b (l.map enB) n) = if hasK l o = false ∧ placeN l o = n then (0, false, En.zero) else (8, false, En.zero) := by
  obtain ⟨_, _, hs, hr⟩ := fit_right hf
  have hri := (sorted_iff l).1 hs
  obtain ⟨g3, g4⟩ := holds_real b hr (show n - 1 < l.length by omega)
  obtain ⟨g5, g6⟩ := holds_real b hr hn
  have hg := gap_iff hri h0 hn o
  unfold seekC opnAt
  dsimp only
  rw [if_pos ⟨g3, ho⟩, if_pos rfl, g4, g6]
  by_cases h : hasK l o = false ∧ placeN l o = n
  · have hh := hg.2 h
    rw [if_pos h, if_pos ⟨g5, by omega, hh.1, hh.2⟩]
  · rw [if_neg h, if_neg (fun c => h (hg.1 ⟨c.2.2.1, c.2.2.2⟩))]
section told
variable {a : AV} {m : SM} {b : Int} {l : List En} {x : Int} {lev : Nat} {k o lo hi : List UInt8}
theorem fit_len (hf : fit l = true) : l.length ≤ 64 := (fit_right hf).1
/-- A table of what is fit. -/
theorem desc_fit [h : IsL a En.av 4 l m] (hx : x = (lev : Nat)) (hf : fit l = true) (hv : lev < 4) : PC Go.Proofs.Try.prog 30 [trA b, .val (.int .i64 x), a] True (.tuple [tabA x (l.length : Nat) (rootD b (l.map enB)) (l.getD 0 default).key (l.getD (l.length - 1) default).key, .val (.int .i64 0)]) := ⟨fun _ => by
  subst hx
  have h64 := fit_len hf
  have hd : dFit lev l = true := by unfold dFit; rw [hf, decide_eq_true hv]; rfl
  have := (inferInstance : PC Go.Proofs.Try.prog 30 [trA b, .val (.int .i64 ((lev : Nat) : Int)), a] _ _).ct ⟨by omega, by omega⟩
  unfold dLev dCnt dRoot dFst dLst dErr at this
  simp only [if_pos hd] at this
  exact this⟩
theorem desc_not [h : IsL a En.av 4 l m] (hx : x = (lev : Nat)) (hl : l.length ≤ 1000000) (hlv : lev ≤ 1000) (hf : ¬ (fit l = true ∧ lev < 4)) : PC Go.Proofs.Try.prog 30 [trA b, .val (.int .i64 x), a] True (.tuple [tabA 0 0 zeroD [] [], .val (.int .i64 1)]) := ⟨fun _ => by
  subst hx
  have hd : ¬ dFit lev l = true := by
    unfold dFit; intro h
    rw [Bool.and_eq_true, decide_eq_true_eq] at h
    exact hf h
  have := (inferInstance : PC Go.Proofs.Try.prog 30 [trA b, .val (.int .i64 ((lev : Nat) : Int)), a] _ _).ct ⟨hl, hlv⟩
  unfold dLev dCnt dRoot dFst dLst dErr at this
  simp only [if_neg hd] at this
  exact this⟩
theorem prove_by [h : IsL a En.av 4 l m] {e : Nat} {bt : Bool} {X Y : Opn} (hl : l.length ≤ 1000000) (hp : proveP b l k = (e, bt, X, Y)) : PC Go.Proofs.Try.prog 12 [trA b, a, S k] True (.tuple [ptA bt X Y, I .i64 (e : Nat)]) := ⟨fun _ => by
  have := (inferInstance : PC Go.Proofs.Try.prog 12 [trA b, a, S k] _ _).ct hl
  rw [hp] at this
  exact this⟩
theorem check_by {d f g : List UInt8} [hd : Len32 d] {lv cnt : Int} {bt i : Bool} {X Y : Opn} {e : Nat} {y : En} (hc : cnt ≤ 9223372036854775807) (h1 : X.2.1.length ≤ 100000000000000) (h2 : Y.2.1.length ≤ 100000000000000) (hp : seekC b ⟨d, hd.len⟩ cnt f g k bt X Y = (e, i, y)) : PC Go.Proofs.Try.prog 23 [trA b, tabA lv cnt d f g, S k, ptA bt X Y] True (.tuple [y.av, B i, I .i64 (e : Nat)]) := ⟨fun _ => by
  have := (inferInstance : PC Go.Proofs.Try.prog 23 [trA b, tabA lv cnt d f g, S k, ptA bt X Y] _ _).ct ⟨hc, h1, h2⟩
  rw [hp] at this
  exact this⟩
theorem prove_is (hf : fit l = true) (hk : hasK l k = true) : proveP b l k = (0, false, opnAt b (l.map enB) (placeN l k), opn0) := by rw [proveP, if_pos hf, if_pos hk]
theorem prove_none (hf : fit l = true) (hk : hasK l k = false) (h : placeN l k = 0 ∨ placeN l k = l.length) : proveP b l k = (5, false, opn0, opn0) := by rw [proveP, if_pos hf, if_neg (by rw [hk]; decide), if_pos h]
theorem prove_gap (hf : fit l = true) (hk : hasK l k = false) (h : ¬ (placeN l k = 0 ∨ placeN l k = l.length)) : proveP b l k = (0, true, opnAt b (l.map enB) (placeN l k - 1), opnAt b (l.map enB) (placeN l k)) := by rw [proveP, if_pos hf, if_neg (by rw [hk]; decide), if_neg h]
theorem prove_not (hf : ¬ fit l = true) : proveP b l k = (1, false, opn0, opn0) := by rw [proveP, if_neg hf]
end told
theorem shown12_ok : aPure Go.Proofs.Try.prog 10 [] (B true) := by
  refine ACalls.fin (law12_shown.go ?_)
  unfold law12_shown.sh
  have hf : fit [⟨[97], [], false, 1⟩, ⟨[99], [], false, 2⟩] = true := by decide
  have iD : ∀ {a : AV} {m : SM} [h : IsL a En.av 4 [⟨[97], [], false, 1⟩, ⟨[99], [], false, 2⟩] m], PC Go.Proofs.Try.prog 30 [trA 256, .val (.int .i64 0), a] True _ := desc_fit (b := 256) (lev := 0) rfl hf (by decide)
  have p1 := prove_gap (b := 256) (k := [98]) hf (by decide) (by decide)
  have p2 := prove_is (b := 256) (k := [99]) hf (by decide)
  have p3 := seekC_is 256 hf [99] [99] (by decide) (by decide)
  rw [show placeN [⟨[97], [], false, 1⟩, ⟨[99], [], false, 2⟩] [98] = 1 by decide] at p1
  rw [show placeN [⟨[97], [], false, 1⟩, ⟨[99], [], false, 2⟩] [99] = 1 by decide] at p2 p3
  rw [if_pos rfl, show ([⟨[97], [], false, 1⟩, ⟨[99], [], false, 2⟩] : List En).getD 1 default = ⟨[99], [], false, 2⟩ from rfl] at p3
  obtain ⟨X0, hX0⟩ : ∃ X, X = opnAt 256 ([⟨[97], [], false, 1⟩, ⟨[99], [], false, 2⟩].map enB) 0 := ⟨_, rfl⟩
  obtain ⟨X1, hX1⟩ : ∃ X, X = opnAt 256 ([⟨[97], [], false, 1⟩, ⟨[99], [], false, 2⟩].map enB) 1 := ⟨_, rfl⟩
  have l1 : X1.2.1.length ≤ 100000000000000 := by rw [hX1]; exact len_opn _ _ _
  have a0 : X0.1 = 0 := by rw [hX0]; rfl
  have a1 : X1.1 = 1 := by rw [hX1]; rfl
  rw [show (1 : Nat) - 1 = 0 from rfl, ← hX0, ← hX1] at p1
  rw [← hX1] at p2 p3
  have i1 : ∀ {a : AV} {m : SM} [h : IsL a En.av 4 [⟨[97], [], false, 1⟩, ⟨[99], [], false, 2⟩] m], PC Go.Proofs.Try.prog 12 [trA 256, a, S [98]] True _ := prove_by (b := 256) (by decide) p1
  have i2 : ∀ {a : AV} {m : SM} [h : IsL a En.av 4 [⟨[97], [], false, 1⟩, ⟨[99], [], false, 2⟩] m], PC Go.Proofs.Try.prog 12 [trA 256, a, S [99]] True _ := prove_by (b := 256) (by decide) p2
  have i3 : ∀ {a : AV} {m : SM} [h : IsL a En.av 4 [⟨[97], [], false, 1⟩, ⟨[99], [], false, 2⟩] m], PC Go.Proofs.Try.prog 12 [trA 256, a, S [100]] True _ := prove_by (b := 256) (by decide) (prove_none hf (by decide) (by decide))
  have iC := check_by (lv := 0) (b := 256) (h1 := l1) (h2 := len_opn0) (by decide) p3
  repeat' (first | with_reducible apply Stp.go | with_reducible refine imp fun _ => ?_ | (with_reducible refine hyp ?_ ?_; first | assumption | exact leftT_mem (by assumption)) | (with_reducible refine need ?_ ?_; first | trivial | omega | exact ⟨by assumption, by omega⟩ | (simp only [List.length_append, List.length_cons, List.length_nil, List.length_map, List.length_take, List.length_drop, List.length_replicate, List.length_set]; omega)) | (with_reducible refine fact ?_ ?_; first | trivial | exact ⟨rfl, rfl⟩ | kernel_rfl) | with_reducible refine choT (by assumption) ?_ | with_reducible refine choF (by assumption) ?_ | with_reducible refine choF' (by assumption) ?_ | (with_reducible refine altT ?_ ?_; first | omega | (simp only [List.length_append, List.length_cons, List.length_nil, List.length_map, List.length_take, List.length_drop, List.length_replicate, List.length_set]; omega)) | with_reducible refine altF ?_ | with_reducible refine all fun _ => ?_ | with_reducible refine both ?_ ?_ | (with_reducible refine choT ?_ ?_; omega) | (with_reducible refine choF ?_ ?_; omega) | with_reducible refine cho (fun _ => ?_) (fun _ => ?_))
  all_goals first
    | exact ⟨_, _, _, rfl, Sub.app_nil _, rfl, rfl⟩
    | contradiction
instance : PC Go.Proofs.Try.prog 10 [] True (B true) := ⟨fun _ => PC.of shown12_ok⟩
theorem SeekOther_ok (l : List En) (m : SM) (b : Int) (k o : List UInt8) (hl : l.length ≤ 100000000000000) (hb : (Lit.int .i64 b).wf = true) (hk : k.length ≤ 140737488355328) (ho : o.length ≤ 140737488355328) : aPure Go.Proofs.Try.prog 5 [.lst 4 (l.map En.av) m, I .i64 b, S k, S o] (B true) := by
  refine ACalls.fin (law12_SeekOther.go ?_)
  unfold law12_SeekOther.sh
  obtain ⟨L, hL⟩ : ∃ L, L = fitL ((l.take 70).map (cutE 130 1030)) := ⟨_, rfl⟩
  have h64 : L.length ≤ 64 := by rw [hL]; unfold fitL; simp; omega
  have iF : PC Go.Proofs.Try.prog 29 [.lst 4 (l.map En.av) m] True (.lst 4 (L.map En.av) .ro) := ⟨fun _ => by rw [hL]; exact PC.of (fit12_ok l m hl)⟩
  by_cases hf : fit L = true
  · have hri := (sorted_iff L).1 (fit_right hf).2.2.1
    have h0 := (fit_right hf).2.1
    have iD : ∀ {a : AV} {m : SM} [h : IsL a En.av 4 L m], PC Go.Proofs.Try.prog 30 [trA b, .val (.int .i64 1), a] True _ := desc_fit (b := b) (lev := 1) rfl hf (by decide)
    cases hco : coversB (L.getD 0 default).key (L.getD (L.length - 1) default).key o with
    | false =>
      have hff : ¬ (false : Bool) = true := by decide
      obtain ⟨e, bt, X, Y, hp⟩ : ∃ e bt X Y, proveP b L k = (e, bt, X, Y) := ⟨_, _, _, _, rfl⟩
      have iP : ∀ {a : AV} {m : SM} [h : IsL a En.av 4 L m], PC Go.Proofs.Try.prog 12 [trA b, a, S k] True _ := prove_by (by omega) hp
      repeat' (first | with_reducible apply Stp.go | with_reducible refine imp fun _ => ?_ | (with_reducible refine hyp ?_ ?_; first | assumption | exact leftT_mem (by assumption)) | (with_reducible refine need ?_ ?_; first | trivial | omega | exact ⟨by assumption, by omega⟩ | (simp only [List.length_append, List.length_cons, List.length_nil, List.length_map, List.length_take, List.length_drop, List.length_replicate, List.length_set]; omega)) | (with_reducible refine fact ?_ ?_; first | trivial | exact ⟨rfl, rfl⟩ | kernel_rfl) | with_reducible refine choT (by assumption) ?_ | with_reducible refine choF (by assumption) ?_ | with_reducible refine choF' (by assumption) ?_ | (with_reducible refine altT ?_ ?_; first | omega | (simp only [List.length_append, List.length_cons, List.length_nil, List.length_map, List.length_take, List.length_drop, List.length_replicate, List.length_set]; omega)) | with_reducible refine altF ?_ | with_reducible refine all fun _ => ?_ | with_reducible refine both ?_ ?_ | (with_reducible refine choT ?_ ?_; omega) | (with_reducible refine choF ?_ ?_; omega) | with_reducible refine cho (fun _ => ?_) (fun _ => ?_))
      all_goals exact ⟨_, _, _, rfl, Sub.app_nil _, rfl, rfl⟩
    | true =>
      cases hk : hasK L k with
      | true =>
        have iP : ∀ {a : AV} {m : SM} [h : IsL a En.av 4 L m], PC Go.Proofs.Try.prog 12 [trA b, a, S k] True _ := prove_by (by omega) (prove_is hf hk)
        have hC := seekC_is b hf k o hk hco
        by_cases hko : k = o
        · rw [if_pos hko] at hC
          have iC := check_by (lv := 1) (h1 := len_opn b L (placeN L k)) (h2 := len_opn0) (by omega) hC
          repeat' (first | with_reducible apply Stp.go | with_reducible refine imp fun _ => ?_ | (with_reducible refine hyp ?_ ?_; first | assumption | exact leftT_mem (by assumption)) | (with_reducible refine need ?_ ?_; first | trivial | omega | exact ⟨by assumption, by omega⟩ | (simp only [List.length_append, List.length_cons, List.length_nil, List.length_map, List.length_take, List.length_drop, List.length_replicate, List.length_set]; omega)) | (with_reducible refine fact ?_ ?_; first | trivial | exact ⟨rfl, rfl⟩ | kernel_rfl) | with_reducible refine choT (by assumption) ?_ | with_reducible refine choF (by assumption) ?_ | with_reducible refine choF' (by assumption) ?_ | (with_reducible refine altT ?_ ?_; first | omega | (simp only [List.length_append, List.length_cons, List.length_nil, List.length_map, List.length_take, List.length_drop, List.length_replicate, List.length_set]; omega)) | with_reducible refine altF ?_ | with_reducible refine all fun _ => ?_ | with_reducible refine both ?_ ?_ | (with_reducible refine choT ?_ ?_; omega) | (with_reducible refine choF ?_ ?_; omega) | with_reducible refine cho (fun _ => ?_) (fun _ => ?_))
          all_goals (refine ⟨_, _, _, rfl, Sub.app_nil _, ?_, rfl⟩; simp_all)
        · rw [if_neg hko] at hC
          have iC := check_by (lv := 1) (h1 := len_opn b L (placeN L k)) (h2 := len_opn0) (by omega) hC
          repeat' (first | with_reducible apply Stp.go | with_reducible refine imp fun _ => ?_ | (with_reducible refine hyp ?_ ?_; first | assumption | exact leftT_mem (by assumption)) | (with_reducible refine need ?_ ?_; first | trivial | omega | exact ⟨by assumption, by omega⟩ | (simp only [List.length_append, List.length_cons, List.length_nil, List.length_map, List.length_take, List.length_drop, List.length_replicate, List.length_set]; omega)) | (with_reducible refine fact ?_ ?_; first | trivial | exact ⟨rfl, rfl⟩ | kernel_rfl) | with_reducible refine choT (by assumption) ?_ | with_reducible refine choF (by assumption) ?_ | with_reducible refine choF' (by assumption) ?_ | (with_reducible refine altT ?_ ?_; first | omega | (simp only [List.length_append, List.length_cons, List.length_nil, List.length_map, List.length_take, List.length_drop, List.length_replicate, List.length_set]; omega)) | with_reducible refine altF ?_ | with_reducible refine all fun _ => ?_ | with_reducible refine both ?_ ?_ | (with_reducible refine choT ?_ ?_; omega) | (with_reducible refine choF ?_ ?_; omega) | with_reducible refine cho (fun _ => ?_) (fun _ => ?_))
          all_goals (refine ⟨_, _, _, rfl, Sub.app_nil _, ?_, rfl⟩; simp_all)
      | false =>
        by_cases hz : placeN L k = 0 ∨ placeN L k = L.length
        · have iP : ∀ {a : AV} {m : SM} [h : IsL a En.av 4 L m], PC Go.Proofs.Try.prog 12 [trA b, a, S k] True _ := prove_by (by omega) (prove_none hf hk hz)
          repeat' (first | with_reducible apply Stp.go | with_reducible refine imp fun _ => ?_ | (with_reducible refine hyp ?_ ?_; first | assumption | exact leftT_mem (by assumption)) | (with_reducible refine need ?_ ?_; first | trivial | omega | exact ⟨by assumption, by omega⟩ | (simp only [List.length_append, List.length_cons, List.length_nil, List.length_map, List.length_take, List.length_drop, List.length_replicate, List.length_set]; omega)) | (with_reducible refine fact ?_ ?_; first | trivial | exact ⟨rfl, rfl⟩ | kernel_rfl) | with_reducible refine choT (by assumption) ?_ | with_reducible refine choF (by assumption) ?_ | with_reducible refine choF' (by assumption) ?_ | (with_reducible refine altT ?_ ?_; first | omega | (simp only [List.length_append, List.length_cons, List.length_nil, List.length_map, List.length_take, List.length_drop, List.length_replicate, List.length_set]; omega)) | with_reducible refine altF ?_ | with_reducible refine all fun _ => ?_ | with_reducible refine both ?_ ?_ | (with_reducible refine choT ?_ ?_; omega) | (with_reducible refine choF ?_ ?_; omega) | with_reducible refine cho (fun _ => ?_) (fun _ => ?_))
          all_goals exact ⟨_, _, _, rfl, Sub.app_nil _, rfl, rfl⟩
        · have iP : ∀ {a : AV} {m : SM} [h : IsL a En.av 4 L m], PC Go.Proofs.Try.prog 12 [trA b, a, S k] True _ := prove_by (by omega) (prove_gap hf hk hz)
          have hpl := placeN_le L k
          have hC := seekC_gap b hf (n := placeN L k) (by omega) (by omega) o hco
          by_cases hko : hasK L o = false ∧ placeN L o = placeN L k
          · rw [if_pos hko] at hC
            obtain ⟨ho1, ho2⟩ := hko
            have iC := check_by (lv := 1) (h1 := len_opn b L (placeN L k - 1)) (h2 := len_opn b L (placeN L k)) (by omega) hC
            repeat' (first | with_reducible apply Stp.go | with_reducible refine imp fun _ => ?_ | (with_reducible refine hyp ?_ ?_; first | assumption | exact leftT_mem (by assumption)) | (with_reducible refine need ?_ ?_; first | trivial | omega | exact ⟨by assumption, by omega⟩ | (simp only [List.length_append, List.length_cons, List.length_nil, List.length_map, List.length_take, List.length_drop, List.length_replicate, List.length_set]; omega)) | (with_reducible refine fact ?_ ?_; first | trivial | exact ⟨rfl, rfl⟩ | kernel_rfl) | with_reducible refine choT (by assumption) ?_ | with_reducible refine choF (by assumption) ?_ | with_reducible refine choF' (by assumption) ?_ | (with_reducible refine altT ?_ ?_; first | omega | (simp only [List.length_append, List.length_cons, List.length_nil, List.length_map, List.length_take, List.length_drop, List.length_replicate, List.length_set]; omega)) | with_reducible refine altF ?_ | with_reducible refine all fun _ => ?_ | with_reducible refine both ?_ ?_ | (with_reducible refine choT ?_ ?_; omega) | (with_reducible refine choF ?_ ?_; omega) | with_reducible refine cho (fun _ => ?_) (fun _ => ?_))
            all_goals (refine ⟨_, _, _, rfl, Sub.app_nil _, ?_, rfl⟩; simp_all)
          · rw [if_neg hko] at hC
            have hne2 : hasK L o = false → ¬ placeN L k = placeN L o := fun h e => hko ⟨h, e.symm⟩
            have hne : ¬ k = o := fun h => hko (by subst h; exact ⟨hk, rfl⟩)
            have iC := check_by (lv := 1) (h1 := len_opn b L (placeN L k - 1)) (h2 := len_opn b L (placeN L k)) (by omega) hC
            repeat' (first | with_reducible apply Stp.go | with_reducible refine imp fun _ => ?_ | (with_reducible refine hyp ?_ ?_; first | assumption | exact leftT_mem (by assumption)) | (with_reducible refine need ?_ ?_; first | trivial | omega | exact ⟨by assumption, by omega⟩ | (simp only [List.length_append, List.length_cons, List.length_nil, List.length_map, List.length_take, List.length_drop, List.length_replicate, List.length_set]; omega)) | (with_reducible refine fact ?_ ?_; first | trivial | exact ⟨rfl, rfl⟩ | kernel_rfl) | with_reducible refine choT (by assumption) ?_ | with_reducible refine choF (by assumption) ?_ | with_reducible refine choF' (by assumption) ?_ | (with_reducible refine altT ?_ ?_; first | omega | (simp only [List.length_append, List.length_cons, List.length_nil, List.length_map, List.length_take, List.length_drop, List.length_replicate, List.length_set]; omega)) | with_reducible refine altF ?_ | with_reducible refine all fun _ => ?_ | with_reducible refine both ?_ ?_ | (with_reducible refine choT ?_ ?_; omega) | (with_reducible refine choF ?_ ?_; omega) | with_reducible refine cho (fun _ => ?_) (fun _ => ?_))
            all_goals (refine ⟨_, _, _, rfl, Sub.app_nil _, ?_, rfl⟩; simp_all)
  · have iD : ∀ {a : AV} {m : SM} [h : IsL a En.av 4 L m], PC Go.Proofs.Try.prog 30 [trA b, .val (.int .i64 1), a] True _ := desc_not (b := b) (lev := 1) rfl (by omega) (by decide) (fun h => hf h.1)
    have iP : ∀ {a : AV} {m : SM} [h : IsL a En.av 4 L m], PC Go.Proofs.Try.prog 12 [trA b, a, S k] True _ := prove_by (by omega) (prove_not hf)
    repeat' (first | with_reducible apply Stp.go | with_reducible refine imp fun _ => ?_ | (with_reducible refine hyp ?_ ?_; first | assumption | exact leftT_mem (by assumption)) | (with_reducible refine need ?_ ?_; first | trivial | omega | exact ⟨by assumption, by omega⟩ | (simp only [List.length_append, List.length_cons, List.length_nil, List.length_map, List.length_take, List.length_drop, List.length_replicate, List.length_set]; omega)) | (with_reducible refine fact ?_ ?_; first | trivial | exact ⟨rfl, rfl⟩ | kernel_rfl) | with_reducible refine choT (by assumption) ?_ | with_reducible refine choF (by assumption) ?_ | with_reducible refine choF' (by assumption) ?_ | (with_reducible refine altT ?_ ?_; first | omega | (simp only [List.length_append, List.length_cons, List.length_nil, List.length_map, List.length_take, List.length_drop, List.length_replicate, List.length_set]; omega)) | with_reducible refine altF ?_ | with_reducible refine all fun _ => ?_ | with_reducible refine both ?_ ?_ | (with_reducible refine choT ?_ ?_; omega) | (with_reducible refine choF ?_ ?_; omega) | with_reducible refine cho (fun _ => ?_) (fun _ => ?_))
    all_goals exact ⟨_, _, _, rfl, Sub.app_nil _, rfl, rfl⟩
end Go.Ab
