/- Layer 10's law texts: what must be in any case; an entry cut. -/
import Derived.Test.YtcpbjmhhhdoafaaF36
set_option linter.unusedVariables false
set_option linter.unusedSimpArgs false
namespace Go.Ab
theorem run_ptr_nil {P : Program} {t t' : TypeId} (h : P.underlying t = some (.pointer t')) (k : Nat) (a : Addr) (w : World) : (Op.equalIn (k + 1) t (.pointer (some a)) (.pointer none)).run P w = .ok false w := by
  simp [Op.equalIn, run_underlying h]
class PtrT (P : Program) (t : TypeId) : Prop where
  h : ∃ t', P.underlying t = some (.pointer t')
instance : PtrT Go.Proofs.Try.prog 23 := ⟨⟨58, by kernel_rfl⟩⟩
instance ptrNil {P : Program} {t : TypeId} {b o : Nat} {K : AV → Prop} [h : PtrT P t] : Stp (Do (aBin P .eql t (ptrAt b o) (.val (.pointer none))) K) (K (.val (.bool false))) := ⟨fun hK => ⟨_, by
  obtain ⟨t', ht⟩ := h.h
  refine (aBin_val fun xo yo w => ?_).2 rfl
  have e1 := run_ptr_nil ht 9999 ⟨b, o, none⟩ w
  cases xo <;> cases yo <;> simp [eqGuard, binOp, Op.equal, Op.maxDepth, e1, Op.eqGuardIn, run_underlying ht], hK⟩⟩
/-- What is true of a mem. -/
def memI (l : List En) (s : Int) : Prop := Rises l ∧ (∀ x ∈ l, x.seq ≤ s) ∧ l.length ≤ 64
theorem memI0 (s : Int) : memI [] s := ⟨List.Pairwise.nil, by simp, by simp⟩
theorem memI.need {l : List En} {s : Int} (h : memI l s) : Rises l ∧ l.length ≤ 1000000 := ⟨h.1, by have := h.2.2; omega⟩
theorem insL_put {l : List En} {s : Int} {e : En} (h : memI l s) (hs : ¬ e.seq ≤ s) : insL l e = putE e l := by
  rw [putE_place h.1, insL]
  split
  · rename_i hk
    have h1 := (place_lt h.1 hk).1
    have h2 : l.getD (placeN l e.key) default ∈ l := by rw [List.getD_eq_getElem?_getD, List.getElem?_eq_getElem h1]; exact List.getElem_mem _
    have h3 := h.2.1 _ h2
    rw [if_pos (by omega)]
  · rfl
theorem putX_ok {l : List En} {s : Int} {e : En} (h : putX l s e = 0) : right e = true ∧ ¬ e.seq ≤ s ∧ (hasK l e.key = true ∨ ¬ l.length = 64) := by
  unfold putX at h
  split at h
  · rename_i h1
    refine ⟨h1.1, h1.2, ?_⟩
    split at h
    · rename_i h2; exact .inl h2
    · split at h
      · cases h
      · rename_i h3; exact .inr h3
  · cases h
theorem putL_put {l : List En} {s : Int} {e : En} (h : memI l s) (hx : putX l s e = 0) : putL l s e = putE e l := by rw [putL, if_pos hx, insL_put h (putX_ok hx).2.1]
theorem putL_err {l : List En} {s : Int} {e : En} (hx : ¬ putX l s e = 0) : putL l s e = l := by rw [putL, if_neg hx]
theorem putS_ok {l : List En} {s : Int} {e : En} (hx : putX l s e = 0) : putS l s e = e.seq := by rw [putS, if_pos hx]
theorem putS_err {l : List En} {s : Int} {e : En} (hx : ¬ putX l s e = 0) : putS l s e = s := by rw [putS, if_neg hx]
theorem putI {l : List En} {s : Int} {e : En} (h : memI l s) : memI (putL l s e) (putS l s e) := by
  by_cases hx : putX l s e = 0
  · obtain ⟨h1, h2, h3⟩ := putX_ok hx
    rw [putL_put h hx, putS_ok hx]
    refine ⟨putE_rises h.1, fun x hx => ?_, ?_⟩
    · rcases putE_key hx with rfl | hx
      · exact Int.le_refl _
      · have := h.2.1 x hx; omega
    · rw [← insL_put h h2]
      have h4 := h.2.2
      rcases h3 with h3 | h3
      · rw [insL_old h3, List.length_set]; exact h4
      · by_cases hk : hasK l e.key = true
        · rw [insL_old hk, List.length_set]; exact h4
        · rw [insL_new hk]
          have := placeN_le l e.key
          simp
          omega
  · rw [putL_err hx, putS_err hx]; exact h
section memI
variable {b : Nat} {σ rest : Store} {v : Value} {l : List En} {s : Int} {c lo hi k : List UInt8} {e : En} [h : MemAt b σ v l s c rest]
instance (priority := 1100) getM : EC Go.Proofs.Try.prog 22 [ptrAt b 0, S k] σ (memI l s) Unit (fun _ => .tuple [(keyV l k).av, B (hasK l k)]) (fun _ => σ) := ⟨fun hl => EC.ct hl.need⟩
instance (priority := 1100) rangeM : EC Go.Proofs.Try.prog 19 [ptrAt b 0, S lo, S hi] σ (memI l s) Value (fun v' => .own v' (rangeL l lo hi).length) (fun v' => .row v' EnT_ 4 ((rangeL l lo hi).map En.av) 0 :: σ) := ⟨fun hl => EC.ct hl.need⟩
instance (priority := 1100) allM : EC Go.Proofs.Try.prog 25 [ptrAt b 0] σ (memI l s) Value (fun v' => .own v' l.length) (fun v' => .row v' EnT_ 4 (l.map En.av) 0 :: σ) := ⟨fun hl => EC.ct hl.need⟩
instance (priority := 1100) putM [hc : Len32 c] : EC Go.Proofs.Try.prog 11 [ptrAt b 0, e.av] σ (memI l s) Value (fun _ => I .i64 (putX l s e : Nat)) (fun v' => memS b v' (putL l s e) (putS l s e) (putC l s c e) ++ rest) := ⟨fun hl => EC.ct hl.need⟩
end memI
section masks
variable {P : Program} {t : TypeId} {x : Int} {K : AV → Prop}
instance mask7 : Stp (Do (aBin P .and t (.val (.int .i64 x)) (.val (.int .i64 127))) K) (K (.val (.int .i64 ((x % 128).toNat : Nat)))) := ⟨fun h => s_mask 7 (by decide) h⟩
instance mask40 : Stp (Do (aBin P .and t (.val (.int .i64 x)) (.val (.int .i64 1099511627775))) K) (K (.val (.int .i64 ((x % 1099511627776).toNat : Nat)))) := ⟨fun h => s_mask 40 (by decide) h⟩
end masks
theorem putX_small {l : List En} {s : Int} {e : En} (hr : right e = true) (h : hasK l e.key = true ∨ l.length < 64) : putX l s e = if e.seq ≤ s then 1 else 0 := by
  unfold putX
  by_cases h1 : e.seq ≤ s
  · rw [if_neg (fun h => h.2 h1), if_pos h1]
  · rw [if_pos ⟨hr, h1⟩, if_neg h1]
    split
    · rfl
    · rename_i h2
      rw [if_neg]
      intro h3
      rcases h with h | h
      · exact h2 h
      · omega
def law10_cut.mark : Mark := ⟨fun t => false, fun t => false, fun t => false, fun t => false, fun t => false⟩
def law10_cut.ann : Ann := ⟨fun n => [], fun n => none, fun n => none⟩
/-- 'marlstone/marlstonelaw10.cut' -/
def law10_cut.sh (a0 : AV) (σ : Store) (Q : AEnd → Store → Prop) : Prop :=
  aNewVar 29 (a0 : AV).cells σ fun t1 σ =>
  aNewVar 29 [.val (.string ⟨#[]⟩), .val (.string ⟨#[]⟩), .val (.bool false), .val (.int .i64 0)] σ fun t2 σ_1 =>
  Do (aFieldAddr 0 1 t1) fun t3 =>
  Do (loadA false 1 t3 σ_1) fun t4 =>
  Do (aFieldAddr 0 1 t1) fun t5 =>
  Do (loadA false 1 t5 σ_1) fun t6 =>
  Do (aBuiltin Go.Proofs.Try.prog .len #[9] [t6]) fun t7 =>
  Do (aBuiltin Go.Proofs.Try.prog .min #[3, 3] [t7, (.val (.int .i64 130))]) fun t8 =>
  Do (aSlice .string 1 t4 none (some t8) none) fun t9 =>
  Do (aFieldAddr 0 1 t1) fun t10 =>
  storeA 1 t10 t9 σ_1 fun u σ_2 =>
  Do (aFieldAddr 1 1 t1) fun t11 =>
  Do (loadA false 1 t11 σ_2) fun t12 =>
  Do (aFieldAddr 1 1 t1) fun t13 =>
  Do (loadA false 1 t13 σ_2) fun t14 =>
  Do (aBuiltin Go.Proofs.Try.prog .len #[9] [t14]) fun t15 =>
  Do (aBuiltin Go.Proofs.Try.prog .min #[3, 3] [t15, (.val (.int .i64 1030))]) fun t16 =>
  Do (aSlice .string 1 t12 none (some t16) none) fun t17 =>
  Do (aFieldAddr 1 1 t1) fun t18 =>
  storeA 1 t18 t17 σ_2 fun u_1 σ_3 =>
  Do (loadA true 4 t1 σ_3) fun t19 =>
  storeA 4 t2 t19 σ_3 fun u_2 σ_4 =>
  Do (loadA true 4 t2 σ_4) fun r2 => Q (.ret r2) σ_4
theorem law10_cut.eq (a0 : AV) (σ : Store) (Q : AEnd → Store → Prop) : vc (semOf Go.Proofs.Try.prog law10_cut.mark) Go.Proofs.Try.f16.ntmps law10_cut.ann (bodyOf Go.Proofs.Try.f16) (endK [.cell 2 true 4] Q) (argFr [a0]) σ = law10_cut.sh a0 σ Q := by kernel_rfl
theorem law10_cut.go {a0 : AV} {σ : Store} {Q : AEnd → Store → Prop} (h : law10_cut.sh a0 σ Q) : ACalls Go.Proofs.Try.prog 16 [a0] σ Q :=
  acalls_of_eq [.cell 2 true 4] Go.Proofs.Try.func16 (by kernel_rfl) (by kernel_rfl) (by kernel_rfl) (by kernel_rfl) (law10_cut.eq a0 σ Q) h
def law10_shown.mark : Mark := ⟨fun t => false, fun t => false, fun t => false, fun t => false, fun t => false⟩
def law10_shown.ann : Ann := ⟨fun n => [], fun n => none, fun n => none⟩
/-- 'marlstone/marlstonelaw10.shown' -/
def law10_shown.sh (σ : Store) (Q : AEnd → Store → Prop) : Prop :=
  aCall Go.Proofs.Try.prog 10 [] σ (fun t4 σ =>
  Do (aBin Go.Proofs.Try.prog .eql 23 t4 (.val (.pointer none))) fun t6 =>
  aCond t6
    (Q (.ret (.val (.bool false))) σ)
    (Do (aLit [.val (.string ⟨#[]⟩), .val (.string ⟨#[]⟩), .val (.bool false), .val (.int .i64 0)] [(0, 1), (1, 1), (2, 1), (3, 1)] [(0, (.val (.string ⟨#[97]⟩))), (3, (.val (.int .i64 1)))]) fun t8 =>
  aCall Go.Proofs.Try.prog 11 [t4, t8] σ (fun t9 σ_1 =>
  Do (aBin Go.Proofs.Try.prog .eql 25 t9 (.val (.int .i64 0))) fun t10 =>
  Do (aGuard t10 true (aIs t4)) fun t12 =>
  Do (aGuard t10 true (aLit [.val (.string ⟨#[]⟩), .val (.string ⟨#[]⟩), .val (.bool false), .val (.int .i64 0)] [(0, 1), (1, 1), (2, 1), (3, 1)] [(0, (.val (.string ⟨#[98]⟩))), (3, (.val (.int .i64 2)))])) fun t13 =>
  GEff t10 true (aCall Go.Proofs.Try.prog 11 [t12, t13] σ_1 (fun t14 σ_2 =>
    Do (aGuard t10 true (aBin Go.Proofs.Try.prog .eql 25 t14 (.val (.int .i64 0)))) fun t15 =>
  Do (aPick t10 t15 (.val (.bool false))) fun t16 =>
  Do (aGuard t16 true (aIs t4)) fun t18 =>
  Do (aGuard t16 true (aLit [.val (.string ⟨#[]⟩), .val (.string ⟨#[]⟩), .val (.bool false), .val (.int .i64 0)] [(0, 1), (1, 1), (2, 1), (3, 1)] [(0, (.val (.string ⟨#[97]⟩))), (3, (.val (.int .i64 3)))])) fun t19 =>
  GEff t16 true (aCall Go.Proofs.Try.prog 11 [t18, t19] σ_2 (fun t20 σ_3 =>
    Do (aGuard t16 true (aBin Go.Proofs.Try.prog .eql 25 t20 (.val (.int .i64 0)))) fun t21 =>
  Do (aPick t16 t21 (.val (.bool false))) fun t22 =>
  Do (aGuard t22 true (aIs t4)) fun t24 =>
  Do (aGuard t22 true (aLit [.val (.string ⟨#[]⟩), .val (.string ⟨#[]⟩), .val (.bool false), .val (.int .i64 0)] [(0, 1), (1, 1), (2, 1), (3, 1)] [(0, (.val (.string ⟨#[99]⟩))), (3, (.val (.int .i64 3)))])) fun t25 =>
  GEff t22 true (aCall Go.Proofs.Try.prog 11 [t24, t25] σ_3 (fun t26 σ_4 =>
    Do (aGuard t22 true (aBin Go.Proofs.Try.prog .eql 25 t26 (.val (.int .i64 1)))) fun t27 =>
  Do (aPick t22 t27 (.val (.bool false))) fun t28 =>
  aCall Go.Proofs.Try.prog 25 [t4] σ_4 (fun t30 σ_5 =>
  Do (aGuard t28 true (aIs t30)) fun t33 =>
  Do (aGuard t28 true (aBuiltin Go.Proofs.Try.prog .len #[39] [t33])) fun t34 =>
  Do (aGuard t28 true (aBin Go.Proofs.Try.prog .eql 3 t34 (.val (.int .i64 2)))) fun t35 =>
  Do (aPick t28 t35 (.val (.bool false))) fun t36 =>
  Do (aGuard t36 true (aIs t30)) fun t38 =>
  Do (aGuard t36 true (aIndexAddr .slice 4 t38 (.val (.int .i64 0)))) fun t39 =>
  Do (aGuard t36 true (aFieldAddr 3 1 t39)) fun t40 =>
  Do (aGuard t36 true (loadA false 1 t40 σ_5)) fun t41 =>
  Do (aGuard t36 true (aBin Go.Proofs.Try.prog .eql 3 t41 (.val (.int .i64 3)))) fun t42 =>
  Do (aPick t36 t42 (.val (.bool false))) fun t43 =>
  Do (aGuard t43 true (aIs t30)) fun t45 =>
  Do (aGuard t43 true (aIndexAddr .slice 4 t45 (.val (.int .i64 1)))) fun t46 =>
  Do (aGuard t43 true (aFieldAddr 3 1 t46)) fun t47 =>
  Do (aGuard t43 true (loadA false 1 t47 σ_5)) fun t48 =>
  Do (aGuard t43 true (aBin Go.Proofs.Try.prog .eql 3 t48 (.val (.int .i64 2)))) fun t49 =>
  Do (aPick t43 t49 (.val (.bool false))) fun t50 =>
  Do (aGuard t50 true (aIs t4)) fun t52 =>
  GEff t50 true (aCall Go.Proofs.Try.prog 14 [t52] σ_5 (fun t53 σ_6 =>
    Do (aGuard t50 true (aBin Go.Proofs.Try.prog .eql 3 t53 (.val (.int .i64 3)))) fun t54 =>
  Do (aPick t50 t54 (.val (.bool false))) fun t55 =>
  Do (aGuard t55 true (aIs t4)) fun t57 =>
  GEff t55 true (aCall Go.Proofs.Try.prog 12 [t57] σ_6 (fun t58 σ_7 =>
    Do (aGuard t55 true (aBin Go.Proofs.Try.prog .eql 3 t58 (.val (.int .i64 2)))) fun t59 =>
  Do (aPick t55 t59 (.val (.bool false))) fun t60 =>
  Q (.ret t60) σ_7) (fun e σ_8 => Q (.pan e) σ_8))
  (Do (aGuard t55 true (aBin Go.Proofs.Try.prog .eql 3 (.val Go.undef) (.val (.int .i64 2)))) fun t59_1 =>
  Do (aPick t55 t59_1 (.val (.bool false))) fun t60_1 =>
  Q (.ret t60_1) σ_6)) (fun e_1 σ_9 => Q (.pan e_1) σ_9))
  (Do (aGuard t50 true (aBin Go.Proofs.Try.prog .eql 3 (.val Go.undef) (.val (.int .i64 3)))) fun t54_1 =>
  Do (aPick t50 t54_1 (.val (.bool false))) fun t55_1 =>
  Do (aGuard t55_1 true (aIs t4)) fun t57_1 =>
  GEff t55_1 true (aCall Go.Proofs.Try.prog 12 [t57_1] σ_5 (fun t58_1 σ_10 =>
    Do (aGuard t55_1 true (aBin Go.Proofs.Try.prog .eql 3 t58_1 (.val (.int .i64 2)))) fun t59_2 =>
  Do (aPick t55_1 t59_2 (.val (.bool false))) fun t60_2 =>
  Q (.ret t60_2) σ_10) (fun e_2 σ_11 => Q (.pan e_2) σ_11))
  (Do (aGuard t55_1 true (aBin Go.Proofs.Try.prog .eql 3 (.val Go.undef) (.val (.int .i64 2)))) fun t59_3 =>
  Do (aPick t55_1 t59_3 (.val (.bool false))) fun t60_3 =>
  Q (.ret t60_3) σ_5))) (fun e_3 σ_12 => Q (.pan e_3) σ_12)) (fun e_4 σ_13 => Q (.pan e_4) σ_13))
  (Do (aGuard t22 true (aBin Go.Proofs.Try.prog .eql 25 (.val Go.undef) (.val (.int .i64 1)))) fun t27_1 =>
  Do (aPick t22 t27_1 (.val (.bool false))) fun t28_1 =>
  aCall Go.Proofs.Try.prog 25 [t4] σ_3 (fun t30_1 σ_14 =>
  Do (aGuard t28_1 true (aIs t30_1)) fun t33_1 =>
  Do (aGuard t28_1 true (aBuiltin Go.Proofs.Try.prog .len #[39] [t33_1])) fun t34_1 =>
  Do (aGuard t28_1 true (aBin Go.Proofs.Try.prog .eql 3 t34_1 (.val (.int .i64 2)))) fun t35_1 =>
  Do (aPick t28_1 t35_1 (.val (.bool false))) fun t36_1 =>
  Do (aGuard t36_1 true (aIs t30_1)) fun t38_1 =>
  Do (aGuard t36_1 true (aIndexAddr .slice 4 t38_1 (.val (.int .i64 0)))) fun t39_1 =>
  Do (aGuard t36_1 true (aFieldAddr 3 1 t39_1)) fun t40_1 =>
  Do (aGuard t36_1 true (loadA false 1 t40_1 σ_14)) fun t41_1 =>
  Do (aGuard t36_1 true (aBin Go.Proofs.Try.prog .eql 3 t41_1 (.val (.int .i64 3)))) fun t42_1 =>
  Do (aPick t36_1 t42_1 (.val (.bool false))) fun t43_1 =>
  Do (aGuard t43_1 true (aIs t30_1)) fun t45_1 =>
  Do (aGuard t43_1 true (aIndexAddr .slice 4 t45_1 (.val (.int .i64 1)))) fun t46_1 =>
  Do (aGuard t43_1 true (aFieldAddr 3 1 t46_1)) fun t47_1 =>
  Do (aGuard t43_1 true (loadA false 1 t47_1 σ_14)) fun t48_1 =>
  Do (aGuard t43_1 true (aBin Go.Proofs.Try.prog .eql 3 t48_1 (.val (.int .i64 2)))) fun t49_1 =>
  Do (aPick t43_1 t49_1 (.val (.bool false))) fun t50_1 =>
  Do (aGuard t50_1 true (aIs t4)) fun t52_1 =>
  GEff t50_1 true (aCall Go.Proofs.Try.prog 14 [t52_1] σ_14 (fun t53_1 σ_15 =>
    Do (aGuard t50_1 true (aBin Go.Proofs.Try.prog .eql 3 t53_1 (.val (.int .i64 3)))) fun t54_2 =>
  Do (aPick t50_1 t54_2 (.val (.bool false))) fun t55_2 =>
  Do (aGuard t55_2 true (aIs t4)) fun t57_2 =>
  GEff t55_2 true (aCall Go.Proofs.Try.prog 12 [t57_2] σ_15 (fun t58_2 σ_16 =>
    Do (aGuard t55_2 true (aBin Go.Proofs.Try.prog .eql 3 t58_2 (.val (.int .i64 2)))) fun t59_4 =>
  Do (aPick t55_2 t59_4 (.val (.bool false))) fun t60_4 =>
  Q (.ret t60_4) σ_16) (fun e_5 σ_17 => Q (.pan e_5) σ_17))
  (Do (aGuard t55_2 true (aBin Go.Proofs.Try.prog .eql 3 (.val Go.undef) (.val (.int .i64 2)))) fun t59_5 =>
  Do (aPick t55_2 t59_5 (.val (.bool false))) fun t60_5 =>
  Q (.ret t60_5) σ_15)) (fun e_6 σ_18 => Q (.pan e_6) σ_18))
  (Do (aGuard t50_1 true (aBin Go.Proofs.Try.prog .eql 3 (.val Go.undef) (.val (.int .i64 3)))) fun t54_3 =>
  Do (aPick t50_1 t54_3 (.val (.bool false))) fun t55_3 =>
  Do (aGuard t55_3 true (aIs t4)) fun t57_3 =>
  GEff t55_3 true (aCall Go.Proofs.Try.prog 12 [t57_3] σ_14 (fun t58_3 σ_19 =>
    Do (aGuard t55_3 true (aBin Go.Proofs.Try.prog .eql 3 t58_3 (.val (.int .i64 2)))) fun t59_6 =>
  Do (aPick t55_3 t59_6 (.val (.bool false))) fun t60_6 =>
  Q (.ret t60_6) σ_19) (fun e_7 σ_20 => Q (.pan e_7) σ_20))
  (Do (aGuard t55_3 true (aBin Go.Proofs.Try.prog .eql 3 (.val Go.undef) (.val (.int .i64 2)))) fun t59_7 =>
  Do (aPick t55_3 t59_7 (.val (.bool false))) fun t60_7 =>
  Q (.ret t60_7) σ_14))) (fun e_8 σ_21 => Q (.pan e_8) σ_21))) (fun e_9 σ_22 => Q (.pan e_9) σ_22))
  (Do (aGuard t16 true (aBin Go.Proofs.Try.prog .eql 25 (.val Go.undef) (.val (.int .i64 0)))) fun t21_1 =>
  Do (aPick t16 t21_1 (.val (.bool false))) fun t22_1 =>
  Do (aGuard t22_1 true (aIs t4)) fun t24_1 =>
  Do (aGuard t22_1 true (aLit [.val (.string ⟨#[]⟩), .val (.string ⟨#[]⟩), .val (.bool false), .val (.int .i64 0)] [(0, 1), (1, 1), (2, 1), (3, 1)] [(0, (.val (.string ⟨#[99]⟩))), (3, (.val (.int .i64 3)))])) fun t25_1 =>
  GEff t22_1 true (aCall Go.Proofs.Try.prog 11 [t24_1, t25_1] σ_2 (fun t26_1 σ_23 =>
    Do (aGuard t22_1 true (aBin Go.Proofs.Try.prog .eql 25 t26_1 (.val (.int .i64 1)))) fun t27_2 =>
  Do (aPick t22_1 t27_2 (.val (.bool false))) fun t28_2 =>
  aCall Go.Proofs.Try.prog 25 [t4] σ_23 (fun t30_2 σ_24 =>
  Do (aGuard t28_2 true (aIs t30_2)) fun t33_2 =>
  Do (aGuard t28_2 true (aBuiltin Go.Proofs.Try.prog .len #[39] [t33_2])) fun t34_2 =>
  Do (aGuard t28_2 true (aBin Go.Proofs.Try.prog .eql 3 t34_2 (.val (.int .i64 2)))) fun t35_2 =>
  Do (aPick t28_2 t35_2 (.val (.bool false))) fun t36_2 =>
  Do (aGuard t36_2 true (aIs t30_2)) fun t38_2 =>
  Do (aGuard t36_2 true (aIndexAddr .slice 4 t38_2 (.val (.int .i64 0)))) fun t39_2 =>
  Do (aGuard t36_2 true (aFieldAddr 3 1 t39_2)) fun t40_2 =>
  Do (aGuard t36_2 true (loadA false 1 t40_2 σ_24)) fun t41_2 =>
  Do (aGuard t36_2 true (aBin Go.Proofs.Try.prog .eql 3 t41_2 (.val (.int .i64 3)))) fun t42_2 =>
  Do (aPick t36_2 t42_2 (.val (.bool false))) fun t43_2 =>
  Do (aGuard t43_2 true (aIs t30_2)) fun t45_2 =>
  Do (aGuard t43_2 true (aIndexAddr .slice 4 t45_2 (.val (.int .i64 1)))) fun t46_2 =>
  Do (aGuard t43_2 true (aFieldAddr 3 1 t46_2)) fun t47_2 =>
  Do (aGuard t43_2 true (loadA false 1 t47_2 σ_24)) fun t48_2 =>
  Do (aGuard t43_2 true (aBin Go.Proofs.Try.prog .eql 3 t48_2 (.val (.int .i64 2)))) fun t49_2 =>
  Do (aPick t43_2 t49_2 (.val (.bool false))) fun t50_2 =>
  Do (aGuard t50_2 true (aIs t4)) fun t52_2 =>
  GEff t50_2 true (aCall Go.Proofs.Try.prog 14 [t52_2] σ_24 (fun t53_2 σ_25 =>
    Do (aGuard t50_2 true (aBin Go.Proofs.Try.prog .eql 3 t53_2 (.val (.int .i64 3)))) fun t54_4 =>
  Do (aPick t50_2 t54_4 (.val (.bool false))) fun t55_4 =>
  Do (aGuard t55_4 true (aIs t4)) fun t57_4 =>
  GEff t55_4 true (aCall Go.Proofs.Try.prog 12 [t57_4] σ_25 (fun t58_4 σ_26 =>
    Do (aGuard t55_4 true (aBin Go.Proofs.Try.prog .eql 3 t58_4 (.val (.int .i64 2)))) fun t59_8 =>
  Do (aPick t55_4 t59_8 (.val (.bool false))) fun t60_8 =>
  Q (.ret t60_8) σ_26) (fun e_10 σ_27 => Q (.pan e_10) σ_27))
  (Do (aGuard t55_4 true (aBin Go.Proofs.Try.prog .eql 3 (.val Go.undef) (.val (.int .i64 2)))) fun t59_9 =>
  Do (aPick t55_4 t59_9 (.val (.bool false))) fun t60_9 =>
  Q (.ret t60_9) σ_25)) (fun e_11 σ_28 => Q (.pan e_11) σ_28))
  (Do (aGuard t50_2 true (aBin Go.Proofs.Try.prog .eql 3 (.val Go.undef) (.val (.int .i64 3)))) fun t54_5 =>
  Do (aPick t50_2 t54_5 (.val (.bool false))) fun t55_5 =>
  Do (aGuard t55_5 true (aIs t4)) fun t57_5 =>
  GEff t55_5 true (aCall Go.Proofs.Try.prog 12 [t57_5] σ_24 (fun t58_5 σ_29 =>
    Do (aGuard t55_5 true (aBin Go.Proofs.Try.prog .eql 3 t58_5 (.val (.int .i64 2)))) fun t59_10 =>
  Do (aPick t55_5 t59_10 (.val (.bool false))) fun t60_10 =>
  Q (.ret t60_10) σ_29) (fun e_12 σ_30 => Q (.pan e_12) σ_30))
  (Do (aGuard t55_5 true (aBin Go.Proofs.Try.prog .eql 3 (.val Go.undef) (.val (.int .i64 2)))) fun t59_11 =>
  Do (aPick t55_5 t59_11 (.val (.bool false))) fun t60_11 =>
  Q (.ret t60_11) σ_24))) (fun e_13 σ_31 => Q (.pan e_13) σ_31)) (fun e_14 σ_32 => Q (.pan e_14) σ_32))
  (Do (aGuard t22_1 true (aBin Go.Proofs.Try.prog .eql 25 (.val Go.undef) (.val (.int .i64 1)))) fun t27_3 =>
  Do (aPick t22_1 t27_3 (.val (.bool false))) fun t28_3 =>
  aCall Go.Proofs.Try.prog 25 [t4] σ_2 (fun t30_3 σ_33 =>
  Do (aGuard t28_3 true (aIs t30_3)) fun t33_3 =>
  Do (aGuard t28_3 true (aBuiltin Go.Proofs.Try.prog .len #[39] [t33_3])) fun t34_3 =>
  Do (aGuard t28_3 true (aBin Go.Proofs.Try.prog .eql 3 t34_3 (.val (.int .i64 2)))) fun t35_3 =>
  Do (aPick t28_3 t35_3 (.val (.bool false))) fun t36_3 =>
  Do (aGuard t36_3 true (aIs t30_3)) fun t38_3 =>
  Do (aGuard t36_3 true (aIndexAddr .slice 4 t38_3 (.val (.int .i64 0)))) fun t39_3 =>
  Do (aGuard t36_3 true (aFieldAddr 3 1 t39_3)) fun t40_3 =>
  Do (aGuard t36_3 true (loadA false 1 t40_3 σ_33)) fun t41_3 =>
  Do (aGuard t36_3 true (aBin Go.Proofs.Try.prog .eql 3 t41_3 (.val (.int .i64 3)))) fun t42_3 =>
  Do (aPick t36_3 t42_3 (.val (.bool false))) fun t43_3 =>
  Do (aGuard t43_3 true (aIs t30_3)) fun t45_3 =>
  Do (aGuard t43_3 true (aIndexAddr .slice 4 t45_3 (.val (.int .i64 1)))) fun t46_3 =>
  Do (aGuard t43_3 true (aFieldAddr 3 1 t46_3)) fun t47_3 =>
  Do (aGuard t43_3 true (loadA false 1 t47_3 σ_33)) fun t48_3 =>
  Do (aGuard t43_3 true (aBin Go.Proofs.Try.prog .eql 3 t48_3 (.val (.int .i64 2)))) fun t49_3 =>
  Do (aPick t43_3 t49_3 (.val (.bool false))) fun t50_3 =>
  Do (aGuard t50_3 true (aIs t4)) fun t52_3 =>
  GEff t50_3 true (aCall Go.Proofs.Try.prog 14 [t52_3] σ_33 (fun t53_3 σ_34 =>
    Do (aGuard t50_3 true (aBin Go.Proofs.Try.prog .eql 3 t53_3 (.val (.int .i64 3)))) fun t54_6 =>
  Do (aPick t50_3 t54_6 (.val (.bool false))) fun t55_6 =>
  Do (aGuard t55_6 true (aIs t4)) fun t57_6 =>
  GEff t55_6 true (aCall Go.Proofs.Try.prog 12 [t57_6] σ_34 (fun t58_6 σ_35 =>
    Do (aGuard t55_6 true (aBin Go.Proofs.Try.prog .eql 3 t58_6 (.val (.int .i64 2)))) fun t59_12 =>
  Do (aPick t55_6 t59_12 (.val (.bool false))) fun t60_12 =>
  Q (.ret t60_12) σ_35) (fun e_15 σ_36 => Q (.pan e_15) σ_36))
  (Do (aGuard t55_6 true (aBin Go.Proofs.Try.prog .eql 3 (.val Go.undef) (.val (.int .i64 2)))) fun t59_13 =>
  Do (aPick t55_6 t59_13 (.val (.bool false))) fun t60_13 =>
  Q (.ret t60_13) σ_34)) (fun e_16 σ_37 => Q (.pan e_16) σ_37))
  (Do (aGuard t50_3 true (aBin Go.Proofs.Try.prog .eql 3 (.val Go.undef) (.val (.int .i64 3)))) fun t54_7 =>
  Do (aPick t50_3 t54_7 (.val (.bool false))) fun t55_7 =>
  Do (aGuard t55_7 true (aIs t4)) fun t57_7 =>
  GEff t55_7 true (aCall Go.Proofs.Try.prog 12 [t57_7] σ_33 (fun t58_7 σ_38 =>
    Do (aGuard t55_7 true (aBin Go.Proofs.Try.prog .eql 3 t58_7 (.val (.int .i64 2)))) fun t59_14 =>
  Do (aPick t55_7 t59_14 (.val (.bool false))) fun t60_14 =>
  Q (.ret t60_14) σ_38) (fun e_17 σ_39 => Q (.pan e_17) σ_39))
  (Do (aGuard t55_7 true (aBin Go.Proofs.Try.prog .eql 3 (.val Go.undef) (.val (.int .i64 2)))) fun t59_15 =>
  Do (aPick t55_7 t59_15 (.val (.bool false))) fun t60_15 =>
  Q (.ret t60_15) σ_33))) (fun e_18 σ_40 => Q (.pan e_18) σ_40)))) (fun e_19 σ_41 => Q (.pan e_19) σ_41))
  (Do (aGuard t10 true (aBin Go.Proofs.Try.prog .eql 25 (.val Go.undef) (.val (.int .i64 0)))) fun t15_1 =>
  Do (aPick t10 t15_1 (.val (.bool false))) fun t16_1 =>
  Do (aGuard t16_1 true (aIs t4)) fun t18_1 =>
  Do (aGuard t16_1 true (aLit [.val (.string ⟨#[]⟩), .val (.string ⟨#[]⟩), .val (.bool false), .val (.int .i64 0)] [(0, 1), (1, 1), (2, 1), (3, 1)] [(0, (.val (.string ⟨#[97]⟩))), (3, (.val (.int .i64 3)))])) fun t19_1 =>
  GEff t16_1 true (aCall Go.Proofs.Try.prog 11 [t18_1, t19_1] σ_1 (fun t20_1 σ_42 =>
    Do (aGuard t16_1 true (aBin Go.Proofs.Try.prog .eql 25 t20_1 (.val (.int .i64 0)))) fun t21_2 =>
  Do (aPick t16_1 t21_2 (.val (.bool false))) fun t22_2 =>
  Do (aGuard t22_2 true (aIs t4)) fun t24_2 =>
  Do (aGuard t22_2 true (aLit [.val (.string ⟨#[]⟩), .val (.string ⟨#[]⟩), .val (.bool false), .val (.int .i64 0)] [(0, 1), (1, 1), (2, 1), (3, 1)] [(0, (.val (.string ⟨#[99]⟩))), (3, (.val (.int .i64 3)))])) fun t25_2 =>
  GEff t22_2 true (aCall Go.Proofs.Try.prog 11 [t24_2, t25_2] σ_42 (fun t26_2 σ_43 =>
    Do (aGuard t22_2 true (aBin Go.Proofs.Try.prog .eql 25 t26_2 (.val (.int .i64 1)))) fun t27_4 =>
  Do (aPick t22_2 t27_4 (.val (.bool false))) fun t28_4 =>
  aCall Go.Proofs.Try.prog 25 [t4] σ_43 (fun t30_4 σ_44 =>
  Do (aGuard t28_4 true (aIs t30_4)) fun t33_4 =>
  Do (aGuard t28_4 true (aBuiltin Go.Proofs.Try.prog .len #[39] [t33_4])) fun t34_4 =>
  Do (aGuard t28_4 true (aBin Go.Proofs.Try.prog .eql 3 t34_4 (.val (.int .i64 2)))) fun t35_4 =>
  Do (aPick t28_4 t35_4 (.val (.bool false))) fun t36_4 =>
  Do (aGuard t36_4 true (aIs t30_4)) fun t38_4 =>
  Do (aGuard t36_4 true (aIndexAddr .slice 4 t38_4 (.val (.int .i64 0)))) fun t39_4 =>
  Do (aGuard t36_4 true (aFieldAddr 3 1 t39_4)) fun t40_4 =>
  Do (aGuard t36_4 true (loadA false 1 t40_4 σ_44)) fun t41_4 =>
  Do (aGuard t36_4 true (aBin Go.Proofs.Try.prog .eql 3 t41_4 (.val (.int .i64 3)))) fun t42_4 =>
  Do (aPick t36_4 t42_4 (.val (.bool false))) fun t43_4 =>
  Do (aGuard t43_4 true (aIs t30_4)) fun t45_4 =>
  Do (aGuard t43_4 true (aIndexAddr .slice 4 t45_4 (.val (.int .i64 1)))) fun t46_4 =>
  Do (aGuard t43_4 true (aFieldAddr 3 1 t46_4)) fun t47_4 =>
  Do (aGuard t43_4 true (loadA false 1 t47_4 σ_44)) fun t48_4 =>
  Do (aGuard t43_4 true (aBin Go.Proofs.Try.prog .eql 3 t48_4 (.val (.int .i64 2)))) fun t49_4 =>
  Do (aPick t43_4 t49_4 (.val (.bool false))) fun t50_4 =>
  Do (aGuard t50_4 true (aIs t4)) fun t52_4 =>
  GEff t50_4 true (aCall Go.Proofs.Try.prog 14 [t52_4] σ_44 (fun t53_4 σ_45 =>
    Do (aGuard t50_4 true (aBin Go.Proofs.Try.prog .eql 3 t53_4 (.val (.int .i64 3)))) fun t54_8 =>
  Do (aPick t50_4 t54_8 (.val (.bool false))) fun t55_8 =>
  Do (aGuard t55_8 true (aIs t4)) fun t57_8 =>
  GEff t55_8 true (aCall Go.Proofs.Try.prog 12 [t57_8] σ_45 (fun t58_8 σ_46 =>
    Do (aGuard t55_8 true (aBin Go.Proofs.Try.prog .eql 3 t58_8 (.val (.int .i64 2)))) fun t59_16 =>
  Do (aPick t55_8 t59_16 (.val (.bool false))) fun t60_16 =>
  Q (.ret t60_16) σ_46) (fun e_20 σ_47 => Q (.pan e_20) σ_47))
  (Do (aGuard t55_8 true (aBin Go.Proofs.Try.prog .eql 3 (.val Go.undef) (.val (.int .i64 2)))) fun t59_17 =>
  Do (aPick t55_8 t59_17 (.val (.bool false))) fun t60_17 =>
  Q (.ret t60_17) σ_45)) (fun e_21 σ_48 => Q (.pan e_21) σ_48))
  (Do (aGuard t50_4 true (aBin Go.Proofs.Try.prog .eql 3 (.val Go.undef) (.val (.int .i64 3)))) fun t54_9 =>
  Do (aPick t50_4 t54_9 (.val (.bool false))) fun t55_9 =>
  Do (aGuard t55_9 true (aIs t4)) fun t57_9 =>
  GEff t55_9 true (aCall Go.Proofs.Try.prog 12 [t57_9] σ_44 (fun t58_9 σ_49 =>
    Do (aGuard t55_9 true (aBin Go.Proofs.Try.prog .eql 3 t58_9 (.val (.int .i64 2)))) fun t59_18 =>
  Do (aPick t55_9 t59_18 (.val (.bool false))) fun t60_18 =>
  Q (.ret t60_18) σ_49) (fun e_22 σ_50 => Q (.pan e_22) σ_50))
  (Do (aGuard t55_9 true (aBin Go.Proofs.Try.prog .eql 3 (.val Go.undef) (.val (.int .i64 2)))) fun t59_19 =>
  Do (aPick t55_9 t59_19 (.val (.bool false))) fun t60_19 =>
  Q (.ret t60_19) σ_44))) (fun e_23 σ_51 => Q (.pan e_23) σ_51)) (fun e_24 σ_52 => Q (.pan e_24) σ_52))
  (Do (aGuard t22_2 true (aBin Go.Proofs.Try.prog .eql 25 (.val Go.undef) (.val (.int .i64 1)))) fun t27_5 =>
  Do (aPick t22_2 t27_5 (.val (.bool false))) fun t28_5 =>
  aCall Go.Proofs.Try.prog 25 [t4] σ_42 (fun t30_5 σ_53 =>
  Do (aGuard t28_5 true (aIs t30_5)) fun t33_5 =>
  Do (aGuard t28_5 true (aBuiltin Go.Proofs.Try.prog .len #[39] [t33_5])) fun t34_5 =>
  Do (aGuard t28_5 true (aBin Go.Proofs.Try.prog .eql 3 t34_5 (.val (.int .i64 2)))) fun t35_5 =>
  Do (aPick t28_5 t35_5 (.val (.bool false))) fun t36_5 =>
  Do (aGuard t36_5 true (aIs t30_5)) fun t38_5 =>
  Do (aGuard t36_5 true (aIndexAddr .slice 4 t38_5 (.val (.int .i64 0)))) fun t39_5 =>
  Do (aGuard t36_5 true (aFieldAddr 3 1 t39_5)) fun t40_5 =>
  Do (aGuard t36_5 true (loadA false 1 t40_5 σ_53)) fun t41_5 =>
  Do (aGuard t36_5 true (aBin Go.Proofs.Try.prog .eql 3 t41_5 (.val (.int .i64 3)))) fun t42_5 =>
  Do (aPick t36_5 t42_5 (.val (.bool false))) fun t43_5 =>
  Do (aGuard t43_5 true (aIs t30_5)) fun t45_5 =>
  Do (aGuard t43_5 true (aIndexAddr .slice 4 t45_5 (.val (.int .i64 1)))) fun t46_5 =>
  Do (aGuard t43_5 true (aFieldAddr 3 1 t46_5)) fun t47_5 =>
  Do (aGuard t43_5 true (loadA false 1 t47_5 σ_53)) fun t48_5 =>
  Do (aGuard t43_5 true (aBin Go.Proofs.Try.prog .eql 3 t48_5 (.val (.int .i64 2)))) fun t49_5 =>
  Do (aPick t43_5 t49_5 (.val (.bool false))) fun t50_5 =>
  Do (aGuard t50_5 true (aIs t4)) fun t52_5 =>
  GEff t50_5 true (aCall Go.Proofs.Try.prog 14 [t52_5] σ_53 (fun t53_5 σ_54 =>
    Do (aGuard t50_5 true (aBin Go.Proofs.Try.prog .eql 3 t53_5 (.val (.int .i64 3)))) fun t54_10 =>
  Do (aPick t50_5 t54_10 (.val (.bool false))) fun t55_10 =>
  Do (aGuard t55_10 true (aIs t4)) fun t57_10 =>
  GEff t55_10 true (aCall Go.Proofs.Try.prog 12 [t57_10] σ_54 (fun t58_10 σ_55 =>
    Do (aGuard t55_10 true (aBin Go.Proofs.Try.prog .eql 3 t58_10 (.val (.int .i64 2)))) fun t59_20 =>
  Do (aPick t55_10 t59_20 (.val (.bool false))) fun t60_20 =>
  Q (.ret t60_20) σ_55) (fun e_25 σ_56 => Q (.pan e_25) σ_56))
  (Do (aGuard t55_10 true (aBin Go.Proofs.Try.prog .eql 3 (.val Go.undef) (.val (.int .i64 2)))) fun t59_21 =>
  Do (aPick t55_10 t59_21 (.val (.bool false))) fun t60_21 =>
  Q (.ret t60_21) σ_54)) (fun e_26 σ_57 => Q (.pan e_26) σ_57))
  (Do (aGuard t50_5 true (aBin Go.Proofs.Try.prog .eql 3 (.val Go.undef) (.val (.int .i64 3)))) fun t54_11 =>
  Do (aPick t50_5 t54_11 (.val (.bool false))) fun t55_11 =>
  Do (aGuard t55_11 true (aIs t4)) fun t57_11 =>
  GEff t55_11 true (aCall Go.Proofs.Try.prog 12 [t57_11] σ_53 (fun t58_11 σ_58 =>
    Do (aGuard t55_11 true (aBin Go.Proofs.Try.prog .eql 3 t58_11 (.val (.int .i64 2)))) fun t59_22 =>
  Do (aPick t55_11 t59_22 (.val (.bool false))) fun t60_22 =>
  Q (.ret t60_22) σ_58) (fun e_27 σ_59 => Q (.pan e_27) σ_59))
  (Do (aGuard t55_11 true (aBin Go.Proofs.Try.prog .eql 3 (.val Go.undef) (.val (.int .i64 2)))) fun t59_23 =>
  Do (aPick t55_11 t59_23 (.val (.bool false))) fun t60_23 =>
  Q (.ret t60_23) σ_53))) (fun e_28 σ_60 => Q (.pan e_28) σ_60))) (fun e_29 σ_61 => Q (.pan e_29) σ_61))
  (Do (aGuard t16_1 true (aBin Go.Proofs.Try.prog .eql 25 (.val Go.undef) (.val (.int .i64 0)))) fun t21_3 =>
  Do (aPick t16_1 t21_3 (.val (.bool false))) fun t22_3 =>
  Do (aGuard t22_3 true (aIs t4)) fun t24_3 =>
  Do (aGuard t22_3 true (aLit [.val (.string ⟨#[]⟩), .val (.string ⟨#[]⟩), .val (.bool false), .val (.int .i64 0)] [(0, 1), (1, 1), (2, 1), (3, 1)] [(0, (.val (.string ⟨#[99]⟩))), (3, (.val (.int .i64 3)))])) fun t25_3 =>
  GEff t22_3 true (aCall Go.Proofs.Try.prog 11 [t24_3, t25_3] σ_1 (fun t26_3 σ_62 =>
    Do (aGuard t22_3 true (aBin Go.Proofs.Try.prog .eql 25 t26_3 (.val (.int .i64 1)))) fun t27_6 =>
  Do (aPick t22_3 t27_6 (.val (.bool false))) fun t28_6 =>
  aCall Go.Proofs.Try.prog 25 [t4] σ_62 (fun t30_6 σ_63 =>
  Do (aGuard t28_6 true (aIs t30_6)) fun t33_6 =>
  Do (aGuard t28_6 true (aBuiltin Go.Proofs.Try.prog .len #[39] [t33_6])) fun t34_6 =>
  Do (aGuard t28_6 true (aBin Go.Proofs.Try.prog .eql 3 t34_6 (.val (.int .i64 2)))) fun t35_6 =>
  Do (aPick t28_6 t35_6 (.val (.bool false))) fun t36_6 =>
  Do (aGuard t36_6 true (aIs t30_6)) fun t38_6 =>
  Do (aGuard t36_6 true (aIndexAddr .slice 4 t38_6 (.val (.int .i64 0)))) fun t39_6 =>
  Do (aGuard t36_6 true (aFieldAddr 3 1 t39_6)) fun t40_6 =>
  Do (aGuard t36_6 true (loadA false 1 t40_6 σ_63)) fun t41_6 =>
  Do (aGuard t36_6 true (aBin Go.Proofs.Try.prog .eql 3 t41_6 (.val (.int .i64 3)))) fun t42_6 =>
  Do (aPick t36_6 t42_6 (.val (.bool false))) fun t43_6 =>
  Do (aGuard t43_6 true (aIs t30_6)) fun t45_6 =>
  Do (aGuard t43_6 true (aIndexAddr .slice 4 t45_6 (.val (.int .i64 1)))) fun t46_6 =>
  Do (aGuard t43_6 true (aFieldAddr 3 1 t46_6)) fun t47_6 =>
  Do (aGuard t43_6 true (loadA false 1 t47_6 σ_63)) fun t48_6 =>
  Do (aGuard t43_6 true (aBin Go.Proofs.Try.prog .eql 3 t48_6 (.val (.int .i64 2)))) fun t49_6 =>
  Do (aPick t43_6 t49_6 (.val (.bool false))) fun t50_6 =>
  Do (aGuard t50_6 true (aIs t4)) fun t52_6 =>
  GEff t50_6 true (aCall Go.Proofs.Try.prog 14 [t52_6] σ_63 (fun t53_6 σ_64 =>
    Do (aGuard t50_6 true (aBin Go.Proofs.Try.prog .eql 3 t53_6 (.val (.int .i64 3)))) fun t54_12 =>
  Do (aPick t50_6 t54_12 (.val (.bool false))) fun t55_12 =>
  Do (aGuard t55_12 true (aIs t4)) fun t57_12 =>
  GEff t55_12 true (aCall Go.Proofs.Try.prog 12 [t57_12] σ_64 (fun t58_12 σ_65 =>
    Do (aGuard t55_12 true (aBin Go.Proofs.Try.prog .eql 3 t58_12 (.val (.int .i64 2)))) fun t59_24 =>
  Do (aPick t55_12 t59_24 (.val (.bool false))) fun t60_24 =>
  Q (.ret t60_24) σ_65) (fun e_30 σ_66 => Q (.pan e_30) σ_66))
  (Do (aGuard t55_12 true (aBin Go.Proofs.Try.prog .eql 3 (.val Go.undef) (.val (.int .i64 2)))) fun t59_25 =>
  Do (aPick t55_12 t59_25 (.val (.bool false))) fun t60_25 =>
  Q (.ret t60_25) σ_64)) (fun e_31 σ_67 => Q (.pan e_31) σ_67))
  (Do (aGuard t50_6 true (aBin Go.Proofs.Try.prog .eql 3 (.val Go.undef) (.val (.int .i64 3)))) fun t54_13 =>
  Do (aPick t50_6 t54_13 (.val (.bool false))) fun t55_13 =>
  Do (aGuard t55_13 true (aIs t4)) fun t57_13 =>
  GEff t55_13 true (aCall Go.Proofs.Try.prog 12 [t57_13] σ_63 (fun t58_13 σ_68 =>
    Do (aGuard t55_13 true (aBin Go.Proofs.Try.prog .eql 3 t58_13 (.val (.int .i64 2)))) fun t59_26 =>
  Do (aPick t55_13 t59_26 (.val (.bool false))) fun t60_26 =>
  Q (.ret t60_26) σ_68) (fun e_32 σ_69 => Q (.pan e_32) σ_69))
  (Do (aGuard t55_13 true (aBin Go.Proofs.Try.prog .eql 3 (.val Go.undef) (.val (.int .i64 2)))) fun t59_27 =>
  Do (aPick t55_13 t59_27 (.val (.bool false))) fun t60_27 =>
  Q (.ret t60_27) σ_63))) (fun e_33 σ_70 => Q (.pan e_33) σ_70)) (fun e_34 σ_71 => Q (.pan e_34) σ_71))
  (Do (aGuard t22_3 true (aBin Go.Proofs.Try.prog .eql 25 (.val Go.undef) (.val (.int .i64 1)))) fun t27_7 =>
  Do (aPick t22_3 t27_7 (.val (.bool false))) fun t28_7 =>
  aCall Go.Proofs.Try.prog 25 [t4] σ_1 (fun t30_7 σ_72 =>
  Do (aGuard t28_7 true (aIs t30_7)) fun t33_7 =>
  Do (aGuard t28_7 true (aBuiltin Go.Proofs.Try.prog .len #[39] [t33_7])) fun t34_7 =>
  Do (aGuard t28_7 true (aBin Go.Proofs.Try.prog .eql 3 t34_7 (.val (.int .i64 2)))) fun t35_7 =>
  Do (aPick t28_7 t35_7 (.val (.bool false))) fun t36_7 =>
  Do (aGuard t36_7 true (aIs t30_7)) fun t38_7 =>
  Do (aGuard t36_7 true (aIndexAddr .slice 4 t38_7 (.val (.int .i64 0)))) fun t39_7 =>
  Do (aGuard t36_7 true (aFieldAddr 3 1 t39_7)) fun t40_7 =>
  Do (aGuard t36_7 true (loadA false 1 t40_7 σ_72)) fun t41_7 =>
  Do (aGuard t36_7 true (aBin Go.Proofs.Try.prog .eql 3 t41_7 (.val (.int .i64 3)))) fun t42_7 =>
  Do (aPick t36_7 t42_7 (.val (.bool false))) fun t43_7 =>
  Do (aGuard t43_7 true (aIs t30_7)) fun t45_7 =>
  Do (aGuard t43_7 true (aIndexAddr .slice 4 t45_7 (.val (.int .i64 1)))) fun t46_7 =>
  Do (aGuard t43_7 true (aFieldAddr 3 1 t46_7)) fun t47_7 =>
  Do (aGuard t43_7 true (loadA false 1 t47_7 σ_72)) fun t48_7 =>
  Do (aGuard t43_7 true (aBin Go.Proofs.Try.prog .eql 3 t48_7 (.val (.int .i64 2)))) fun t49_7 =>
  Do (aPick t43_7 t49_7 (.val (.bool false))) fun t50_7 =>
  Do (aGuard t50_7 true (aIs t4)) fun t52_7 =>
  GEff t50_7 true (aCall Go.Proofs.Try.prog 14 [t52_7] σ_72 (fun t53_7 σ_73 =>
    Do (aGuard t50_7 true (aBin Go.Proofs.Try.prog .eql 3 t53_7 (.val (.int .i64 3)))) fun t54_14 =>
  Do (aPick t50_7 t54_14 (.val (.bool false))) fun t55_14 =>
  Do (aGuard t55_14 true (aIs t4)) fun t57_14 =>
  GEff t55_14 true (aCall Go.Proofs.Try.prog 12 [t57_14] σ_73 (fun t58_14 σ_74 =>
    Do (aGuard t55_14 true (aBin Go.Proofs.Try.prog .eql 3 t58_14 (.val (.int .i64 2)))) fun t59_28 =>
  Do (aPick t55_14 t59_28 (.val (.bool false))) fun t60_28 =>
  Q (.ret t60_28) σ_74) (fun e_35 σ_75 => Q (.pan e_35) σ_75))
  (Do (aGuard t55_14 true (aBin Go.Proofs.Try.prog .eql 3 (.val Go.undef) (.val (.int .i64 2)))) fun t59_29 =>
  Do (aPick t55_14 t59_29 (.val (.bool false))) fun t60_29 =>
  Q (.ret t60_29) σ_73)) (fun e_36 σ_76 => Q (.pan e_36) σ_76))
  (Do (aGuard t50_7 true (aBin Go.Proofs.Try.prog .eql 3 (.val Go.undef) (.val (.int .i64 3)))) fun t54_15 =>
  Do (aPick t50_7 t54_15 (.val (.bool false))) fun t55_15 =>
  Do (aGuard t55_15 true (aIs t4)) fun t57_15 =>
  GEff t55_15 true (aCall Go.Proofs.Try.prog 12 [t57_15] σ_72 (fun t58_15 σ_77 =>
    Do (aGuard t55_15 true (aBin Go.Proofs.Try.prog .eql 3 t58_15 (.val (.int .i64 2)))) fun t59_30 =>
  Do (aPick t55_15 t59_30 (.val (.bool false))) fun t60_30 =>
  Q (.ret t60_30) σ_77) (fun e_37 σ_78 => Q (.pan e_37) σ_78))
  (Do (aGuard t55_15 true (aBin Go.Proofs.Try.prog .eql 3 (.val Go.undef) (.val (.int .i64 2)))) fun t59_31 =>
  Do (aPick t55_15 t59_31 (.val (.bool false))) fun t60_31 =>
  Q (.ret t60_31) σ_72))) (fun e_38 σ_79 => Q (.pan e_38) σ_79))))) (fun e_39 σ_80 => Q (.pan e_39) σ_80))) (fun e_40 σ_81 => Q (.pan e_40) σ_81)
theorem law10_shown.eq (σ : Store) (Q : AEnd → Store → Prop) : vc (semOf Go.Proofs.Try.prog law10_shown.mark) Go.Proofs.Try.f9.ntmps law10_shown.ann (bodyOf Go.Proofs.Try.f9) (endK [.tmp 0] Q) (argFr []) σ = law10_shown.sh  σ Q := by kernel_rfl
theorem law10_shown.go {σ : Store} {Q : AEnd → Store → Prop} (h : law10_shown.sh  σ Q) : ACalls Go.Proofs.Try.prog 9 [] σ Q :=
  acalls_of_eq [.tmp 0] Go.Proofs.Try.func9 (by kernel_rfl) (by kernel_rfl) (by kernel_rfl) (by kernel_rfl) (law10_shown.eq  σ Q) h
theorem cut10_ok (e : En) : aPure Go.Proofs.Try.prog 16 [e.av] (cutE 130 1030 e).av := by
  refine ACalls.fin (law10_cut.go ?_)
  unfold law10_cut.sh
  repeat' (first | with_reducible apply Stp.go | with_reducible refine imp fun _ => ?_ | (with_reducible refine hyp ?_ ?_; first | assumption | exact leftT_mem (by assumption)) | (with_reducible refine need ?_ ?_; first | trivial | omega | exact ⟨by assumption, by omega⟩ | (simp only [List.length_append, List.length_cons, List.length_nil, List.length_map, List.length_take, List.length_drop, List.length_replicate, List.length_set]; omega)) | (with_reducible refine fact ?_ ?_; first | trivial | exact ⟨rfl, rfl⟩ | kernel_rfl) | with_reducible refine choT (by assumption) ?_ | with_reducible refine choF (by assumption) ?_ | with_reducible refine choF' (by assumption) ?_ | (with_reducible refine altT ?_ ?_; first | omega | (simp only [List.length_append, List.length_cons, List.length_nil, List.length_map, List.length_take, List.length_drop, List.length_replicate, List.length_set]; omega)) | with_reducible refine altF ?_ | with_reducible refine all fun _ => ?_ | with_reducible refine both ?_ ?_ | (with_reducible refine choT ?_ ?_; omega) | (with_reducible refine choF ?_ ?_; omega) | with_reducible refine cho (fun _ => ?_) (fun _ => ?_))
  exact ⟨_, _, _, rfl, subS _, by rw [take_minN, take_minN]; rfl, rfl⟩
instance {e : En} : PC Go.Proofs.Try.prog 16 [e.av] True (cutE 130 1030 e).av := ⟨fun _ => PC.of (cut10_ok e)⟩
theorem shown10_ok : aPure Go.Proofs.Try.prog 9 [] (B true) := by
  refine ACalls.fin (law10_shown.go ?_)
  unfold law10_shown.sh
  have i0 := memI0 0
  have i1 := putI (e := ⟨[97], [], false, 1⟩) i0
  have i2 := putI (e := ⟨[98], [], false, 2⟩) i1
  have i3 := putI (e := ⟨[97], [], false, 3⟩) i2
  have i4 := putI (e := ⟨[99], [], false, 3⟩) i3
  have x1 : putX [] 0 ⟨[97], [], false, 1⟩ = 0 := by decide +kernel
  have x2 : putX (putL [] 0 ⟨[97], [], false, 1⟩) (putS [] 0 ⟨[97], [], false, 1⟩) ⟨[98], [], false, 2⟩ = 0 := by decide +kernel
  have x3 : putX (putL (putL [] 0 ⟨[97], [], false, 1⟩) (putS [] 0 ⟨[97], [], false, 1⟩) ⟨[98], [], false, 2⟩) (putS (putL [] 0 ⟨[97], [], false, 1⟩) (putS [] 0 ⟨[97], [], false, 1⟩) ⟨[98], [], false, 2⟩) ⟨[97], [], false, 3⟩ = 0 := by decide +kernel
  have x4 : putX (putL (putL (putL [] 0 ⟨[97], [], false, 1⟩) (putS [] 0 ⟨[97], [], false, 1⟩) ⟨[98], [], false, 2⟩) (putS (putL [] 0 ⟨[97], [], false, 1⟩) (putS [] 0 ⟨[97], [], false, 1⟩) ⟨[98], [], false, 2⟩) ⟨[97], [], false, 3⟩) (putS (putL (putL [] 0 ⟨[97], [], false, 1⟩) (putS [] 0 ⟨[97], [], false, 1⟩) ⟨[98], [], false, 2⟩) (putS (putL [] 0 ⟨[97], [], false, 1⟩) (putS [] 0 ⟨[97], [], false, 1⟩) ⟨[98], [], false, 2⟩) ⟨[97], [], false, 3⟩) ⟨[99], [], false, 3⟩ = 1 := by decide +kernel
  have y1 : (putL (putL (putL (putL [] 0 ⟨[97], [], false, 1⟩) (putS [] 0 ⟨[97], [], false, 1⟩) ⟨[98], [], false, 2⟩) (putS (putL [] 0 ⟨[97], [], false, 1⟩) (putS [] 0 ⟨[97], [], false, 1⟩) ⟨[98], [], false, 2⟩) ⟨[97], [], false, 3⟩) (putS (putL (putL [] 0 ⟨[97], [], false, 1⟩) (putS [] 0 ⟨[97], [], false, 1⟩) ⟨[98], [], false, 2⟩) (putS (putL [] 0 ⟨[97], [], false, 1⟩) (putS [] 0 ⟨[97], [], false, 1⟩) ⟨[98], [], false, 2⟩) ⟨[97], [], false, 3⟩) ⟨[99], [], false, 3⟩).length = 2 := by decide +kernel
  have y2 : ((putL (putL (putL (putL [] 0 ⟨[97], [], false, 1⟩) (putS [] 0 ⟨[97], [], false, 1⟩) ⟨[98], [], false, 2⟩) (putS (putL [] 0 ⟨[97], [], false, 1⟩) (putS [] 0 ⟨[97], [], false, 1⟩) ⟨[98], [], false, 2⟩) ⟨[97], [], false, 3⟩) (putS (putL (putL [] 0 ⟨[97], [], false, 1⟩) (putS [] 0 ⟨[97], [], false, 1⟩) ⟨[98], [], false, 2⟩) (putS (putL [] 0 ⟨[97], [], false, 1⟩) (putS [] 0 ⟨[97], [], false, 1⟩) ⟨[98], [], false, 2⟩) ⟨[97], [], false, 3⟩) ⟨[99], [], false, 3⟩).getD 0 default).seq = 3 := by decide +kernel
  have y3 : ((putL (putL (putL (putL [] 0 ⟨[97], [], false, 1⟩) (putS [] 0 ⟨[97], [], false, 1⟩) ⟨[98], [], false, 2⟩) (putS (putL [] 0 ⟨[97], [], false, 1⟩) (putS [] 0 ⟨[97], [], false, 1⟩) ⟨[98], [], false, 2⟩) ⟨[97], [], false, 3⟩) (putS (putL (putL [] 0 ⟨[97], [], false, 1⟩) (putS [] 0 ⟨[97], [], false, 1⟩) ⟨[98], [], false, 2⟩) (putS (putL [] 0 ⟨[97], [], false, 1⟩) (putS [] 0 ⟨[97], [], false, 1⟩) ⟨[98], [], false, 2⟩) ⟨[97], [], false, 3⟩) ⟨[99], [], false, 3⟩).getD 1 default).seq = 2 := by decide +kernel
  have y4 : putS (putL (putL (putL [] 0 ⟨[97], [], false, 1⟩) (putS [] 0 ⟨[97], [], false, 1⟩) ⟨[98], [], false, 2⟩) (putS (putL [] 0 ⟨[97], [], false, 1⟩) (putS [] 0 ⟨[97], [], false, 1⟩) ⟨[98], [], false, 2⟩) ⟨[97], [], false, 3⟩) (putS (putL (putL [] 0 ⟨[97], [], false, 1⟩) (putS [] 0 ⟨[97], [], false, 1⟩) ⟨[98], [], false, 2⟩) (putS (putL [] 0 ⟨[97], [], false, 1⟩) (putS [] 0 ⟨[97], [], false, 1⟩) ⟨[98], [], false, 2⟩) ⟨[97], [], false, 3⟩) ⟨[99], [], false, 3⟩ = 3 := by decide +kernel
  have ht : (true : Bool) = true := rfl
  repeat' (first | with_reducible apply Stp.go | with_reducible refine imp fun _ => ?_ | (with_reducible refine hyp ?_ ?_; first | assumption | exact leftT_mem (by assumption)) | (with_reducible refine need ?_ ?_; first | trivial | omega | exact ⟨by assumption, by omega⟩ | (simp only [List.length_append, List.length_cons, List.length_nil, List.length_map, List.length_take, List.length_drop, List.length_replicate, List.length_set]; omega)) | (with_reducible refine fact ?_ ?_; first | trivial | exact ⟨rfl, rfl⟩ | kernel_rfl) | with_reducible refine choT (by assumption) ?_ | with_reducible refine choF (by assumption) ?_ | with_reducible refine choF' (by assumption) ?_ | (with_reducible refine altT ?_ ?_; first | omega | (simp only [List.length_append, List.length_cons, List.length_nil, List.length_map, List.length_take, List.length_drop, List.length_replicate, List.length_set]; omega)) | with_reducible refine altF ?_ | with_reducible refine all fun _ => ?_ | with_reducible refine both ?_ ?_ | (with_reducible refine choT ?_ ?_; omega) | (with_reducible refine choF ?_ ?_; omega) | with_reducible refine cho (fun _ => ?_) (fun _ => ?_))
  refine ⟨_, _, _, rfl, Sub.app_nil _, ?_, rfl⟩
  rw [decide_eq_true y1]
instance : PC Go.Proofs.Try.prog 9 [] True (B true) := ⟨fun _ => PC.of shown10_ok⟩
end Go.Ab
