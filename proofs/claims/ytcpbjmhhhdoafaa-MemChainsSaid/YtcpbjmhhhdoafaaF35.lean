/- A mem: a new one; places; what is looked up; what is cut out. -/
import Derived.Test.YtcpbjmhhhdoafaaF34
set_option linter.unusedVariables false
set_option linter.unusedSimpArgs false
namespace Go.Ab
section nils
variable {P : Program} {t : TypeId} {v : Value} {sz a n : Nat} {K : AV → Prop}
theorem eq_nil_run {d : TypeId} (h : P.underlying t = some (.slice d)) (k : Nat) (ao : Option Addr) (m c : Nat) (w : World) : (Op.equalIn (k + 1) t (.slice ao m c) (.slice none 0 0)).run P w = .ok ao.isNone w := by
  cases ao <;> simp [Op.equalIn, run_underlying h]
theorem nilSubT [h : SlT P t] (hv : v = .slice none 0 0) (hK : K (.val (.bool true))) : Do (aBin P .eql t (.sub v sz a n) (.val (.slice none 0 0))) K := ⟨_, by
  show aBin P .eql t (.sub v sz a n) (.val (.slice none 0 0)) (.val (.bool true))
  obtain ⟨d, hd⟩ := isSl_run h.h
  unfold aBin
  simp only [plainV]
  refine ⟨_, rfl, ?_⟩
  rintro c (⟨_, rfl⟩ | ⟨h1, _⟩) xo yo w'
  · have e1 := eq_nil_run hd 9999 none 0 0 w'
    cases xo <;> cases yo <;> simp [eqGuard, binOp, Op.equal, Op.maxDepth, e1, Op.eqGuardIn, run_underlying hd]
  · exact absurd hv h1, hK⟩
theorem nilSubF [h : SlT P t] (hv : v ≠ .slice none 0 0) (hK : K (.val (.bool false))) : Do (aBin P .eql t (.sub v sz a n) (.val (.slice none 0 0))) K := ⟨_, by
  show aBin P .eql t (.sub v sz a n) (.val (.slice none 0 0)) (.val (.bool false))
  obtain ⟨d, hd⟩ := isSl_run h.h
  unfold aBin
  simp only [plainV]
  refine ⟨_, rfl, ?_⟩
  rintro c (⟨h1, _⟩ | ⟨_, ao, m, cp, rfl⟩) xo yo w'
  · exact absurd h1 hv
  · have e1 := eq_nil_run hd 9999 (some ao) m cp w'
    cases xo <;> cases yo <;> simp [eqGuard, binOp, Op.equal, Op.maxDepth, e1, Op.eqGuardIn, run_underlying hd], hK⟩
end nils
def slices_Clone.mark : Mark := ⟨fun t => false, fun t => Nat.beq t 5, fun t => false, fun t => false, fun t => false⟩
def slices_Clone.ann : Ann := ⟨fun n => [], fun n => none, fun n => none⟩
/-- 'slices.Clone[[]marlstone/api.Entry,marlstone/api.Entry]' -/
def slices_Clone.sh (a0 : AV) (σ : Store) (Q : AEnd → Store → Prop) : Prop :=
  Do (aBin Go.Proofs.Try.prog .eql 39 a0 (.val (.slice none 0 0))) fun t4 =>
  aCond t4
    (Q (.ret (.val (.slice none 0 0))) σ)
    (aRowL 29 (mkE [.val (.string ⟨#[]⟩), .val (.string ⟨#[]⟩), .val (.bool false), .val (.int .i64 0)]) 4 0 [] σ fun t5 σ =>
  aAppend 29 4 48 t5 a0 σ (subK fun t7 σ_1 =>
  Q (.ret t7) σ_1))
theorem slices_Clone.eq (a0 : AV) (σ : Store) (Q : AEnd → Store → Prop) : vc (semOf Go.Proofs.Try.prog slices_Clone.mark) Go.Proofs.Try.f38.ntmps slices_Clone.ann (bodyOf Go.Proofs.Try.f38) (endK [.tmp 2] Q) (argFr [a0]) σ = slices_Clone.sh a0 σ Q := by kernel_rfl
theorem slices_Clone.go {a0 : AV} {σ : Store} {Q : AEnd → Store → Prop} (h : slices_Clone.sh a0 σ Q) : ACalls Go.Proofs.Try.prog 38 [a0] σ Q :=
  acalls_of_eq [.tmp 2] Go.Proofs.Try.func38 (by kernel_rfl) (by kernel_rfl) (by kernel_rfl) (by kernel_rfl) (slices_Clone.eq a0 σ Q) h
theorem Clone_ok' (v : Value) (l : List En) (a n : Nat) (hv0 : v = .slice none 0 0 → l.length = 0) (hn : a + n ≤ l.length) (hl : l.length ≤ 1000000) : ACalls Go.Proofs.Try.prog 38 [.sub v 4 a n] [.row v EnT_ 4 (l.map En.av) 0]
    fun x σ' => ∃ v', x = .ret (.own v' n) ∧ σ' = [.row v' EnT_ 4 (((l.drop a).take n).map En.av) 0, .row v EnT_ 4 (l.map En.av) 0] := by
  refine ACalls.fin (slices_Clone.go ?_)
  unfold slices_Clone.sh
  by_cases hv : v = .slice none 0 0
  · refine nilSubT hv ?_
    have ht : (true : Bool) = true := rfl
    repeat' (first | with_reducible apply Stp.go | with_reducible refine imp fun _ => ?_ | (with_reducible refine hyp ?_ ?_; first | assumption | exact leftT_mem (by assumption)) | (with_reducible refine need ?_ ?_; first | trivial | omega | exact ⟨by assumption, by omega⟩ | (simp only [List.length_append, List.length_cons, List.length_nil, List.length_map, List.length_take, List.length_drop, List.length_replicate, List.length_set]; omega)) | (with_reducible refine fact ?_ ?_; first | trivial | exact ⟨rfl, rfl⟩ | kernel_rfl) | with_reducible refine choT (by assumption) ?_ | with_reducible refine choF (by assumption) ?_ | with_reducible refine choF' (by assumption) ?_ | (with_reducible refine altT ?_ ?_; first | omega | (simp only [List.length_append, List.length_cons, List.length_nil, List.length_map, List.length_take, List.length_drop, List.length_replicate, List.length_set]; omega)) | with_reducible refine altF ?_ | with_reducible refine all fun _ => ?_ | with_reducible refine both ?_ ?_ | (with_reducible refine choT ?_ ?_; omega) | (with_reducible refine choF ?_ ?_; omega) | with_reducible refine cho (fun _ => ?_) (fun _ => ?_))
    have h0 := hv0 hv
    have e1 : n = 0 := by omega
    subst e1
    exact ⟨_, _, _, rfl, Sub.nil_own EnT_ (sz := 4) (by decide) _ [] [], _, rfl, rfl⟩
  · refine nilSubF hv ?_
    have ht : ¬ (false : Bool) = true := by decide
    repeat' (first | with_reducible apply Stp.go | with_reducible refine imp fun _ => ?_ | (with_reducible refine hyp ?_ ?_; first | assumption | exact leftT_mem (by assumption)) | (with_reducible refine need ?_ ?_; first | trivial | omega | exact ⟨by assumption, by omega⟩ | (simp only [List.length_append, List.length_cons, List.length_nil, List.length_map, List.length_take, List.length_drop, List.length_replicate, List.length_set]; omega)) | (with_reducible refine fact ?_ ?_; first | trivial | exact ⟨rfl, rfl⟩ | kernel_rfl) | with_reducible refine choT (by assumption) ?_ | with_reducible refine choF (by assumption) ?_ | with_reducible refine choF' (by assumption) ?_ | (with_reducible refine altT ?_ ?_; first | omega | (simp only [List.length_append, List.length_cons, List.length_nil, List.length_map, List.length_take, List.length_drop, List.length_replicate, List.length_set]; omega)) | with_reducible refine altF ?_ | with_reducible refine all fun _ => ?_ | with_reducible refine both ?_ ?_ | (with_reducible refine choT ?_ ?_; omega) | (with_reducible refine choF ?_ ?_; omega) | with_reducible refine cho (fun _ => ?_) (fun _ => ?_))
    have e1 : ([] ++ (l.drop a).take n).length = n := by simp; omega
    rw [e1]
    exact ⟨_, _, _, rfl, Sub.refl _ _, _, rfl, rfl⟩
theorem Clone_ok (v : Value) (l : List En) (a n : Nat) (hn : a + n ≤ l.length) (hl : l.length ≤ 1000000) : ACalls Go.Proofs.Try.prog 38 [.sub v 4 a n] [.row v EnT_ 4 (l.map En.av) 0]
    fun x σ' => ∃ v', x = .ret (.own v' n) ∧ σ' = [.row v' EnT_ 4 (((l.drop a).take n).map En.av) 0, .row v EnT_ 4 (l.map En.av) 0] := by
  refine ACalls.assume (Clone_ok' (.slice (some ⟨0, 0, none⟩) 0 0) [] 0 0 (by intro h; cases h) (by simp) (by simp)).1 (v = .slice none 0 0 → l.length = 0) (fun R w vs hv hs => ?_) (fun h => Clone_ok' v l a n h hn hl)
  rintro rfl
  obtain ⟨ws, hr, hone, hown, hz0, hsz, hcc⟩ := row_cells hs (v := .slice none 0 0) (E := EnT_) (sz := 4) (l := l.map En.av) (fl := 0) List.mem_cons_self
  rcases hown.2 with ⟨_, h00⟩ | ⟨g, cap, cur, h, _⟩
  · simpa using h00
  · cases h
/-- A call that leaves the store as it was, with more beside it. -/
theorem ACalls.same {P : Program} {f : FuncId} {args : List AV} {σ τ rest : Store} {u : AV} (h : ACalls P f args τ fun x σ' => x = .ret u ∧ σ' = τ) (hp : σ.Perm (τ ++ rest)) : ACalls P f args σ fun x σ' => x = .ret u ∧ σ' = σ :=
  ((h.frame rest).perm hp.symm).sub fun x σ' ⟨σ1, e1, _, e2, e3⟩ => by
    subst e1; subst e2; subst e3
    exact ⟨u, u, σ, rfl, Sub.perm hp.symm _, rfl, rfl⟩
/-- .. and one that turns a part of it. -/
theorem ACalls.part {P : Program} {f : FuncId} {args : List AV} {σ τ rest : Store} {Q : AEnd → Store → Prop} (h : ACalls P f args τ Q) (hp : σ.Perm (τ ++ rest)) : ACalls P f args σ fun x σ' => ∃ σ1, σ' = σ1 ++ rest ∧ Q x σ1 :=
  ((h.frame rest).perm hp.symm).mono fun x σ' ⟨σ1, e1, _, e2⟩ => ⟨σ1, e1, e2⟩
/-- A mem stands somewhere in the store. -/
class MemAt (b : Nat) (σ : Store) (v : outParam Value) (l : outParam (List En)) (s : outParam Int) (c : outParam (List UInt8)) (rest : outParam Store) : Prop where
  perm : σ.Perm (memS b v l s c ++ rest)
instance {b : Nat} {σ rest rest2 : Store} {v : Value} {l : List En} {s : Int} {c : List UInt8} {put put2 : Ent → Store} [hv : VarAt b σ MT (memCs (.own v l.length) s c) put rest] [hr : RowAt v rest EnT_ 4 (l.map En.av) 0 put2 rest2] : MemAt b σ v l s c rest2 := ⟨by
  obtain ⟨σ1, σ2, rfl, _, rfl⟩ := hv.at_
  obtain ⟨ρ1, ρ2, e, _, rfl⟩ := hr.at_
  refine List.perm_middle.trans ?_
  rw [e]
  exact List.Perm.cons _ List.perm_middle⟩
def mem_New.mark : Mark := ⟨fun t => Nat.beq t 1, fun t => false, fun t => false, fun t => false, fun t => false⟩
def mem_New.ann : Ann := ⟨fun n => [], fun n => none, fun n => none⟩
/-- 'marlstone/mem.New' -/
def mem_New.sh (σ : Store) (Q : AEnd → Store → Prop) : Prop :=
  Do (aPureC Go.Proofs.Try.prog 29 [(.val (.slice none 0 0))]) fun t1 =>
  Do (aLit [.val (.slice none 0 0), .val (.int .i64 0), .val (.int .u8 0), .val (.int .u8 0), .val (.int .u8 0), .val (.int .u8 0), .val (.int .u8 0), .val (.int .u8 0), .val (.int .u8 0), .val (.int .u8 0), .val (.int .u8 0), .val (.int .u8 0), .val (.int .u8 0), .val (.int .u8 0), .val (.int .u8 0), .val (.int .u8 0), .val (.int .u8 0), .val (.int .u8 0), .val (.int .u8 0), .val (.int .u8 0), .val (.int .u8 0), .val (.int .u8 0), .val (.int .u8 0), .val (.int .u8 0), .val (.int .u8 0), .val (.int .u8 0), .val (.int .u8 0), .val (.int .u8 0), .val (.int .u8 0), .val (.int .u8 0), .val (.int .u8 0), .val (.int .u8 0), .val (.int .u8 0), .val (.int .u8 0)] [(0, 1), (1, 1), (2, 32)] [(2, t1)]) fun t2 =>
  aNewVar 58 (t2 : AV).cells σ fun t3 σ =>
  Q (.ret t3) σ
theorem mem_New.eq (σ : Store) (Q : AEnd → Store → Prop) : vc (semOf Go.Proofs.Try.prog mem_New.mark) Go.Proofs.Try.f10.ntmps mem_New.ann (bodyOf Go.Proofs.Try.f10) (endK [.tmp 0] Q) (argFr []) σ = mem_New.sh  σ Q := by kernel_rfl
theorem mem_New.go {σ : Store} {Q : AEnd → Store → Prop} (h : mem_New.sh  σ Q) : ACalls Go.Proofs.Try.prog 10 [] σ Q :=
  acalls_of_eq [.tmp 0] Go.Proofs.Try.func10 (by kernel_rfl) (by kernel_rfl) (by kernel_rfl) (by kernel_rfl) (mem_New.eq  σ Q) h
def mem_Mem_place.mark : Mark := ⟨fun t => false, fun t => false, fun t => false, fun t => false, fun t => Nat.beq t 11⟩
def mem_Mem_place.ann : Ann := ⟨fun n => [], fun n => none, fun n => none⟩
/-- '(*marlstone/mem.Mem).place' -/
def mem_Mem_place.sh (a0 a1 : AV) (σ : Store) (Q : AEnd → Store → Prop) : Prop :=
  Do (aNil a0) fun t7 =>
  Do (aFieldAddr 0 1 t7) fun t8 =>
  Do (loadA false 1 t8 σ) fun t9 =>
  Do (lookC Go.Proofs.Try.prog 44 [t9, a1, (.val (.func (.func 45) #[] #[]))] σ) fun t11 =>
  Do (aExt t11 0) fun t12 =>
  Do (aExt t11 1) fun t13 =>
  Q (.ret (.tuple [t12, t13])) σ
theorem mem_Mem_place.eq (a0 a1 : AV) (σ : Store) (Q : AEnd → Store → Prop) : vc (semOf Go.Proofs.Try.prog mem_Mem_place.mark) Go.Proofs.Try.f30.ntmps mem_Mem_place.ann (bodyOf Go.Proofs.Try.f30) (endK [.tmp 4, .tmp 5] Q) (argFr [a0, a1]) σ = mem_Mem_place.sh a0 a1 σ Q := by kernel_rfl
theorem mem_Mem_place.go {a0 a1 : AV} {σ : Store} {Q : AEnd → Store → Prop} (h : mem_Mem_place.sh a0 a1 σ Q) : ACalls Go.Proofs.Try.prog 30 [a0, a1] σ Q :=
  acalls_of_eq [.tmp 4, .tmp 5] Go.Proofs.Try.func30 (by kernel_rfl) (by kernel_rfl) (by kernel_rfl) (by kernel_rfl) (mem_Mem_place.eq a0 a1 σ Q) h
def mem_Mem_place_1.mark : Mark := ⟨fun t => Nat.beq t 8, fun t => false, fun t => Nat.beq t 2, fun t => Nat.beq t 6, fun t => false⟩
def mem_Mem_place_1.ann : Ann := ⟨fun n => [], fun n => none, fun n => none⟩
/-- '(*marlstone/mem.Mem).place$1' -/
def mem_Mem_place_1.sh (a0 a1 : AV) (σ : Store) (Q : AEnd → Store → Prop) : Prop :=
  Do (aFreeze ((a0 : AV)).cells) fun t2 =>
  Do (aFieldAddr 0 1 t2) fun t5 =>
  Do (loadF false 1 t5) fun t6 =>
  Do (aPureC Go.Proofs.Try.prog 46 [t6, a1]) fun t8 =>
  Q (.ret t8) σ
theorem mem_Mem_place_1.eq (a0 a1 : AV) (σ : Store) (Q : AEnd → Store → Prop) : vc (semOf Go.Proofs.Try.prog mem_Mem_place_1.mark) Go.Proofs.Try.f45.ntmps mem_Mem_place_1.ann (bodyOf Go.Proofs.Try.f45) (endK [.tmp 4] Q) (argFr [a0, a1]) σ = mem_Mem_place_1.sh a0 a1 σ Q := by kernel_rfl
theorem mem_Mem_place_1.go {a0 a1 : AV} {σ : Store} {Q : AEnd → Store → Prop} (h : mem_Mem_place_1.sh a0 a1 σ Q) : ACalls Go.Proofs.Try.prog 45 [a0, a1] σ Q :=
  acalls_of_eq [.tmp 4] Go.Proofs.Try.func45 (by kernel_rfl) (by kernel_rfl) (by kernel_rfl) (by kernel_rfl) (mem_Mem_place_1.eq a0 a1 σ Q) h
def mem_Mem_Get.mark : Mark := ⟨fun t => false, fun t => false, fun t => false, fun t => false, fun t => false⟩
def mem_Mem_Get.ann : Ann := ⟨fun n => [], fun n => none, fun n => none⟩
/-- '(*marlstone/mem.Mem).Get' -/
def mem_Mem_Get.sh (a0 a1 : AV) (σ : Store) (Q : AEnd → Store → Prop) : Prop :=
  aNewVar 29 [.val (.string ⟨#[]⟩), .val (.string ⟨#[]⟩), .val (.bool false), .val (.int .i64 0)] σ fun t4 σ =>
  aCall Go.Proofs.Try.prog 30 [a0, a1] σ (fun t11 σ_1 =>
  Do (aExt t11 0) fun t12 =>
  Do (aExt t11 1) fun t13 =>
  Do (aUn Go.Proofs.Try.prog .not t13) fun t15 =>
  aCond t15
    (Do (aLit [.val (.string ⟨#[]⟩), .val (.string ⟨#[]⟩), .val (.bool false), .val (.int .i64 0)] [(0, 1), (1, 1), (2, 1), (3, 1)] []) fun t16 =>
    storeA 4 t4 t16 σ_1 fun u σ_2 =>
    Do (loadA true 4 t4 σ_2) fun r4 => Q (.ret (.tuple [r4, (.val (.bool false))])) σ_2)
    (Do (aNil a0) fun t18 =>
  Do (aFieldAddr 0 1 t18) fun t19 =>
  Do (loadA false 1 t19 σ_1) fun t20 =>
  Do (aIndexAddr .slice 4 t20 t12) fun t22 =>
  Do (loadA true 4 t22 σ_1) fun t23 =>
  storeA 4 t4 t23 σ_1 fun u_1 σ_3 =>
  Do (loadA true 4 t4 σ_3) fun r4_1 => Q (.ret (.tuple [r4_1, (.val (.bool true))])) σ_3)) (fun e σ_4 => Q (.pan e) σ_4)
theorem mem_Mem_Get.eq (a0 a1 : AV) (σ : Store) (Q : AEnd → Store → Prop) : vc (semOf Go.Proofs.Try.prog mem_Mem_Get.mark) Go.Proofs.Try.f22.ntmps mem_Mem_Get.ann (bodyOf Go.Proofs.Try.f22) (endK [.cell 4 true 4, .tmp 5] Q) (argFr [a0, a1]) σ = mem_Mem_Get.sh a0 a1 σ Q := by kernel_rfl
theorem mem_Mem_Get.go {a0 a1 : AV} {σ : Store} {Q : AEnd → Store → Prop} (h : mem_Mem_Get.sh a0 a1 σ Q) : ACalls Go.Proofs.Try.prog 22 [a0, a1] σ Q :=
  acalls_of_eq [.cell 4 true 4, .tmp 5] Go.Proofs.Try.func22 (by kernel_rfl) (by kernel_rfl) (by kernel_rfl) (by kernel_rfl) (mem_Mem_Get.eq a0 a1 σ Q) h
def mem_Mem_Range.mark : Mark := ⟨fun t => false, fun t => false, fun t => false, fun t => false, fun t => false⟩
def mem_Mem_Range.ann : Ann := ⟨fun n => [], fun n => bif Nat.beq n 5 then some [0, 7, 9] else none, fun n => none⟩
/-- '(*marlstone/mem.Mem).Range' -/
def mem_Mem_Range.sh (a0 a1 a2 : AV) (σ : Store) (Q : AEnd → Store → Prop) : Prop :=
  aCall Go.Proofs.Try.prog 30 [a0, a1] σ (fun t14 σ =>
  Do (aExt t14 0) fun t15 =>
  Do (aExt t14 1) fun t16 =>
  aCall Go.Proofs.Try.prog 30 [a0, a2] σ (fun t20 σ_1 =>
  Do (aExt t20 0) fun t21 =>
  Do (aExt t20 1) fun t22 =>
  aJoin (fun j =>
    Do (aBin Go.Proofs.Try.prog .eql 9 a2 (.val (.string ⟨#[]⟩))) fun t24 =>
    aCond t24
      (Do (aNil a0) fun t26 =>
      Do (aFieldAddr 0 1 t26) fun t27 =>
      Do (loadA false 1 t27 σ_1) fun t28 =>
      Do (aBuiltin Go.Proofs.Try.prog .len #[39] [t28]) fun t29 =>
      j [a0, t15, t29] σ_1)
      (j [a0, t15, t21] σ_1)) fun vs σ_2 =>
  At vs 0 fun s0 => At vs 1 fun s7 => At vs 2 fun s9 => Do (aNil s0) fun t31 =>
  Do (aFieldAddr 0 1 t31) fun t32 =>
  Do (loadA false 1 t32 σ_2) fun t33 =>
  Do (aBuiltin Go.Proofs.Try.prog .max #[3, 3] [s7, s9]) fun t37 =>
  Do (aSlice .slice 4 t33 (some s7) (some t37) none) fun t38 =>
  aCall Go.Proofs.Try.prog 38 [t38] σ_2 (fun t39 σ_3 =>
  Q (.ret t39) σ_3) (fun e σ_4 => Q (.pan e) σ_4)) (fun e_1 σ_5 => Q (.pan e_1) σ_5)) (fun e_2 σ_6 => Q (.pan e_2) σ_6)
theorem mem_Mem_Range.eq (a0 a1 a2 : AV) (σ : Store) (Q : AEnd → Store → Prop) : vc (semOf Go.Proofs.Try.prog mem_Mem_Range.mark) Go.Proofs.Try.f19.ntmps mem_Mem_Range.ann (bodyOf Go.Proofs.Try.f19) (endK [.tmp 6] Q) (argFr [a0, a1, a2]) σ = mem_Mem_Range.sh a0 a1 a2 σ Q := by kernel_rfl
theorem mem_Mem_Range.go {a0 a1 a2 : AV} {σ : Store} {Q : AEnd → Store → Prop} (h : mem_Mem_Range.sh a0 a1 a2 σ Q) : ACalls Go.Proofs.Try.prog 19 [a0, a1, a2] σ Q :=
  acalls_of_eq [.tmp 6] Go.Proofs.Try.func19 (by kernel_rfl) (by kernel_rfl) (by kernel_rfl) (by kernel_rfl) (mem_Mem_Range.eq a0 a1 a2 σ Q) h
def mem_Mem_All.mark : Mark := ⟨fun t => false, fun t => false, fun t => false, fun t => false, fun t => false⟩
def mem_Mem_All.ann : Ann := ⟨fun n => [], fun n => none, fun n => none⟩
/-- '(*marlstone/mem.Mem).All' -/
def mem_Mem_All.sh (a0 : AV) (σ : Store) (Q : AEnd → Store → Prop) : Prop :=
  aCall Go.Proofs.Try.prog 19 [a0, (.val (.string ⟨#[]⟩)), (.val (.string ⟨#[]⟩))] σ (fun t4 σ =>
  Q (.ret t4) σ) (fun e σ_1 => Q (.pan e) σ_1)
theorem mem_Mem_All.eq (a0 : AV) (σ : Store) (Q : AEnd → Store → Prop) : vc (semOf Go.Proofs.Try.prog mem_Mem_All.mark) Go.Proofs.Try.f25.ntmps mem_Mem_All.ann (bodyOf Go.Proofs.Try.f25) (endK [.tmp 2] Q) (argFr [a0]) σ = mem_Mem_All.sh a0 σ Q := by kernel_rfl
theorem mem_Mem_All.go {a0 : AV} {σ : Store} {Q : AEnd → Store → Prop} (h : mem_Mem_All.sh a0 σ Q) : ACalls Go.Proofs.Try.prog 25 [a0] σ Q :=
  acalls_of_eq [.tmp 2] Go.Proofs.Try.func25 (by kernel_rfl) (by kernel_rfl) (by kernel_rfl) (by kernel_rfl) (mem_Mem_All.eq a0 σ Q) h
def mem_Mem_Len.mark : Mark := ⟨fun t => false, fun t => false, fun t => false, fun t => false, fun t => false⟩
def mem_Mem_Len.ann : Ann := ⟨fun n => [], fun n => none, fun n => none⟩
/-- '(*marlstone/mem.Mem).Len' -/
def mem_Mem_Len.sh (a0 : AV) (σ : Store) (Q : AEnd → Store → Prop) : Prop :=
  Do (aNil a0) fun t4 =>
  Do (aFieldAddr 0 1 t4) fun t5 =>
  Do (loadA false 1 t5 σ) fun t6 =>
  Do (aBuiltin Go.Proofs.Try.prog .len #[39] [t6]) fun t7 =>
  Q (.ret t7) σ
theorem mem_Mem_Len.eq (a0 : AV) (σ : Store) (Q : AEnd → Store → Prop) : vc (semOf Go.Proofs.Try.prog mem_Mem_Len.mark) Go.Proofs.Try.f12.ntmps mem_Mem_Len.ann (bodyOf Go.Proofs.Try.f12) (endK [.tmp 2] Q) (argFr [a0]) σ = mem_Mem_Len.sh a0 σ Q := by kernel_rfl
theorem mem_Mem_Len.go {a0 : AV} {σ : Store} {Q : AEnd → Store → Prop} (h : mem_Mem_Len.sh a0 σ Q) : ACalls Go.Proofs.Try.prog 12 [a0] σ Q :=
  acalls_of_eq [.tmp 2] Go.Proofs.Try.func12 (by kernel_rfl) (by kernel_rfl) (by kernel_rfl) (by kernel_rfl) (mem_Mem_Len.eq a0 σ Q) h
def mem_Mem_Last.mark : Mark := ⟨fun t => false, fun t => false, fun t => false, fun t => false, fun t => false⟩
def mem_Mem_Last.ann : Ann := ⟨fun n => [], fun n => none, fun n => none⟩
/-- '(*marlstone/mem.Mem).Last' -/
def mem_Mem_Last.sh (a0 : AV) (σ : Store) (Q : AEnd → Store → Prop) : Prop :=
  Do (aNil a0) fun t4 =>
  Do (aFieldAddr 1 1 t4) fun t5 =>
  Do (loadA false 1 t5 σ) fun t6 =>
  Q (.ret t6) σ
theorem mem_Mem_Last.eq (a0 : AV) (σ : Store) (Q : AEnd → Store → Prop) : vc (semOf Go.Proofs.Try.prog mem_Mem_Last.mark) Go.Proofs.Try.f14.ntmps mem_Mem_Last.ann (bodyOf Go.Proofs.Try.f14) (endK [.tmp 2] Q) (argFr [a0]) σ = mem_Mem_Last.sh a0 σ Q := by kernel_rfl
theorem mem_Mem_Last.go {a0 : AV} {σ : Store} {Q : AEnd → Store → Prop} (h : mem_Mem_Last.sh a0 σ Q) : ACalls Go.Proofs.Try.prog 14 [a0] σ Q :=
  acalls_of_eq [.tmp 2] Go.Proofs.Try.func14 (by kernel_rfl) (by kernel_rfl) (by kernel_rfl) (by kernel_rfl) (mem_Mem_Last.eq a0 σ Q) h
def mem_Mem_Chain.mark : Mark := ⟨fun t => false, fun t => false, fun t => false, fun t => false, fun t => false⟩
def mem_Mem_Chain.ann : Ann := ⟨fun n => [], fun n => none, fun n => none⟩
/-- '(*marlstone/mem.Mem).Chain' -/
def mem_Mem_Chain.sh (a0 : AV) (σ : Store) (Q : AEnd → Store → Prop) : Prop :=
  aNewVar 45 [.val (.int .u8 0), .val (.int .u8 0), .val (.int .u8 0), .val (.int .u8 0), .val (.int .u8 0), .val (.int .u8 0), .val (.int .u8 0), .val (.int .u8 0), .val (.int .u8 0), .val (.int .u8 0), .val (.int .u8 0), .val (.int .u8 0), .val (.int .u8 0), .val (.int .u8 0), .val (.int .u8 0), .val (.int .u8 0), .val (.int .u8 0), .val (.int .u8 0), .val (.int .u8 0), .val (.int .u8 0), .val (.int .u8 0), .val (.int .u8 0), .val (.int .u8 0), .val (.int .u8 0), .val (.int .u8 0), .val (.int .u8 0), .val (.int .u8 0), .val (.int .u8 0), .val (.int .u8 0), .val (.int .u8 0), .val (.int .u8 0), .val (.int .u8 0)] σ fun t2 σ =>
  Do (aNil a0) fun t4 =>
  Do (aFieldAddr 2 32 t4) fun t5 =>
  Do (loadA true 32 t5 σ) fun t6 =>
  storeA 32 t2 t6 σ fun u σ_1 =>
  Do (loadA true 32 t2 σ_1) fun r2 => Q (.ret r2) σ_1
theorem mem_Mem_Chain.eq (a0 : AV) (σ : Store) (Q : AEnd → Store → Prop) : vc (semOf Go.Proofs.Try.prog mem_Mem_Chain.mark) Go.Proofs.Try.f24.ntmps mem_Mem_Chain.ann (bodyOf Go.Proofs.Try.f24) (endK [.cell 2 true 32] Q) (argFr [a0]) σ = mem_Mem_Chain.sh a0 σ Q := by kernel_rfl
theorem mem_Mem_Chain.go {a0 : AV} {σ : Store} {Q : AEnd → Store → Prop} (h : mem_Mem_Chain.sh a0 σ Q) : ACalls Go.Proofs.Try.prog 24 [a0] σ Q :=
  acalls_of_eq [.cell 2 true 32] Go.Proofs.Try.func24 (by kernel_rfl) (by kernel_rfl) (by kernel_rfl) (by kernel_rfl) (mem_Mem_Chain.eq a0 σ Q) h
def mem_Mem_Clear.mark : Mark := ⟨fun t => Nat.beq t 4, fun t => false, fun t => false, fun t => false, fun t => false⟩
def mem_Mem_Clear.ann : Ann := ⟨fun n => [], fun n => none, fun n => none⟩
/-- '(*marlstone/mem.Mem).Clear' -/
def mem_Mem_Clear.sh (a0 : AV) (σ : Store) (Q : AEnd → Store → Prop) : Prop :=
  Do (aPureC Go.Proofs.Try.prog 29 [(.val (.slice none 0 0))]) fun t4 =>
  Do (aNil a0) fun t5 =>
  Do (aFieldAddr 0 1 t5) fun t6 =>
  storeA 1 t6 (.val (.slice none 0 0)) σ fun u σ =>
  Do (aNil a0) fun t7 =>
  Do (aFieldAddr 2 32 t7) fun t8 =>
  storeA 32 t8 t4 σ fun u_1 σ_1 =>
  Q (.ret (.tuple [])) σ_1
theorem mem_Mem_Clear.eq (a0 : AV) (σ : Store) (Q : AEnd → Store → Prop) : vc (semOf Go.Proofs.Try.prog mem_Mem_Clear.mark) Go.Proofs.Try.f13.ntmps mem_Mem_Clear.ann (bodyOf Go.Proofs.Try.f13) (endK [] Q) (argFr [a0]) σ = mem_Mem_Clear.sh a0 σ Q := by kernel_rfl
theorem mem_Mem_Clear.go {a0 : AV} {σ : Store} {Q : AEnd → Store → Prop} (h : mem_Mem_Clear.sh a0 σ Q) : ACalls Go.Proofs.Try.prog 13 [a0] σ Q :=
  acalls_of_eq [] Go.Proofs.Try.func13 (by kernel_rfl) (by kernel_rfl) (by kernel_rfl) (by kernel_rfl) (mem_Mem_Clear.eq a0 σ Q) h
theorem place1_ok (e : En) (k : List UInt8) : aPure Go.Proofs.Try.prog 45 [e.av, S k] (I .i64 (cmpK e.key k)) := by
  refine mem_Mem_place_1.go ?_
  unfold mem_Mem_place_1.sh
  repeat' (first | with_reducible apply Stp.go | with_reducible refine imp fun _ => ?_ | (with_reducible refine hyp ?_ ?_; first | assumption | exact leftT_mem (by assumption)) | (with_reducible refine need ?_ ?_; first | trivial | omega | exact ⟨by assumption, by omega⟩ | (simp only [List.length_append, List.length_cons, List.length_nil, List.length_map, List.length_take, List.length_drop, List.length_replicate, List.length_set]; omega)) | (with_reducible refine fact ?_ ?_; first | trivial | exact ⟨rfl, rfl⟩ | kernel_rfl) | with_reducible refine choT (by assumption) ?_ | with_reducible refine choF (by assumption) ?_ | with_reducible refine choF' (by assumption) ?_ | (with_reducible refine altT ?_ ?_; first | omega | (simp only [List.length_append, List.length_cons, List.length_nil, List.length_map, List.length_take, List.length_drop, List.length_replicate, List.length_set]; omega)) | with_reducible refine altF ?_ | with_reducible refine all fun _ => ?_ | with_reducible refine both ?_ ?_ | (with_reducible refine choT ?_ ?_; omega) | (with_reducible refine choF ?_ ?_; omega) | with_reducible refine cho (fun _ => ?_) (fun _ => ?_))
  exact ⟨rfl, rfl⟩
instance {a : AV} {l : List En} {m : SM} {k : List UInt8} [h : IsL a En.av 4 l m] : PC Go.Proofs.Try.prog 44 [a, S k, .val (.func (.func 45) #[] #[])] (Rises l ∧ l.length ≤ 1000000000000) (.tuple [I .i64 (placeN l k : Nat), B (hasK l k)]) := ⟨fun hl => ⟨[.lst 4 (l.map En.av) m, S k, .val (.func (.func 45) #[] #[])], ⟨h.sub, SubVs.refl _⟩, Search_ok l m k _ (fun e => place1_ok e k) hl.1 hl.2⟩⟩
theorem place_ok (b : Nat) (v : Value) (l : List En) (s : Int) (c k : List UInt8) (hr : Rises l) (hl : l.length ≤ 1000000) : ACalls Go.Proofs.Try.prog 30 [ptrAt b 0, S k] (memS b v l s c) fun x σ' => x = .ret (.tuple [I .i64 (placeN l k : Nat), B (hasK l k)]) ∧ σ' = memS b v l s c := by
  refine mem_Mem_place.go ?_
  unfold mem_Mem_place.sh
  repeat' (first | with_reducible apply Stp.go | with_reducible refine imp fun _ => ?_ | (with_reducible refine hyp ?_ ?_; first | assumption | exact leftT_mem (by assumption)) | (with_reducible refine need ?_ ?_; first | trivial | omega | exact ⟨by assumption, by omega⟩ | (simp only [List.length_append, List.length_cons, List.length_nil, List.length_map, List.length_take, List.length_drop, List.length_replicate, List.length_set]; omega)) | (with_reducible refine fact ?_ ?_; first | trivial | exact ⟨rfl, rfl⟩ | kernel_rfl) | with_reducible refine choT (by assumption) ?_ | with_reducible refine choF (by assumption) ?_ | with_reducible refine choF' (by assumption) ?_ | (with_reducible refine altT ?_ ?_; first | omega | (simp only [List.length_append, List.length_cons, List.length_nil, List.length_map, List.length_take, List.length_drop, List.length_replicate, List.length_set]; omega)) | with_reducible refine altF ?_ | with_reducible refine all fun _ => ?_ | with_reducible refine both ?_ ?_ | (with_reducible refine choT ?_ ?_; omega) | (with_reducible refine choF ?_ ?_; omega) | with_reducible refine cho (fun _ => ?_) (fun _ => ?_))
  exact ⟨rfl, rfl⟩
instance {b : Nat} {σ rest : Store} {v : Value} {l : List En} {s : Int} {c k : List UInt8} [h : MemAt b σ v l s c rest] : EC Go.Proofs.Try.prog 30 [ptrAt b 0, S k] σ (Rises l ∧ l.length ≤ 1000000) Unit (fun _ => .tuple [I .i64 (placeN l k : Nat), B (hasK l k)]) (fun _ => σ) := ⟨fun hl => ((place_ok b v l s c k hl.1 hl.2).same h.perm).mono fun x σ' ⟨e1, e2⟩ => ⟨(), e1, e2⟩⟩
theorem mem_New_ok : ACalls Go.Proofs.Try.prog 10 [] [] fun x σ' => ∃ b, x = .ret (ptrAt b 0) ∧ σ' = memS b (.slice none 0 0) [] 0 (sha []) := by
  refine ACalls.fin (mem_New.go ?_)
  unfold mem_New.sh
  repeat' (first | with_reducible apply Stp.go | with_reducible refine imp fun _ => ?_ | (with_reducible refine hyp ?_ ?_; first | assumption | exact leftT_mem (by assumption)) | (with_reducible refine need ?_ ?_; first | trivial | omega | exact ⟨by assumption, by omega⟩ | (simp only [List.length_append, List.length_cons, List.length_nil, List.length_map, List.length_take, List.length_drop, List.length_replicate, List.length_set]; omega)) | (with_reducible refine fact ?_ ?_; first | trivial | exact ⟨rfl, rfl⟩ | kernel_rfl) | with_reducible refine choT (by assumption) ?_ | with_reducible refine choF (by assumption) ?_ | with_reducible refine choF' (by assumption) ?_ | (with_reducible refine altT ?_ ?_; first | omega | (simp only [List.length_append, List.length_cons, List.length_nil, List.length_map, List.length_take, List.length_drop, List.length_replicate, List.length_set]; omega)) | with_reducible refine altF ?_ | with_reducible refine all fun _ => ?_ | with_reducible refine both ?_ ?_ | (with_reducible refine choT ?_ ?_; omega) | (with_reducible refine choF ?_ ?_; omega) | with_reducible refine cho (fun _ => ?_) (fun _ => ?_))
  refine litMem rfl rfl rfl ?_
  repeat' (first | with_reducible apply Stp.go | with_reducible refine imp fun _ => ?_ | (with_reducible refine hyp ?_ ?_; first | assumption | exact leftT_mem (by assumption)) | (with_reducible refine need ?_ ?_; first | trivial | omega | exact ⟨by assumption, by omega⟩ | (simp only [List.length_append, List.length_cons, List.length_nil, List.length_map, List.length_take, List.length_drop, List.length_replicate, List.length_set]; omega)) | (with_reducible refine fact ?_ ?_; first | trivial | exact ⟨rfl, rfl⟩ | kernel_rfl) | with_reducible refine choT (by assumption) ?_ | with_reducible refine choF (by assumption) ?_ | with_reducible refine choF' (by assumption) ?_ | (with_reducible refine altT ?_ ?_; first | omega | (simp only [List.length_append, List.length_cons, List.length_nil, List.length_map, List.length_take, List.length_drop, List.length_replicate, List.length_set]; omega)) | with_reducible refine altF ?_ | with_reducible refine all fun _ => ?_ | with_reducible refine both ?_ ?_ | (with_reducible refine choT ?_ ?_; omega) | (with_reducible refine choF ?_ ?_; omega) | with_reducible refine cho (fun _ => ?_) (fun _ => ?_))
  exact ⟨_, _, _, rfl, Sub.nilCell EnT_ (sz := 4) (by decide) _, _, rfl, rfl⟩
instance {σ : Store} : EC Go.Proofs.Try.prog 10 [] σ True Nat (fun b => ptrAt b 0) (fun b => memS b (.slice none 0 0) [] 0 (sha []) ++ σ) := ⟨fun _ => (mem_New_ok.frame σ).mono fun x τ ⟨σ1, e1, _, b, e2, e3⟩ => ⟨b, e2, by rw [e1, e3]⟩⟩
/-- The entry of a key. -/
def keyV (l : List En) (k : List UInt8) : En := if hasK l k = true then l.getD (placeN l k) default else En.zero
theorem mem_Get_ok (b : Nat) (v : Value) (l : List En) (s : Int) (c k : List UInt8) (hr : Rises l) (hl : l.length ≤ 1000000) : ACalls Go.Proofs.Try.prog 22 [ptrAt b 0, S k] (memS b v l s c) fun x σ' => x = .ret (.tuple [(keyV l k).av, B (hasK l k)]) ∧ σ' = memS b v l s c := by
  refine ACalls.fin (mem_Mem_Get.go ?_)
  unfold mem_Mem_Get.sh
  have z0 : (⟨[], [], false, 0⟩ : En) = En.zero := rfl
  have hp := fun h => (place_lt (F := l) (k := k) hr h).1
  repeat' (first | with_reducible apply Stp.go | with_reducible refine imp fun _ => ?_ | (with_reducible refine hyp ?_ ?_; first | assumption | exact leftT_mem (by assumption)) | (with_reducible refine need ?_ ?_; first | trivial | omega | exact ⟨by assumption, by omega⟩ | (simp only [List.length_append, List.length_cons, List.length_nil, List.length_map, List.length_take, List.length_drop, List.length_replicate, List.length_set]; omega)) | (with_reducible refine fact ?_ ?_; first | trivial | exact ⟨rfl, rfl⟩ | kernel_rfl) | with_reducible refine choT (by assumption) ?_ | with_reducible refine choF (by assumption) ?_ | with_reducible refine choF' (by assumption) ?_ | (with_reducible refine altT ?_ ?_; first | omega | (simp only [List.length_append, List.length_cons, List.length_nil, List.length_map, List.length_take, List.length_drop, List.length_replicate, List.length_set]; omega)) | with_reducible refine altF ?_ | with_reducible refine all fun _ => ?_ | with_reducible refine both ?_ ?_ | (with_reducible refine choT ?_ ?_; omega) | (with_reducible refine choF ?_ ?_; omega) | with_reducible refine cho (fun _ => ?_) (fun _ => ?_))
  · rename_i b4 _ hk
    have hp2 := hp hk
    repeat' (first | with_reducible apply Stp.go | with_reducible refine imp fun _ => ?_ | (with_reducible refine hyp ?_ ?_; first | assumption | exact leftT_mem (by assumption)) | (with_reducible refine need ?_ ?_; first | trivial | omega | exact ⟨by assumption, by omega⟩ | (simp only [List.length_append, List.length_cons, List.length_nil, List.length_map, List.length_take, List.length_drop, List.length_replicate, List.length_set]; omega)) | (with_reducible refine fact ?_ ?_; first | trivial | exact ⟨rfl, rfl⟩ | kernel_rfl) | with_reducible refine choT (by assumption) ?_ | with_reducible refine choF (by assumption) ?_ | with_reducible refine choF' (by assumption) ?_ | (with_reducible refine altT ?_ ?_; first | omega | (simp only [List.length_append, List.length_cons, List.length_nil, List.length_map, List.length_take, List.length_drop, List.length_replicate, List.length_set]; omega)) | with_reducible refine altF ?_ | with_reducible refine all fun _ => ?_ | with_reducible refine both ?_ ?_ | (with_reducible refine choT ?_ ?_; omega) | (with_reducible refine choF ?_ ?_; omega) | with_reducible refine cho (fun _ => ?_) (fun _ => ?_))
    refine ⟨_, _, _, rfl, subS (τ := memS b v l s c) _, ?_, rfl⟩
    rw [keyV, if_pos hk, hk]
  · rename_i b4 _ hk
    refine ⟨_, _, _, rfl, subS (τ := memS b v l s c) _, ?_, rfl⟩
    rw [keyV, if_neg hk, Bool.eq_false_iff.2 hk]
    rfl
instance {b : Nat} {σ rest : Store} {v : Value} {l : List En} {s : Int} {c k : List UInt8} [h : MemAt b σ v l s c rest] : EC Go.Proofs.Try.prog 22 [ptrAt b 0, S k] σ (Rises l ∧ l.length ≤ 1000000) Unit (fun _ => .tuple [(keyV l k).av, B (hasK l k)]) (fun _ => σ) := ⟨fun hl => ((mem_Get_ok b v l s c k hl.1 hl.2).same h.perm).mono fun x σ' ⟨e1, e2⟩ => ⟨(), e1, e2⟩⟩
instance {σ rest : Store} {put : Ent → Store} {v : Value} {l : List En} {a n : Nat} [h : RowAt v σ EnT_ 4 (l.map En.av) 0 put rest] : EC Go.Proofs.Try.prog 38 [.sub v 4 a n] σ (a + n ≤ l.length ∧ l.length ≤ 1000000) Value (fun v' => .own v' n) (fun v' => [.row v' EnT_ 4 (((l.drop a).take n).map En.av) 0, .row v EnT_ 4 (l.map En.av) 0] ++ rest) := ⟨fun hl => by
  obtain ⟨σ1, σ2, rfl, _, rfl⟩ := h.at_
  exact ((Clone_ok v l a n hl.1 hl.2).part (σ := σ1 ++ .row v EnT_ 4 (l.map En.av) 0 :: σ2) (rest := σ1 ++ σ2) List.perm_middle).mono fun x σ' ⟨τ, e1, v', e2, e3⟩ => ⟨v', e2, by rw [e1, e3]⟩⟩
def toN (l : List En) (hi : List UInt8) : Nat := if hi = [] then l.length else placeN l hi
/-- The entries of a range of keys. -/
def rangeL (l : List En) (lo hi : List UInt8) : List En := (l.drop (placeN l lo)).take (max (placeN l lo) (toN l hi) - placeN l lo)
theorem mem_Range_ok (b : Nat) (v : Value) (l : List En) (s : Int) (c lo hi : List UInt8) (hr : Rises l) (hl : l.length ≤ 1000000) : ACalls Go.Proofs.Try.prog 19 [ptrAt b 0, S lo, S hi] (memS b v l s c) fun x σ' => ∃ v', x = .ret (.own v' (rangeL l lo hi).length) ∧ σ' = .row v' EnT_ 4 ((rangeL l lo hi).map En.av) 0 :: memS b v l s c := by
  refine ACalls.fin (mem_Mem_Range.go ?_)
  unfold mem_Mem_Range.sh
  have h1 := placeN_le l lo
  have h2 := placeN_le l hi
  repeat' (first | with_reducible apply Stp.go | with_reducible refine imp fun _ => ?_ | (with_reducible refine hyp ?_ ?_; first | assumption | exact leftT_mem (by assumption)) | (with_reducible refine need ?_ ?_; first | trivial | omega | exact ⟨by assumption, by omega⟩ | (simp only [List.length_append, List.length_cons, List.length_nil, List.length_map, List.length_take, List.length_drop, List.length_replicate, List.length_set]; omega)) | (with_reducible refine fact ?_ ?_; first | trivial | exact ⟨rfl, rfl⟩ | kernel_rfl) | with_reducible refine choT (by assumption) ?_ | with_reducible refine choF (by assumption) ?_ | with_reducible refine choF' (by assumption) ?_ | (with_reducible refine altT ?_ ?_; first | omega | (simp only [List.length_append, List.length_cons, List.length_nil, List.length_map, List.length_take, List.length_drop, List.length_replicate, List.length_set]; omega)) | with_reducible refine altF ?_ | with_reducible refine all fun _ => ?_ | with_reducible refine both ?_ ?_ | (with_reducible refine choT ?_ ?_; omega) | (with_reducible refine choF ?_ ?_; omega) | with_reducible refine cho (fun _ => ?_) (fun _ => ?_))
  refine joinI (β := Unit) (fun _ => True) (fun _ => [ptrAt b 0, I .i64 (placeN l lo : Nat), I .i64 (toN l hi : Nat)]) (fun _ => memS b v l s c) ?_ ?_
  · repeat' (first | with_reducible apply Stp.go | with_reducible refine imp fun _ => ?_ | (with_reducible refine hyp ?_ ?_; first | assumption | exact leftT_mem (by assumption)) | (with_reducible refine need ?_ ?_; first | trivial | omega | exact ⟨by assumption, by omega⟩ | (simp only [List.length_append, List.length_cons, List.length_nil, List.length_map, List.length_take, List.length_drop, List.length_replicate, List.length_set]; omega)) | (with_reducible refine fact ?_ ?_; first | trivial | exact ⟨rfl, rfl⟩ | kernel_rfl) | with_reducible refine choT (by assumption) ?_ | with_reducible refine choF (by assumption) ?_ | with_reducible refine choF' (by assumption) ?_ | (with_reducible refine altT ?_ ?_; first | omega | (simp only [List.length_append, List.length_cons, List.length_nil, List.length_map, List.length_take, List.length_drop, List.length_replicate, List.length_set]; omega)) | with_reducible refine altF ?_ | with_reducible refine all fun _ => ?_ | with_reducible refine both ?_ ?_ | (with_reducible refine choT ?_ ?_; omega) | (with_reducible refine choF ?_ ?_; omega) | with_reducible refine cho (fun _ => ?_) (fun _ => ?_))
    · rename_i h
      refine meet () trivial ?_
      rw [toN, if_pos h]
      exact Sub.refl _ _
    · rename_i h
      refine meet () trivial ?_
      rw [toN, if_neg h]
      exact Sub.refl _ _
  · intro _ _
    have h3 : toN l hi ≤ l.length := by unfold toN; split <;> omega
    repeat' (first | with_reducible apply Stp.go | with_reducible refine imp fun _ => ?_ | (with_reducible refine hyp ?_ ?_; first | assumption | exact leftT_mem (by assumption)) | (with_reducible refine need ?_ ?_; first | trivial | omega | exact ⟨by assumption, by omega⟩ | (simp only [List.length_append, List.length_cons, List.length_nil, List.length_map, List.length_take, List.length_drop, List.length_replicate, List.length_set]; omega)) | (with_reducible refine fact ?_ ?_; first | trivial | exact ⟨rfl, rfl⟩ | kernel_rfl) | with_reducible refine choT (by assumption) ?_ | with_reducible refine choF (by assumption) ?_ | with_reducible refine choF' (by assumption) ?_ | (with_reducible refine altT ?_ ?_; first | omega | (simp only [List.length_append, List.length_cons, List.length_nil, List.length_map, List.length_take, List.length_drop, List.length_replicate, List.length_set]; omega)) | with_reducible refine altF ?_ | with_reducible refine all fun _ => ?_ | with_reducible refine both ?_ ?_ | (with_reducible refine choT ?_ ?_; omega) | (with_reducible refine choF ?_ ?_; omega) | with_reducible refine cho (fun _ => ?_) (fun _ => ?_))
    rename_i v'
    have e1 : (rangeL l lo hi).length = max (placeN l lo) (toN l hi) - placeN l lo := by rw [rangeL, List.length_take, List.length_drop]; omega
    refine ⟨_, _, _, rfl, Sub.perm (τ := .row v' EnT_ 4 ((rangeL l lo hi).map En.av) 0 :: memS b v l s c) ?_ _, v', ?_, rfl⟩
    · exact List.Perm.cons _ (List.Perm.swap _ _ _)
    · rw [e1]
instance {b : Nat} {σ rest : Store} {v : Value} {l : List En} {s : Int} {c lo hi : List UInt8} [h : MemAt b σ v l s c rest] : EC Go.Proofs.Try.prog 19 [ptrAt b 0, S lo, S hi] σ (Rises l ∧ l.length ≤ 1000000) Value (fun v' => .own v' (rangeL l lo hi).length) (fun v' => .row v' EnT_ 4 ((rangeL l lo hi).map En.av) 0 :: σ) := ⟨fun hl => by
  refine ((mem_Range_ok b v l s c lo hi hl.1 hl.2).part h.perm).sub ?_
  rintro x σ' ⟨σ1, rfl, v', rfl, rfl⟩
  exact ⟨_, _, _, rfl, Sub.perm (List.Perm.cons _ h.perm.symm) _, v', rfl, rfl⟩⟩
theorem placeN_nil (l : List En) : placeN l [] = 0 := by
  unfold placeN
  rw [List.countP_eq_zero]
  intro x _
  cases x.key <;> simp [lt, Op.bytesLess]
theorem rangeL_all (l : List En) : rangeL l [] [] = l := by
  rw [rangeL, placeN_nil, toN, if_pos rfl]
  simp
theorem mem_All_ok (b : Nat) (v : Value) (l : List En) (s : Int) (c : List UInt8) (hr : Rises l) (hl : l.length ≤ 1000000) : ACalls Go.Proofs.Try.prog 25 [ptrAt b 0] (memS b v l s c) fun x σ' => ∃ v', x = .ret (.own v' l.length) ∧ σ' = .row v' EnT_ 4 (l.map En.av) 0 :: memS b v l s c := by
  refine mem_Mem_All.go ?_
  unfold mem_Mem_All.sh
  repeat' (first | with_reducible apply Stp.go | with_reducible refine imp fun _ => ?_ | (with_reducible refine hyp ?_ ?_; first | assumption | exact leftT_mem (by assumption)) | (with_reducible refine need ?_ ?_; first | trivial | omega | exact ⟨by assumption, by omega⟩ | (simp only [List.length_append, List.length_cons, List.length_nil, List.length_map, List.length_take, List.length_drop, List.length_replicate, List.length_set]; omega)) | (with_reducible refine fact ?_ ?_; first | trivial | exact ⟨rfl, rfl⟩ | kernel_rfl) | with_reducible refine choT (by assumption) ?_ | with_reducible refine choF (by assumption) ?_ | with_reducible refine choF' (by assumption) ?_ | (with_reducible refine altT ?_ ?_; first | omega | (simp only [List.length_append, List.length_cons, List.length_nil, List.length_map, List.length_take, List.length_drop, List.length_replicate, List.length_set]; omega)) | with_reducible refine altF ?_ | with_reducible refine all fun _ => ?_ | with_reducible refine both ?_ ?_ | (with_reducible refine choT ?_ ?_; omega) | (with_reducible refine choF ?_ ?_; omega) | with_reducible refine cho (fun _ => ?_) (fun _ => ?_))
  rename_i v'
  rw [rangeL_all]
  exact ⟨v', rfl, rfl⟩
instance {b : Nat} {σ rest : Store} {v : Value} {l : List En} {s : Int} {c : List UInt8} [h : MemAt b σ v l s c rest] : EC Go.Proofs.Try.prog 25 [ptrAt b 0] σ (Rises l ∧ l.length ≤ 1000000) Value (fun v' => .own v' l.length) (fun v' => .row v' EnT_ 4 (l.map En.av) 0 :: σ) := ⟨fun hl => by
  refine ((mem_All_ok b v l s c hl.1 hl.2).part h.perm).sub ?_
  rintro x σ' ⟨σ1, rfl, v', rfl, rfl⟩
  exact ⟨_, _, _, rfl, Sub.perm (List.Perm.cons _ h.perm.symm) _, v', rfl, rfl⟩⟩
theorem mem_Len_ok (b : Nat) (v : Value) (l : List En) (s : Int) (c : List UInt8) : ACalls Go.Proofs.Try.prog 12 [ptrAt b 0] (memS b v l s c) fun x σ' => x = .ret (I .i64 (l.length : Nat)) ∧ σ' = memS b v l s c := by
  refine mem_Mem_Len.go ?_
  unfold mem_Mem_Len.sh
  repeat' (first | with_reducible apply Stp.go | with_reducible refine imp fun _ => ?_ | (with_reducible refine hyp ?_ ?_; first | assumption | exact leftT_mem (by assumption)) | (with_reducible refine need ?_ ?_; first | trivial | omega | exact ⟨by assumption, by omega⟩ | (simp only [List.length_append, List.length_cons, List.length_nil, List.length_map, List.length_take, List.length_drop, List.length_replicate, List.length_set]; omega)) | (with_reducible refine fact ?_ ?_; first | trivial | exact ⟨rfl, rfl⟩ | kernel_rfl) | with_reducible refine choT (by assumption) ?_ | with_reducible refine choF (by assumption) ?_ | with_reducible refine choF' (by assumption) ?_ | (with_reducible refine altT ?_ ?_; first | omega | (simp only [List.length_append, List.length_cons, List.length_nil, List.length_map, List.length_take, List.length_drop, List.length_replicate, List.length_set]; omega)) | with_reducible refine altF ?_ | with_reducible refine all fun _ => ?_ | with_reducible refine both ?_ ?_ | (with_reducible refine choT ?_ ?_; omega) | (with_reducible refine choF ?_ ?_; omega) | with_reducible refine cho (fun _ => ?_) (fun _ => ?_))
  exact ⟨rfl, rfl⟩
instance {b : Nat} {σ rest : Store} {v : Value} {l : List En} {s : Int} {c : List UInt8} [h : MemAt b σ v l s c rest] : EC Go.Proofs.Try.prog 12 [ptrAt b 0] σ True Unit (fun _ => I .i64 (l.length : Nat)) (fun _ => σ) := ⟨fun _ => ((mem_Len_ok b v l s c).same h.perm).mono fun x σ' ⟨e1, e2⟩ => ⟨(), e1, e2⟩⟩
theorem mem_Last_ok (b : Nat) (v : Value) (l : List En) (s : Int) (c : List UInt8) : ACalls Go.Proofs.Try.prog 14 [ptrAt b 0] (memS b v l s c) fun x σ' => x = .ret (I .i64 s) ∧ σ' = memS b v l s c := by
  refine mem_Mem_Last.go ?_
  unfold mem_Mem_Last.sh
  repeat' (first | with_reducible apply Stp.go | with_reducible refine imp fun _ => ?_ | (with_reducible refine hyp ?_ ?_; first | assumption | exact leftT_mem (by assumption)) | (with_reducible refine need ?_ ?_; first | trivial | omega | exact ⟨by assumption, by omega⟩ | (simp only [List.length_append, List.length_cons, List.length_nil, List.length_map, List.length_take, List.length_drop, List.length_replicate, List.length_set]; omega)) | (with_reducible refine fact ?_ ?_; first | trivial | exact ⟨rfl, rfl⟩ | kernel_rfl) | with_reducible refine choT (by assumption) ?_ | with_reducible refine choF (by assumption) ?_ | with_reducible refine choF' (by assumption) ?_ | (with_reducible refine altT ?_ ?_; first | omega | (simp only [List.length_append, List.length_cons, List.length_nil, List.length_map, List.length_take, List.length_drop, List.length_replicate, List.length_set]; omega)) | with_reducible refine altF ?_ | with_reducible refine all fun _ => ?_ | with_reducible refine both ?_ ?_ | (with_reducible refine choT ?_ ?_; omega) | (with_reducible refine choF ?_ ?_; omega) | with_reducible refine cho (fun _ => ?_) (fun _ => ?_))
  exact ⟨rfl, rfl⟩
instance {b : Nat} {σ rest : Store} {v : Value} {l : List En} {s : Int} {c : List UInt8} [h : MemAt b σ v l s c rest] : EC Go.Proofs.Try.prog 14 [ptrAt b 0] σ True Unit (fun _ => I .i64 s) (fun _ => σ) := ⟨fun _ => ((mem_Last_ok b v l s c).same h.perm).mono fun x σ' ⟨e1, e2⟩ => ⟨(), e1, e2⟩⟩
theorem mem_Chain_ok (b : Nat) (v : Value) (l : List En) (s : Int) (c : List UInt8) [hc : Len32 c] : ACalls Go.Proofs.Try.prog 24 [ptrAt b 0] (memS b v l s c) fun x σ' => x = .ret (.agg (c.map byt)) ∧ σ' = memS b v l s c := by
  refine ACalls.fin (mem_Mem_Chain.go ?_)
  unfold mem_Mem_Chain.sh
  have h32 := hc.len
  repeat' (first | with_reducible apply Stp.go | with_reducible refine imp fun _ => ?_ | (with_reducible refine hyp ?_ ?_; first | assumption | exact leftT_mem (by assumption)) | (with_reducible refine need ?_ ?_; first | trivial | omega | exact ⟨by assumption, by omega⟩ | (simp only [List.length_append, List.length_cons, List.length_nil, List.length_map, List.length_take, List.length_drop, List.length_replicate, List.length_set]; omega)) | (with_reducible refine fact ?_ ?_; first | trivial | exact ⟨rfl, rfl⟩ | kernel_rfl) | with_reducible refine choT (by assumption) ?_ | with_reducible refine choF (by assumption) ?_ | with_reducible refine choF' (by assumption) ?_ | (with_reducible refine altT ?_ ?_; first | omega | (simp only [List.length_append, List.length_cons, List.length_nil, List.length_map, List.length_take, List.length_drop, List.length_replicate, List.length_set]; omega)) | with_reducible refine altF ?_ | with_reducible refine all fun _ => ?_ | with_reducible refine both ?_ ?_ | (with_reducible refine choT ?_ ?_; omega) | (with_reducible refine choF ?_ ?_; omega) | with_reducible refine cho (fun _ => ?_) (fun _ => ?_))
  exact ⟨_, _, _, rfl, subS (τ := memS b v l s c) _, rfl, rfl⟩
instance {b : Nat} {σ rest : Store} {v : Value} {l : List En} {s : Int} {c : List UInt8} [h : MemAt b σ v l s c rest] [hc : Len32 c] : EC Go.Proofs.Try.prog 24 [ptrAt b 0] σ True Unit (fun _ => .agg (c.map byt)) (fun _ => σ) := ⟨fun _ => ((mem_Chain_ok b v l s c).same h.perm).mono fun x σ' ⟨e1, e2⟩ => ⟨(), e1, e2⟩⟩
theorem mem_Clear_ok (b : Nat) (v : Value) (l : List En) (s : Int) (c : List UInt8) [hc : Len32 c] : ACalls Go.Proofs.Try.prog 13 [ptrAt b 0] (memS b v l s c) fun x σ' => x = .ret (.tuple []) ∧ σ' = memS b (.slice none 0 0) [] s (sha []) := by
  refine ACalls.fin (mem_Mem_Clear.go ?_)
  unfold mem_Mem_Clear.sh
  repeat' (first | with_reducible apply Stp.go | with_reducible refine imp fun _ => ?_ | (with_reducible refine hyp ?_ ?_; first | assumption | exact leftT_mem (by assumption)) | (with_reducible refine need ?_ ?_; first | trivial | omega | exact ⟨by assumption, by omega⟩ | (simp only [List.length_append, List.length_cons, List.length_nil, List.length_map, List.length_take, List.length_drop, List.length_replicate, List.length_set]; omega)) | (with_reducible refine fact ?_ ?_; first | trivial | exact ⟨rfl, rfl⟩ | kernel_rfl) | with_reducible refine choT (by assumption) ?_ | with_reducible refine choF (by assumption) ?_ | with_reducible refine choF' (by assumption) ?_ | (with_reducible refine altT ?_ ?_; first | omega | (simp only [List.length_append, List.length_cons, List.length_nil, List.length_map, List.length_take, List.length_drop, List.length_replicate, List.length_set]; omega)) | with_reducible refine altF ?_ | with_reducible refine all fun _ => ?_ | with_reducible refine both ?_ ?_ | (with_reducible refine choT ?_ ?_; omega) | (with_reducible refine choF ?_ ?_; omega) | with_reducible refine cho (fun _ => ?_) (fun _ => ?_))
  refine ⟨_, _, _, rfl, Sub.trans (subS (τ := [.var b MT (.val (.slice none 0 0) :: I .i64 s :: (sha []).map byt)]) _) (Sub.nilCell EnT_ (sz := 4) (by decide) _), rfl, rfl⟩
instance {b : Nat} {σ rest : Store} {v : Value} {l : List En} {s : Int} {c : List UInt8} [h : MemAt b σ v l s c rest] [hc : Len32 c] : EC Go.Proofs.Try.prog 13 [ptrAt b 0] σ True Unit (fun _ => .tuple []) (fun _ => memS b (.slice none 0 0) [] s (sha []) ++ rest) := ⟨fun _ => ((mem_Clear_ok b v l s c).part h.perm).mono fun x σ' ⟨σ1, e0, e1, e2⟩ => ⟨(), e1, by rw [e0, e2]⟩⟩
end Go.Ab
