/- The texts that this claim needs, part 8: a logic over abstract values, its steps, what the functions do. No condition of its own. -/
import Derived.Laws.Externs
import Derived.Test.YtcpbjmhhhdoafaaMemPlaysK7
/- A place halved out. -/
set_option linter.unusedVariables false
set_option linter.unusedSimpArgs false
namespace Go.Ab
theorem cmpstring_ok (a b : List UInt8) : aPureC Go.Proofs.Try.prog 77 [S a, S b] (I .i64 (cmpK a b)) := by
  refine .inr ⟨[.string ⟨a.toArray⟩, .string ⟨b.toArray⟩], .int .i64 (cmpK a b), rfl, rfl, fun w => ?_⟩
  rw [run_callFunc_extern Go.Proofs.Try.func77 (by kernel_rfl) (by kernel_rfl) (by kernel_rfl) (e := Extern.BytealgCompare.compare) (by kernel_rfl)]
  rw [show ([Value.string ⟨a.toArray⟩, Value.string ⟨b.toArray⟩] : List Value).toArray = #[.string ⟨a.toArray⟩, .string ⟨b.toArray⟩] from rfl, Lib.run_compareString, compare_cmpK]
  rfl
instance (a b : List UInt8) : XC Go.Proofs.Try.prog 77 [S a, S b] (I .i64 (cmpK a b)) := ⟨cmpstring_ok a b⟩
def internal_bytealg_CompareString.mark : Mark := ⟨fun t => Nat.beq t 7, fun t => false, fun t => false, fun t => false, fun t => false⟩
def internal_bytealg_CompareString.ann : Ann := ⟨fun n => [], fun n => none, fun n => none⟩
/-- 'internal/bytealg.CompareString' -/
def internal_bytealg_CompareString.sh (a0 a1 : AV) (σ : Store) (Q : AEnd → Store → Prop) : Prop :=
  Do (aPureC Go.Proofs.Try.prog 77 [a0, a1]) fun t7 =>
  Q (.ret t7) σ
theorem internal_bytealg_CompareString.eq (a0 a1 : AV) (σ : Store) (Q : AEnd → Store → Prop) : vc (semOf Go.Proofs.Try.prog internal_bytealg_CompareString.mark) Go.Proofs.Try.f61.ntmps internal_bytealg_CompareString.ann (bodyOf Go.Proofs.Try.f61) (endK [.tmp 4] Q) (argFr [a0, a1]) σ = internal_bytealg_CompareString.sh a0 a1 σ Q := by kernel_rfl
theorem internal_bytealg_CompareString.go {a0 a1 : AV} {σ : Store} {Q : AEnd → Store → Prop} (h : internal_bytealg_CompareString.sh a0 a1 σ Q) : ACalls Go.Proofs.Try.prog 61 [a0, a1] σ Q :=
  acalls_of_eq [.tmp 4] Go.Proofs.Try.func61 (by kernel_rfl) (by kernel_rfl) (by kernel_rfl) (by kernel_rfl) (internal_bytealg_CompareString.eq a0 a1 σ Q) h
def strings_Compare.mark : Mark := ⟨fun t => Nat.beq t 7, fun t => false, fun t => false, fun t => false, fun t => false⟩
def strings_Compare.ann : Ann := ⟨fun n => [], fun n => none, fun n => none⟩
/-- 'strings.Compare' -/
def strings_Compare.sh (a0 a1 : AV) (σ : Store) (Q : AEnd → Store → Prop) : Prop :=
  Do (aPureC Go.Proofs.Try.prog 61 [a0, a1]) fun t7 =>
  Q (.ret t7) σ
theorem strings_Compare.eq (a0 a1 : AV) (σ : Store) (Q : AEnd → Store → Prop) : vc (semOf Go.Proofs.Try.prog strings_Compare.mark) Go.Proofs.Try.f46.ntmps strings_Compare.ann (bodyOf Go.Proofs.Try.f46) (endK [.tmp 4] Q) (argFr [a0, a1]) σ = strings_Compare.sh a0 a1 σ Q := by kernel_rfl
theorem strings_Compare.go {a0 a1 : AV} {σ : Store} {Q : AEnd → Store → Prop} (h : strings_Compare.sh a0 a1 σ Q) : ACalls Go.Proofs.Try.prog 46 [a0, a1] σ Q :=
  acalls_of_eq [.tmp 4] Go.Proofs.Try.func46 (by kernel_rfl) (by kernel_rfl) (by kernel_rfl) (by kernel_rfl) (strings_Compare.eq a0 a1 σ Q) h
def slices_BinarySearchFunc.mark : Mark := ⟨fun t => Nat.beq t 30 || Nat.beq t 46, fun t => false, fun t => false, fun t => Nat.beq t 28 || Nat.beq t 44, fun t => false⟩
def slices_BinarySearchFunc.ann : Ann := ⟨fun n => bif Nat.beq n 3 then [0, 1, 2, 8, 9, 10] else [], fun n => none, fun n => none⟩
/-- 'slices.BinarySearchFunc[[]marlstone/api.Entry,marlstone/api.Entry,string]' -/
def slices_BinarySearchFunc.sh (a0 a1 a2 : AV) (σ : Store) (Q : AEnd → Store → Prop) : Prop :=
  Do (aBuiltin Go.Proofs.Try.prog .len #[39] [a0]) fun t13 =>
  aLoop (fun go vs σ =>
    At vs 0 fun s0 => At vs 1 fun s1 => At vs 2 fun s2 => At vs 3 fun s8 => At vs 4 fun s9 => At vs 5 fun s10 => Do (aBin Go.Proofs.Try.prog .lss 3 s9 s10) fun t17 =>
    aCond t17
      (Do (aBin Go.Proofs.Try.prog .add 3 s9 s10) fun t20 =>
    Do (fun x => aConvN 3 85 t20 x Go.Proofs.Try.prog) fun t21 =>
    Do (aBin Go.Proofs.Try.prog .shr 85 t21 (W64 1)) fun t22 =>
    Do (fun x => aConvN 85 3 t22 x Go.Proofs.Try.prog) fun t23 =>
    Do (aIndexAddr .slice 4 s0 t23) fun t27 =>
    Do (loadF true 4 t27) fun t28 =>
    Do (aPureV Go.Proofs.Try.prog s2 [t28, s1]) fun t30 =>
    Do (aBin Go.Proofs.Try.prog .lss 3 t30 (.val (.int .i64 0))) fun t31 =>
    aCond t31
      (Do (aBin Go.Proofs.Try.prog .add 3 t23 (.val (.int .i64 1))) fun t33 =>
      go [s0, s1, s2, s8, t33, s10] σ)
      (go [s0, s1, s2, s8, s9, t23] σ))
      (Do (aBin Go.Proofs.Try.prog .lss 3 s9 s8) fun t38 =>
  Do (aGuard t38 true (aIs s2)) fun t40 =>
  Do (aGuard t38 true (aIs s0)) fun t41 =>
  Do (aGuard t38 true (aIs s9)) fun t42 =>
  Do (aGuard t38 true (aIndexAddr .slice 4 t41 t42)) fun t43 =>
  Do (aGuard t38 true (loadF true 4 t43)) fun t44 =>
  Do (aGuard t38 true (aIs s1)) fun t45 =>
  Do (aGuard t38 true (aPureV Go.Proofs.Try.prog t40 [t44, t45])) fun t46 =>
  Do (aGuard t38 true (aBin Go.Proofs.Try.prog .eql 3 t46 (.val (.int .i64 0)))) fun t47 =>
  Do (aPick t38 t47 (.val (.bool false))) fun t48 =>
  Q (.ret (.tuple [s9, t48])) σ))
    [a0, a1, a2, t13, (.val (.int .i64 0)), t13] σ
theorem slices_BinarySearchFunc.eq (a0 a1 a2 : AV) (σ : Store) (Q : AEnd → Store → Prop) : vc (semOf Go.Proofs.Try.prog slices_BinarySearchFunc.mark) Go.Proofs.Try.f44.ntmps slices_BinarySearchFunc.ann (bodyOf Go.Proofs.Try.f44) (endK [.tmp 6, .tmp 7] Q) (argFr [a0, a1, a2]) σ = slices_BinarySearchFunc.sh a0 a1 a2 σ Q := by kernel_rfl
theorem slices_BinarySearchFunc.go {a0 a1 a2 : AV} {σ : Store} {Q : AEnd → Store → Prop} (h : slices_BinarySearchFunc.sh a0 a1 a2 σ Q) : ACalls Go.Proofs.Try.prog 44 [a0, a1, a2] σ Q :=
  acalls_of_eq [.tmp 6, .tmp 7] Go.Proofs.Try.func44 (by kernel_rfl) (by kernel_rfl) (by kernel_rfl) (by kernel_rfl) (slices_BinarySearchFunc.eq a0 a1 a2 σ Q) h
theorem CompareString_ok (a b : List UInt8) : aPure Go.Proofs.Try.prog 61 [S a, S b] (I .i64 (cmpK a b)) := by
  refine internal_bytealg_CompareString.go ?_
  unfold internal_bytealg_CompareString.sh
  repeat' (first | with_reducible apply Stp.go | with_reducible refine imp fun _ => ?_ | (with_reducible refine hyp ?_ ?_; first | assumption | exact leftT_mem (by assumption)) | (with_reducible refine need ?_ ?_; first | trivial | omega | exact ⟨by assumption, by omega⟩ | (simp only [List.length_append, List.length_cons, List.length_nil, List.length_map, List.length_take, List.length_drop, List.length_replicate, List.length_set]; omega)) | (with_reducible refine fact ?_ ?_; first | trivial | exact ⟨rfl, rfl⟩ | kernel_rfl) | with_reducible refine choT (by assumption) ?_ | with_reducible refine choF (by assumption) ?_ | with_reducible refine choF' (by assumption) ?_ | (with_reducible refine altT ?_ ?_; first | omega | (simp only [List.length_append, List.length_cons, List.length_nil, List.length_map, List.length_take, List.length_drop, List.length_replicate, List.length_set]; omega)) | with_reducible refine altF ?_ | with_reducible refine all fun _ => ?_ | with_reducible refine both ?_ ?_ | (with_reducible refine choT ?_ ?_; omega) | (with_reducible refine choF ?_ ?_; omega) | with_reducible refine cho (fun _ => ?_) (fun _ => ?_))
  exact ⟨rfl, rfl⟩
instance (a b : List UInt8) : PC Go.Proofs.Try.prog 61 [S a, S b] True (I .i64 (cmpK a b)) := ⟨fun _ => PC.of (CompareString_ok a b)⟩
theorem strings_Compare_ok (a b : List UInt8) : aPure Go.Proofs.Try.prog 46 [S a, S b] (I .i64 (cmpK a b)) := by
  refine strings_Compare.go ?_
  unfold strings_Compare.sh
  repeat' (first | with_reducible apply Stp.go | with_reducible refine imp fun _ => ?_ | (with_reducible refine hyp ?_ ?_; first | assumption | exact leftT_mem (by assumption)) | (with_reducible refine need ?_ ?_; first | trivial | omega | exact ⟨by assumption, by omega⟩ | (simp only [List.length_append, List.length_cons, List.length_nil, List.length_map, List.length_take, List.length_drop, List.length_replicate, List.length_set]; omega)) | (with_reducible refine fact ?_ ?_; first | trivial | exact ⟨rfl, rfl⟩ | kernel_rfl) | with_reducible refine choT (by assumption) ?_ | with_reducible refine choF (by assumption) ?_ | with_reducible refine choF' (by assumption) ?_ | (with_reducible refine altT ?_ ?_; first | omega | (simp only [List.length_append, List.length_cons, List.length_nil, List.length_map, List.length_take, List.length_drop, List.length_replicate, List.length_set]; omega)) | with_reducible refine altF ?_ | with_reducible refine all fun _ => ?_ | with_reducible refine both ?_ ?_ | (with_reducible refine choT ?_ ?_; omega) | (with_reducible refine choF ?_ ?_; omega) | with_reducible refine cho (fun _ => ?_) (fun _ => ?_))
  exact ⟨rfl, rfl⟩
instance (a b : List UInt8) : PC Go.Proofs.Try.prog 46 [S a, S b] True (I .i64 (cmpK a b)) := ⟨fun _ => PC.of (strings_Compare_ok a b)⟩
theorem half_ok {n : Nat} (h : n < 18446744073709551616) : (UInt64.ofNat n >>> UInt64.ofNat 1).toNat = n / 2 := by
  rw [UInt64.toNat_shiftRight, u64_len h]
  simp [Nat.shiftRight_eq_div_pow]
theorem Search_ok (l : List En) (m : SM) (k : List UInt8) (g : FuncId) (hg : ∀ e : En, aPure Go.Proofs.Try.prog g [e.av, S k] (I .i64 (cmpK e.key k))) (hr : Rises l) (hl : l.length ≤ 1000000000000) :
    aPure Go.Proofs.Try.prog 44 [.lst 4 (l.map En.av) m, S k, .val (.func (.func g) #[] #[])] (.tuple [I .i64 (placeN l k : Nat), B (hasK l k)]) := by
  have inst : ∀ e : En, PC Go.Proofs.Try.prog g [e.av, S k] True (I .i64 (cmpK e.key k)) := fun e => ⟨fun _ => PC.of (hg e)⟩
  refine slices_BinarySearchFunc.go ?_
  unfold slices_BinarySearchFunc.sh
  have hp := placeN_le l k
  repeat' (first | with_reducible apply Stp.go | with_reducible refine imp fun _ => ?_ | (with_reducible refine hyp ?_ ?_; first | assumption | exact leftT_mem (by assumption)) | (with_reducible refine need ?_ ?_; first | trivial | omega | exact ⟨by assumption, by omega⟩ | (simp only [List.length_append, List.length_cons, List.length_nil, List.length_map, List.length_take, List.length_drop, List.length_replicate, List.length_set]; omega)) | (with_reducible refine fact ?_ ?_; first | trivial | exact ⟨rfl, rfl⟩ | kernel_rfl) | with_reducible refine choT (by assumption) ?_ | with_reducible refine choF (by assumption) ?_ | with_reducible refine choF' (by assumption) ?_ | (with_reducible refine altT ?_ ?_; first | omega | (simp only [List.length_append, List.length_cons, List.length_nil, List.length_map, List.length_take, List.length_drop, List.length_replicate, List.length_set]; omega)) | with_reducible refine altF ?_ | with_reducible refine all fun _ => ?_ | with_reducible refine both ?_ ?_ | (with_reducible refine choT ?_ ?_; omega) | (with_reducible refine choF ?_ ?_; omega) | with_reducible refine cho (fun _ => ?_) (fun _ => ?_))
  refine loopI (β := Nat × Nat) (fun x => x.1 ≤ placeN l k ∧ placeN l k ≤ x.2 ∧ x.2 ≤ l.length) (fun x => [.lst 4 (l.map En.av) m, S k, .val (.func (.func g) #[] #[]), I .i64 (l.length : Nat), I .i64 (x.1 : Nat), I .i64 (x.2 : Nat)]) (fun _ => []) (fun x => x.2 - x.1) (0, l.length) ⟨Nat.zero_le _, hp, Nat.le_refl _⟩ (Sub.refl _ _) ?_
  rintro ⟨i, j⟩ ⟨h1, h2, h3⟩
  dsimp only at h1 h2 h3 ⊢
  have hh := half_ok (n := i + j) (by omega)
  repeat' (first | with_reducible apply Stp.go | with_reducible refine imp fun _ => ?_ | (with_reducible refine hyp ?_ ?_; first | assumption | exact leftT_mem (by assumption)) | (with_reducible refine need ?_ ?_; first | trivial | omega | exact ⟨by assumption, by omega⟩ | (simp only [List.length_append, List.length_cons, List.length_nil, List.length_map, List.length_take, List.length_drop, List.length_replicate, List.length_set]; omega)) | (with_reducible refine fact ?_ ?_; first | trivial | exact ⟨rfl, rfl⟩ | kernel_rfl) | with_reducible refine choT (by assumption) ?_ | with_reducible refine choF (by assumption) ?_ | with_reducible refine choF' (by assumption) ?_ | (with_reducible refine altT ?_ ?_; first | omega | (simp only [List.length_append, List.length_cons, List.length_nil, List.length_map, List.length_take, List.length_drop, List.length_replicate, List.length_set]; omega)) | with_reducible refine altF ?_ | with_reducible refine all fun _ => ?_ | with_reducible refine both ?_ ?_ | (with_reducible refine choT ?_ ?_; omega) | (with_reducible refine choF ?_ ?_; omega) | with_reducible refine cho (fun _ => ?_) (fun _ => ?_))
  · rename_i h4 h5
    rw [hh] at h5 ⊢
    rw [cmpK_lt, place_at hr k (by omega)] at h5
    exact again ((i + j) / 2 + 1, j) (by dsimp only; omega) ⟨by dsimp only; omega, h2, h3⟩ (Sub.refl _ _)
  · rename_i h4 h5
    rw [hh] at h5 ⊢
    rw [cmpK_lt, place_at hr k (by omega)] at h5
    exact again (i, (i + j) / 2) (by dsimp only; omega) ⟨h1, by dsimp only; omega, by dsimp only; omega⟩ (Sub.refl _ _)
  · rename_i h4 h5
    have e : i = placeN l k := by omega
    subst e
    have e2 : decide (cmpK (l.getD (placeN l k) default).key k = 0) = hasK l k := by
      rw [has_place hr k, decide_eq_true h5, Bool.true_and]
      simp only [cmpK_zero]
    rw [e2]
    exact ⟨rfl, rfl⟩
  · rename_i h4 h5
    have e : i = placeN l k := by omega
    have e2 : hasK l k = false := by rw [has_place hr k, decide_eq_false (by omega), Bool.false_and]
    rw [e, e2]
    exact ⟨rfl, rfl⟩
end Go.Ab

/- The sum of a text: bytes put behind one another; the sum of all. -/
set_option linter.unusedVariables false
set_option linter.unusedSimpArgs false
namespace Go.Ab
/-- A call with what is known of what it hands back, memory handed over told as memory that turns no more. -/
instance (priority := 65) ecallQG {P : Program} {f : FuncId} {args args' : List AV} {σ σ' : Store} {k kp : AV → Store → Prop} {pre : Prop} {β : Type} {c : β → Prop} {r : β → AV} {s : β → Store} [hg : Give σ args σ' args'] [h : EQ P f args' σ' pre β c r s] : Stp (aCall P f args σ k kp) (Need pre (All fun y => Imp (c y) (k (r y) (s y)))) := ⟨fun ⟨h1, h2⟩ =>
  Or.inl ⟨σ', args', hg.sub, (h.ct h1).mono fun x τ ⟨y, e0, e1, e2⟩ => by rw [e1, e2]; exact h2 y e0⟩⟩
/-- A call that turns one variable, wherever it stands, with what is known of it. -/
theorem ACalls.atE {P : Program} {f : FuncId} {args : List AV} {b : Nat} {t : TypeId} {cs : List AV} {σ rest : Store} {put : Ent → Store} {β : Type} {c : β → Prop} {r : β → AV} {cs' : β → List AV} [hv : VarAt b σ t cs put rest] (h : ACalls P f args [.var b t cs] fun x σ' => ∃ y, c y ∧ x = .ret (r y) ∧ σ' = [.var b t (cs' y)]) : ACalls P f args σ fun x σ' => ∃ y, c y ∧ x = .ret (r y) ∧ σ' = put (.var b t (cs' y)) := by
  obtain ⟨σ1, σ2, rfl, e2, rfl⟩ := hv.at_
  have hp : (σ1 ++ Ent.var b t cs :: σ2).Perm ([Ent.var b t cs] ++ (σ1 ++ σ2)) := List.perm_middle
  have hq : ∀ cs', ([Ent.var b t cs'] ++ (σ1 ++ σ2)).Perm (σ1 ++ Ent.var b t cs' :: σ2) := fun cs' => (List.perm_middle (a := Ent.var b t cs') (l₁ := σ1) (l₂ := σ2)).symm
  refine ACalls.preS ?_ (Sub.perm hp args)
  refine ⟨h.1, fun R w vs hvs hs => ((h.frame (σ1 ++ σ2)).2 R w vs hvs hs).mono ?_⟩
  rintro en w' ⟨x, R', σ', k1, ⟨τ, h1, _, y, g1, g2, g3⟩, k3, k4⟩
  subst g3
  rw [h1] at k3 k4
  exact ⟨x, R', _, k1, ⟨y, g1, g2, rfl⟩, by rw [e2]; exact k3.perm (hq _), by rw [e2]; exact k4.trans (Less.ext (Less.perm (hq _)))⟩
instance blockI {b : Nat} {h : List UInt32} {p : List UInt8} {q : Nat} {s : UInt64} {σ rest : Store} {put : Ent → Store} [hv : VarAt b σ HT (hsCs h shaK p q s) put rest] : EC Go.Proofs.Try.prog 60 [ptrAt b 0, .val (.slice (some ⟨b, 72, none⟩) 64 64)] σ (hsOk h shaK p) Unit (fun _ => .tuple []) (fun _ => put (.var b HT (hsCs (shaBlock h p) shaK p q s))) := ⟨fun hh =>
  (ACalls.at_ (block_ok b h p q s hh)).mono fun x σ' ⟨g1, g2⟩ => ⟨(), g1, g2⟩⟩
class SzOne (P : Program) (t : TypeId) : Prop where
  h : ∃ E, szOf P t = some (E, 1)
instance : SzOne Go.Proofs.Try.prog 27 := ⟨⟨5, by kernel_rfl⟩⟩
/-- What is held, with bytes laid over it. -/
def over (p : List UInt8) (q : Nat) (l : List UInt8) : List UInt8 := p.take q ++ l ++ p.drop (q + l.length)
instance cpHs {P : Program} {t xt T : TypeId} {b q q' c : Nat} {n : Nat} {h k : List UInt32} {p l : List UInt8} {s : UInt64} {m : SM} {K : AV → Store → Prop} [hz : SzOne P t] : Stp (aHook (eCopy P t xt (.val (.slice (some ⟨b, 72 + q, none⟩) n c)) (.lst 1 (l.map byt) m) [.var b T (hsCs h k p q' s)]) K) (Need (hsOk h k p ∧ q + n ≤ 64) (K (I .i64 (min l.length n : Nat)) [.var b T (hsCs h k (over p q (l.take (min l.length n))) q' s)])) := ⟨fun ⟨⟨hh, hq⟩, hK⟩ => by
  obtain ⟨E, hE⟩ := hz.h
  refine ⟨_, Or.inl ⟨1, l.map byt, ⟨rfl, rfl⟩, ⟨rfl, rfl, E, T, _, hE, List.mem_singleton.2 rfl, by rw [hs_len hh]; show 72 + q + n ≤ 138; omega, fun y hy => ?_⟩, rfl⟩, ?_⟩
  · obtain ⟨c, _, rfl⟩ := List.mem_map.1 hy
    exact ⟨rfl, rfl⟩
  · rintro u σ' ⟨tt, cs, σ1, σ2, e, e2, e3⟩
    have : σ1 = [] ∧ σ2 = [] ∧ tt = T ∧ cs = hsCs h k p q' s := by
      cases σ1 with
      | nil => simp only [List.nil_append, List.cons.injEq, Ent.var.injEq] at e; exact ⟨rfl, e.2.symm, e.1.2.1.symm, e.1.2.2.symm⟩
      | cons a σ1 => simp at e
    obtain ⟨rfl, rfl, rfl, rfl⟩ := this
    rw [e2, e3, List.length_map]
    have hl : (l.take (min l.length n)).length = min l.length n := by simp
    have e4 : splice (hsCs h k p q' s) (72 + q) (((l.map byt).take (min l.length n))) = hsCs h k (over p q (l.take (min l.length n))) q' s := by
      have h3 := hh.2.2
      rw [← List.map_take]
      generalize l.take (min l.length n) = y at hl
      have hy : q + y.length ≤ 64 := by omega
      have e5 : hsCs h k p q' s = (h.map wrd ++ (k.map wrd ++ (p.take q).map byt)) ++ ((p.drop q).map byt ++ [I .i64 (q' : Nat), W64 s]) := by
        have : p.map byt = (p.take q).map byt ++ (p.drop q).map byt := by rw [← List.map_append, List.take_append_drop]
        rw [hsCs, this]
        simp only [List.append_assoc]
      have e6 : (h.map wrd ++ (k.map wrd ++ (p.take q).map byt)).length = 72 + q := by
        simp [hh.1, hh.2.1, h3]; omega
      rw [e5]
      unfold splice
      rw [← e6, List.take_left, ← List.drop_drop, List.drop_left, List.length_map, List.drop_append_of_le_length (by simp; omega), ← List.map_drop, List.drop_drop, over, hsCs]
      simp
    show K _ ([] ++ Ent.var b tt (splice (hsCs h k p q' s) (72 + q) ((l.map byt).take (min l.length n))) :: [])
    rw [e4]
    exact hK⟩
theorem shaAll_64 {h : List UInt32} (a b : List UInt8) (ha : a.length = 64) : shaAll h (a ++ b) = shaAll (shaBlock h a) b := by
  rw [shaAll_ge (by simp; omega), ← ha, List.take_left, List.drop_left]
theorem shaRest_64 (a b : List UInt8) (ha : a.length = 64) : shaRest (a ++ b) = shaRest b := by
  unfold shaRest
  rw [List.length_append, ha, show (64 + b.length) / 64 * 64 = a.length + b.length / 64 * 64 by omega, ← List.drop_drop, List.drop_left]
def sum_Hash_Write.mark : Mark := ⟨fun t => false, fun t => false, fun t => false, fun t => false, fun t => false⟩
def sum_Hash_Write.ann : Ann := ⟨fun n => bif Nat.beq n 1 then [0, 1] else [], fun n => none, fun n => none⟩
/-- '(*marlstone/sum.Hash).Write' -/
def sum_Hash_Write.sh (a0 a1 : AV) (σ : Store) (Q : AEnd → Store → Prop) : Prop :=
  Do (aNil a0) fun t6 =>
  Do (aFieldAddr 137 1 t6) fun t7 =>
  Do (loadA false 1 t7 σ) fun t8 =>
  Do (aBuiltin Go.Proofs.Try.prog .len #[27] [a1]) fun t10 =>
  Do (fun x => aConvN 3 78 t10 x Go.Proofs.Try.prog) fun t11 =>
  Do (aBin Go.Proofs.Try.prog .add 78 t8 t11) fun t12 =>
  Do (aNil a0) fun t13 =>
  Do (aFieldAddr 137 1 t13) fun t14 =>
  storeA 1 t14 t12 σ fun u σ =>
  aLoop (fun go vs σ_1 =>
    At vs 0 fun s0 => At vs 1 fun s1 => Do (aBuiltin Go.Proofs.Try.prog .len #[27] [s1]) fun t16 =>
    Do (aBin Go.Proofs.Try.prog .gtr 3 t16 (.val (.int .i64 0))) fun t17 =>
    aCond t17
      (Do (aNil s0) fun t19 =>
    Do (aFieldAddr 72 64 t19) fun t20 =>
    Do (aNil s0) fun t22 =>
    Do (aFieldAddr 136 1 t22) fun t23 =>
    Do (loadA false 1 t23 σ_1) fun t24 =>
    Do (aSlice (.array 64) 1 t20 (some t24) none none) fun t25 =>
    aHook (eCopy Go.Proofs.Try.prog 27 27 t25 s1 σ_1) fun t27 σ_2 =>
    Do (aNil s0) fun t29 =>
    Do (aFieldAddr 136 1 t29) fun t30 =>
    Do (loadA false 1 t30 σ_2) fun t31 =>
    Do (aBin Go.Proofs.Try.prog .add 3 t31 t27) fun t33 =>
    Do (aNil s0) fun t34 =>
    Do (aFieldAddr 136 1 t34) fun t35 =>
    storeA 1 t35 t33 σ_2 fun u_1 σ_3 =>
    Do (aSlice .slice 1 s1 (some t27) none none) fun t38 =>
    Do (aNil s0) fun t40 =>
    Do (aFieldAddr 136 1 t40) fun t41 =>
    Do (loadA false 1 t41 σ_3) fun t42 =>
    Do (aBin Go.Proofs.Try.prog .eql 3 t42 (.val (.int .i64 64))) fun t43 =>
    aCond t43
      (Do (aNil s0) fun t46 =>
      Do (aFieldAddr 72 64 t46) fun t47 =>
      Do (aSlice (.array 64) 1 t47 none none none) fun t48 =>
      aCall Go.Proofs.Try.prog 60 [s0, t48] σ_3 (fun t49 σ_4 =>
      Do (aNil s0) fun t51 =>
      Do (aFieldAddr 136 1 t51) fun t52 =>
      storeA 1 t52 (.val (.int .i64 0)) σ_4 fun u_2 σ_5 =>
      go [s0, t38] σ_5) (fun e σ_6 => Q (.pan e) σ_6))
      (go [s0, t38] σ_3))
      (Q (.ret (.tuple [])) σ_1))
    [a0, a1] σ
theorem sum_Hash_Write.eq (a0 a1 : AV) (σ : Store) (Q : AEnd → Store → Prop) : vc (semOf Go.Proofs.Try.prog sum_Hash_Write.mark) Go.Proofs.Try.f42.ntmps sum_Hash_Write.ann (bodyOf Go.Proofs.Try.f42) (endK [] Q) (argFr [a0, a1]) σ = sum_Hash_Write.sh a0 a1 σ Q := by kernel_rfl
theorem sum_Hash_Write.go {a0 a1 : AV} {σ : Store} {Q : AEnd → Store → Prop} (h : sum_Hash_Write.sh a0 a1 σ Q) : ACalls Go.Proofs.Try.prog 42 [a0, a1] σ Q :=
  acalls_of_eq [] Go.Proofs.Try.func42 (by kernel_rfl) (by kernel_rfl) (by kernel_rfl) (by kernel_rfl) (sum_Hash_Write.eq a0 a1 σ Q) h
theorem over_take {p : List UInt8} {q : Nat} {l : List UInt8} (hq : q ≤ p.length) : (over p q l).take (q + l.length) = p.take q ++ l := by
  have e : (p.take q ++ l).length = q + l.length := by simp; omega
  rw [over, ← e, List.take_left]
theorem over_length {p : List UInt8} {q : Nat} {l : List UInt8} (hq : q + l.length ≤ p.length) : (over p q l).length = p.length := by
  simp [over]; omega
theorem Write_ok (b : Nat) (h : List UInt32) (p : List UInt8) (q : Nat) (s : UInt64) (l : List UInt8) (m : SM) (hh : hsOk h shaK p) (hq : q < 64) (hl : l.length ≤ 1000000000000000) : ACalls Go.Proofs.Try.prog 42 [ptrAt b 0, .lst 1 (l.map byt) m] [.var b HT (hsCs h shaK p q s)]
    fun x σ' => ∃ y : List UInt8, (y.length = 64 ∧ y.take ((p.take q ++ l).length % 64) = shaRest (p.take q ++ l)) ∧ x = .ret (.tuple []) ∧ σ' = [.var b HT (hsCs (shaAll h (p.take q ++ l)) shaK y ((p.take q ++ l).length % 64) (s + UInt64.ofNat l.length))] := by
  refine sum_Hash_Write.go ?_
  unfold sum_Hash_Write.sh
  repeat' (first | with_reducible apply Stp.go | with_reducible refine imp fun _ => ?_ | (with_reducible refine hyp ?_ ?_; first | assumption | exact leftT_mem (by assumption)) | (with_reducible refine need ?_ ?_; first | trivial | omega | exact ⟨by assumption, by omega⟩ | (simp only [List.length_append, List.length_cons, List.length_nil, List.length_map, List.length_take, List.length_drop, List.length_replicate, List.length_set]; omega)) | (with_reducible refine fact ?_ ?_; first | trivial | exact ⟨rfl, rfl⟩ | kernel_rfl) | with_reducible refine choT (by assumption) ?_ | with_reducible refine choF (by assumption) ?_ | with_reducible refine choF' (by assumption) ?_ | (with_reducible refine altT ?_ ?_; first | omega | (simp only [List.length_append, List.length_cons, List.length_nil, List.length_map, List.length_take, List.length_drop, List.length_replicate, List.length_set]; omega)) | with_reducible refine altF ?_ | with_reducible refine all fun _ => ?_ | with_reducible refine both ?_ ?_ | (with_reducible refine choT ?_ ?_; omega) | (with_reducible refine choF ?_ ?_; omega) | with_reducible refine cho (fun _ => ?_) (fun _ => ?_))
  obtain ⟨s2, hs2⟩ : ∃ s2, s2 = s + UInt64.ofNat l.length := ⟨_, rfl⟩
  obtain ⟨A, hA⟩ : ∃ A, A = p.take q ++ l := ⟨_, rfl⟩
  rw [← hs2, ← hA]
  refine loopI (β := List UInt32 × List UInt8 × Nat × List UInt8 × SM) (fun x => hsOk x.1 shaK x.2.1 ∧ x.2.2.1 < 64 ∧ x.2.2.2.1.length ≤ 1000000000000000 ∧ shaAll x.1 (x.2.1.take x.2.2.1 ++ x.2.2.2.1) = shaAll h A ∧ shaRest (x.2.1.take x.2.2.1 ++ x.2.2.2.1) = shaRest A ∧ (x.2.2.1 + x.2.2.2.1.length) % 64 = A.length % 64)
    (fun x => [ptrAt b 0, .lst 1 (x.2.2.2.1.map byt) x.2.2.2.2]) (fun x => [.var b HT (hsCs x.1 shaK x.2.1 x.2.2.1 s2)]) (fun x => x.2.2.2.1.length) (h, p, q, l, m) ⟨hh, hq, hl, by rw [hA], by rw [hA], by rw [hA]; simp [hh.2.2]; omega⟩ (Sub.refl _ _) ?_
  rintro ⟨h1, p1, q1, l1, m1⟩ ⟨g1, g2, g3, g4, g5, g6⟩
  dsimp only at g1 g2 g3 g4 g5 g6 ⊢
  have hp1 := g1.2.2
  by_cases h0 : 0 < l1.length
  · have hy : (l1.take (min l1.length (64 - q1))).length = min l1.length (64 - q1) := by simp
    have hov : hsOk h1 shaK (over p1 q1 (l1.take (min l1.length (64 - q1)))) := ⟨g1.1, g1.2.1, by rw [over_length (by omega)]; exact hp1⟩
    have hot := over_take (p := p1) (q := q1) (l := l1.take (min l1.length (64 - q1))) (by omega)
    have hcut : p1.take q1 ++ l1 = (p1.take q1 ++ l1.take (min l1.length (64 - q1))) ++ l1.drop (min l1.length (64 - q1)) := by rw [List.append_assoc, List.take_append_drop]
    rw [hy] at hot
    repeat' (first | with_reducible apply Stp.go | with_reducible refine imp fun _ => ?_ | (with_reducible refine hyp ?_ ?_; first | assumption | exact leftT_mem (by assumption)) | (with_reducible refine need ?_ ?_; first | trivial | omega | exact ⟨by assumption, by omega⟩ | (simp only [List.length_append, List.length_cons, List.length_nil, List.length_map, List.length_take, List.length_drop, List.length_replicate, List.length_set]; omega)) | (with_reducible refine fact ?_ ?_; first | trivial | exact ⟨rfl, rfl⟩ | kernel_rfl) | with_reducible refine choT (by assumption) ?_ | with_reducible refine choF (by assumption) ?_ | with_reducible refine choF' (by assumption) ?_ | (with_reducible refine altT ?_ ?_; first | omega | (simp only [List.length_append, List.length_cons, List.length_nil, List.length_map, List.length_take, List.length_drop, List.length_replicate, List.length_set]; omega)) | with_reducible refine altF ?_ | with_reducible refine all fun _ => ?_ | with_reducible refine both ?_ ?_ | (with_reducible refine choT ?_ ?_; omega) | (with_reducible refine choF ?_ ?_; omega) | with_reducible refine cho (fun _ => ?_) (fun _ => ?_))
    · rename_i hf _
      refine need ⟨shaBlock_length g1.1 _, g1.2.1, hov.2.2⟩ ?_
      repeat' (first | with_reducible apply Stp.go | with_reducible refine imp fun _ => ?_ | (with_reducible refine hyp ?_ ?_; first | assumption | exact leftT_mem (by assumption)) | (with_reducible refine need ?_ ?_; first | trivial | omega | exact ⟨by assumption, by omega⟩ | (simp only [List.length_append, List.length_cons, List.length_nil, List.length_map, List.length_take, List.length_drop, List.length_replicate, List.length_set]; omega)) | (with_reducible refine fact ?_ ?_; first | trivial | exact ⟨rfl, rfl⟩ | kernel_rfl) | with_reducible refine choT (by assumption) ?_ | with_reducible refine choF (by assumption) ?_ | with_reducible refine choF' (by assumption) ?_ | (with_reducible refine altT ?_ ?_; first | omega | (simp only [List.length_append, List.length_cons, List.length_nil, List.length_map, List.length_take, List.length_drop, List.length_replicate, List.length_set]; omega)) | with_reducible refine altF ?_ | with_reducible refine all fun _ => ?_ | with_reducible refine both ?_ ?_ | (with_reducible refine choT ?_ ?_; omega) | (with_reducible refine choF ?_ ?_; omega) | with_reducible refine cho (fun _ => ?_) (fun _ => ?_))
      generalize hn : min l1.length (64 - q1) = n at *
      have hP : over p1 q1 (l1.take n) = p1.take q1 ++ l1.take n := by
        have h9 := hot
        rw [List.take_of_length_le (l := over p1 q1 (l1.take n)) (by rw [hov.2.2]; omega)] at h9
        exact h9
      have hPl : (p1.take q1 ++ l1.take n).length = 64 := by rw [← hP]; exact hov.2.2
      rw [hcut] at g4 g5
      rw [shaAll_64 _ _ hPl] at g4
      rw [shaRest_64 _ _ hPl] at g5
      refine again (shaBlock h1 (over p1 q1 (l1.take n)), over p1 q1 (l1.take n), 0, l1.drop n, .ro) (by dsimp only; rw [List.length_drop]; omega) ⟨⟨shaBlock_length g1.1 _, g1.2.1, hov.2.2⟩, by dsimp only; omega, by dsimp only; rw [List.length_drop]; omega, ?_, ?_, ?_⟩ (Sub.refl _ _)
      · dsimp only; rw [List.take_zero, List.nil_append, hP]; exact g4
      · dsimp only; rw [List.take_zero, List.nil_append]; exact g5
      · dsimp only; rw [List.length_drop]; omega
    · rename_i hf
      have hn : min l1.length (64 - q1) = l1.length := by omega
      rw [hn, List.take_of_length_le (Nat.le_refl _)] at hot hov
      rw [hn, List.take_of_length_le (Nat.le_refl _)]
      refine again (h1, over p1 q1 l1, q1 + l1.length, l1.drop l1.length, .ro) (by dsimp only; rw [List.length_drop]; omega) ⟨hov, by dsimp only; omega, by dsimp only; rw [List.length_drop]; omega, ?_, ?_, ?_⟩ (Sub.refl _ _)
      · dsimp only; rw [List.drop_length, List.append_nil, hot]; exact g4
      · dsimp only; rw [List.drop_length, List.append_nil, hot]; exact g5
      · dsimp only; rw [List.length_drop]; omega
  · have e : l1 = [] := List.length_eq_zero_iff.1 (by omega)
    subst e
    rw [List.append_nil] at g4 g5
    have hlt : (p1.take q1).length = q1 := by simp; omega
    rw [shaAll_lt (by omega)] at g4
    have e2 : shaRest (p1.take q1) = p1.take q1 := by unfold shaRest; rw [show (p1.take q1).length / 64 = 0 by omega]; rfl
    have e3 : A.length % 64 = q1 := by simp at g6; omega
    repeat' (first | with_reducible apply Stp.go | with_reducible refine imp fun _ => ?_ | (with_reducible refine hyp ?_ ?_; first | assumption | exact leftT_mem (by assumption)) | (with_reducible refine need ?_ ?_; first | trivial | omega | exact ⟨by assumption, by omega⟩ | (simp only [List.length_append, List.length_cons, List.length_nil, List.length_map, List.length_take, List.length_drop, List.length_replicate, List.length_set]; omega)) | (with_reducible refine fact ?_ ?_; first | trivial | exact ⟨rfl, rfl⟩ | kernel_rfl) | with_reducible refine choT (by assumption) ?_ | with_reducible refine choF (by assumption) ?_ | with_reducible refine choF' (by assumption) ?_ | (with_reducible refine altT ?_ ?_; first | omega | (simp only [List.length_append, List.length_cons, List.length_nil, List.length_map, List.length_take, List.length_drop, List.length_replicate, List.length_set]; omega)) | with_reducible refine altF ?_ | with_reducible refine all fun _ => ?_ | with_reducible refine both ?_ ?_ | (with_reducible refine choT ?_ ?_; omega) | (with_reducible refine choF ?_ ?_; omega) | with_reducible refine cho (fun _ => ?_) (fun _ => ?_))
    refine ⟨p1, ⟨hp1, ?_⟩, rfl, ?_⟩
    · rw [e3, ← g5, e2]
    · rw [← g4, e3]
instance {b : Nat} {h : List UInt32} {p l : List UInt8} {q : Nat} {s : UInt64} {m : SM} {σ rest : Store} {put : Ent → Store} [hv : VarAt b σ HT (hsCs h shaK p q s) put rest] : EQ Go.Proofs.Try.prog 42 [ptrAt b 0, .lst 1 (l.map byt) m] σ (hsOk h shaK p ∧ q < 64 ∧ l.length ≤ 1000000000000000) (List UInt8) (fun y => y.length = 64 ∧ y.take ((p.take q ++ l).length % 64) = shaRest (p.take q ++ l)) (fun _ => .tuple [])
    (fun y => put (.var b HT (hsCs (shaAll h (p.take q ++ l)) shaK y ((p.take q ++ l).length % 64) (s + UInt64.ofNat l.length)))) := ⟨fun ⟨h1, h2, h3⟩ => ACalls.atE (Write_ok b h p q s l m h1 h2 h3)⟩
class LenA (cs : List AV) (n : outParam Nat) : Prop where
  eq : cs.length = n
instance (n : Nat) (c : AV) : LenA (List.replicate n c) n := ⟨List.length_replicate⟩
instance (a b : List AV) (n m : Nat) [h : LenA a n] [k : LenA b m] : LenA (a ++ b) (n + m) := ⟨by rw [List.length_append, h.eq, k.eq]⟩
instance : LenA [] 0 := ⟨rfl⟩
instance (c : AV) (cs : List AV) (n : Nat) [h : LenA cs n] : LenA (c :: cs) (n + 1) := ⟨by rw [List.length_cons, h.eq]⟩
/-- A value stored whole over a variable's zeros. -/
instance (priority := 65) stHs {n : Nat} {b : Nat} {h k : List UInt32} {p : List UInt8} {q : Nat} {s : UInt64} {t : TypeId} {cs : List AV} {σ rest : Store} {put : Ent → Store} {K : AV → Store → Prop} [hv : VarAt b σ t cs put rest] [hc : LenA cs n] : Stp (storeA 138 (ptrAt b 0) (.agg (hsCs h k p q s)) σ K) (Need (hsOk h k p ∧ n = 138) (K .undef (put (.var b t (hsCs h k p q s))))) := ⟨fun ⟨⟨hh, h138⟩, hK⟩ => by
  have hc := hc.eq.trans h138
  obtain ⟨σ1, σ2, e, e2, _⟩ := hv.at_
  have hl := hs_len (q := q) (s := s) hh
  refine ⟨hl, fun c hc => ?_, rfl, σ1, σ2, t, cs, e, by rw [hc]; show 0 + 138 ≤ 138; omega, ?_⟩
  · have hc : c ∈ hsCs h k p q s := hc
    simp only [hsCs, List.mem_append, List.mem_map, List.mem_cons, List.not_mem_nil, or_false] at hc
    rcases hc with ⟨y, _, rfl⟩ | ⟨y, _, rfl⟩ | ⟨y, _, rfl⟩ | rfl | rfl <;> rfl
  · rw [e2] at hK
    have : splice cs 0 (AV.cells (.agg (hsCs h k p q s))) = hsCs h k p q s := by
      show splice cs 0 (hsCs h k p q s) = _
      unfold splice
      rw [List.take_zero, List.nil_append, hl, List.drop_of_length_le (by omega), List.append_nil]
    rw [this]
    exact hK⟩
instance (priority := 65) ldHsAll {b : Nat} {h k : List UInt32} {p : List UInt8} {q : Nat} {s : UInt64} {t : TypeId} {σ rest : Store} {put : Ent → Store} {K : AV → Prop} [hv : VarAt b σ t (hsCs h k p q s) put rest] : Stp (Do (loadA true 138 (ptrAt b 0) σ) K) (Need (hsOk h k p) (K (.agg (hsCs h k p q s)))) := ⟨fun ⟨hh, hK⟩ => by
  obtain ⟨σ1, σ2, e, _⟩ := hv.at_
  have hl := hs_len (q := q) (s := s) hh
  refine ⟨_, ⟨by decide, fun h => by (cases h), rfl, t, _, by rw [e]; exact List.mem_append.2 (.inr (List.mem_cons_self ..)), by rw [hl]; show 0 + 138 ≤ 138; omega, ?_⟩, hK⟩
  show _ = mkV true (((hsCs h k p q s).drop 0).take 138)
  rw [List.drop_zero, List.take_of_length_le (by omega)]
  rfl⟩
theorem be64_get (N j : Nat) (hj : j < 8) (hN : N ≤ 1000000000000000) : (be64 (8 * N)).getD j default = UInt8.ofNat ((8 * UInt64.ofNat N) >>> UInt64.ofNat (8 * (7 - j))).toNat := by
  have e1 : (8 * UInt64.ofNat N).toNat = 8 * N := by
    rw [UInt64.toNat_mul, u64_len (by omega), show UInt64.toNat 8 = 8 from rfl]
    exact Nat.mod_eq_of_lt (by omega)
  have e2 : ∀ k, k < 64 → ((8 * UInt64.ofNat N) >>> UInt64.ofNat k).toNat = 8 * N / 2 ^ k := by
    intro k hk
    rw [UInt64.toNat_shiftRight, e1, u64_len (by omega), Nat.mod_eq_of_lt hk, Nat.shiftRight_eq_div_pow]
  rw [e2 _ (by omega)]
  match j, hj with
  | 0, _ => rfl
  | 1, _ => rfl
  | 2, _ => rfl
  | 3, _ => rfl
  | 4, _ => rfl
  | 5, _ => rfl
  | 6, _ => rfl
  | 7, _ => show UInt8.ofNat (8 * N) = UInt8.ofNat (8 * N / 2 ^ 0); rw [Nat.pow_zero, Nat.div_one]
/-- A sum's bytes, so far. -/
def outTo (H : List UInt32) (i : Nat) : List UInt8 := shaOut (H.take i) ++ List.replicate (32 - 4 * i) 0
theorem outTo_length {H : List UInt32} (hH : H.length = 8) {i : Nat} (hi : i ≤ 8) : (outTo H i).length = 32 := by
  simp [outTo, shaOut_length, hH]; omega
theorem set_app {α : Type} (a b : List α) (i : Nat) (x : α) : (a ++ b).set (a.length + i) x = a ++ b.set i x := by
  rw [List.set_append_right _ _ (by omega), Nat.add_sub_cancel_left]
theorem outTo_set {H : List UInt32} (hH : H.length = 8) {i : Nat} (hi : i < 8) : ((((outTo H i).set (4 * i) (UInt8.ofNat ((H.getD i default) >>> UInt32.ofNat 24).toNat)).set (4 * i + 1) (UInt8.ofNat ((H.getD i default) >>> UInt32.ofNat 16).toNat)).set (4 * i + 2) (UInt8.ofNat ((H.getD i default) >>> UInt32.ofNat 8).toNat)).set (4 * i + 3) (UInt8.ofNat (H.getD i default).toNat) = outTo H (i + 1) := by
  have hl : (shaOut (H.take i)).length = 4 * i := by rw [shaOut_length, List.length_take]; omega
  have hr : List.replicate (32 - 4 * i) (0 : UInt8) = 0 :: 0 :: 0 :: 0 :: List.replicate (32 - 4 * (i + 1)) 0 := by
    rw [show 32 - 4 * i = (32 - 4 * (i + 1)) + 1 + 1 + 1 + 1 by omega]; rfl
  have hs : ∀ k, k < 32 → ((H.getD i default) >>> UInt32.ofNat k).toNat = (H.getD i default).toNat / 2 ^ k := by
    intro k hk
    have e : (UInt32.ofNat k).toNat = k := by rw [UInt32.toNat_ofNat']; exact Nat.mod_eq_of_lt (by omega)
    rw [UInt32.toNat_shiftRight, e, Nat.mod_eq_of_lt hk, Nat.shiftRight_eq_div_pow]
  rw [hs 24 (by decide), hs 16 (by decide), hs 8 (by decide)]
  rw [outTo, hr, ← hl, show (shaOut (H.take i)).length = (shaOut (H.take i)).length + 0 from rfl]
  simp only [Nat.add_zero]
  have s0 : ∀ (b : List UInt8) (x : UInt8), (shaOut (H.take i) ++ b).set (shaOut (H.take i)).length x = shaOut (H.take i) ++ b.set 0 x := fun b x => set_app _ b 0 x
  rw [s0, set_app, set_app, set_app, outTo, take_succ_d (by omega)]
  simp [shaOut, by32]
def sum_Hash_Sum.mark : Mark := ⟨fun t => false, fun t => Nat.beq t 16, fun t => false, fun t => false, fun t => false⟩
def sum_Hash_Sum.ann : Ann := ⟨fun n => bif Nat.beq n 4 then [2, 3, 4, 5] else bif Nat.beq n 7 then [2, 3, 4, 5, 6] else bif Nat.beq n 13 then [2, 7, 42, 43] else [], fun n => none, fun n => none⟩
/-- '(*marlstone/sum.Hash).Sum' -/
def sum_Hash_Sum.sh (a0 : AV) (σ : Store) (Q : AEnd → Store → Prop) : Prop :=
  aNewVar 45 [.val (.int .u8 0), .val (.int .u8 0), .val (.int .u8 0), .val (.int .u8 0), .val (.int .u8 0), .val (.int .u8 0), .val (.int .u8 0), .val (.int .u8 0), .val (.int .u8 0), .val (.int .u8 0), .val (.int .u8 0), .val (.int .u8 0), .val (.int .u8 0), .val (.int .u8 0), .val (.int .u8 0), .val (.int .u8 0), .val (.int .u8 0), .val (.int .u8 0), .val (.int .u8 0), .val (.int .u8 0), .val (.int .u8 0), .val (.int .u8 0), .val (.int .u8 0), .val (.int .u8 0), .val (.int .u8 0), .val (.int .u8 0), .val (.int .u8 0), .val (.int .u8 0), .val (.int .u8 0), .val (.int .u8 0), .val (.int .u8 0), .val (.int .u8 0)] σ fun t2 σ =>
  Do (aNil a0) fun t11 =>
  Do (loadA true 138 t11 σ) fun t12 =>
  aNewVar 94 ((List.replicate 72 (.val (.int .u32 0))) ++ ((List.replicate 64 (.val (.int .u8 0))) ++ ([.val (.int .i64 0), .val (.int .u64 0)]))) σ fun t3 σ_1 =>
  storeA 138 t3 t12 σ_1 fun u σ_2 =>
  Do (aFieldAddr 137 1 t3) fun t13 =>
  Do (loadA false 1 t13 σ_2) fun t14 =>
  Do (aBin Go.Proofs.Try.prog .mul 78 (W64 8) t14) fun t15 =>
  aRowL 5 (mkE [.val (.int .u8 0)]) 1 1 [(0, (W8 128))] σ_2 fun t16 σ_3 =>
  aLoop (fun go vs σ_4 =>
    At vs 0 fun s2 => At vs 1 fun s3 => At vs 2 fun s4 => At vs 3 fun s5 => Do (aFieldAddr 136 1 s3) fun t17 =>
    Do (loadA false 1 t17 σ_4) fun t18 =>
    Do (aBuiltin Go.Proofs.Try.prog .len #[27] [s5]) fun t20 =>
    Do (aBin Go.Proofs.Try.prog .add 3 t18 t20) fun t21 =>
    Do (aBin Go.Proofs.Try.prog .rem 3 t21 (.val (.int .i64 64))) fun t22 =>
    Do (aBin Go.Proofs.Try.prog .neq 3 t22 (.val (.int .i64 56))) fun t23 =>
    aCond t23
      (Do (aSlLit (mkE [.val (.int .u8 0)]) 1 1 [(0, (W8 0))]) fun t25 =>
    aAppend 5 1 1 s5 t25 σ_4 (subK fun t26 σ_5 =>
    go [s2, s3, s4, t26] σ_5))
      (aLoop (fun go_1 vs_1 σ_6 =>
    At vs_1 0 fun s2_1 => At vs_1 1 fun s3_1 => At vs_1 2 fun s4_1 => At vs_1 3 fun s5_1 => At vs_1 4 fun s6 => Do (aBin Go.Proofs.Try.prog .geq 3 s6 (.val (.int .i64 0))) fun t28 =>
    aCond t28
      (Do (aBin Go.Proofs.Try.prog .mul 3 (.val (.int .i64 8)) s6) fun t34 =>
    Do (aBin Go.Proofs.Try.prog .shr 78 s4_1 t34) fun t35 =>
    Do (fun x => aConvN 78 5 t35 x Go.Proofs.Try.prog) fun t36 =>
    Do (aSlLit (mkE [.val (.int .u8 0)]) 1 1 [(0, t36)]) fun t37 =>
    aAppend 5 1 1 s5_1 t37 σ_6 (subK fun t38 σ_7 =>
    Do (aBin Go.Proofs.Try.prog .sub 3 s6 (.val (.int .i64 1))) fun t30 =>
    go_1 [s2_1, s3_1, s4_1, t38, t30] σ_7))
      (aCall Go.Proofs.Try.prog 42 [s3_1, s5_1] σ_6 (fun t40 σ_8 =>
  aNewVar 45 [.val (.int .u8 0), .val (.int .u8 0), .val (.int .u8 0), .val (.int .u8 0), .val (.int .u8 0), .val (.int .u8 0), .val (.int .u8 0), .val (.int .u8 0), .val (.int .u8 0), .val (.int .u8 0), .val (.int .u8 0), .val (.int .u8 0), .val (.int .u8 0), .val (.int .u8 0), .val (.int .u8 0), .val (.int .u8 0), .val (.int .u8 0), .val (.int .u8 0), .val (.int .u8 0), .val (.int .u8 0), .val (.int .u8 0), .val (.int .u8 0), .val (.int .u8 0), .val (.int .u8 0), .val (.int .u8 0), .val (.int .u8 0), .val (.int .u8 0), .val (.int .u8 0), .val (.int .u8 0), .val (.int .u8 0), .val (.int .u8 0), .val (.int .u8 0)] σ_8 fun t7 σ_9 =>
  Do (aFieldAddr 0 8 s3_1) fun t41 =>
  Do (loadA true 8 t41 σ_9) fun t42 =>
  aLoop (fun go_2 vs_2 σ_10 =>
    At vs_2 0 fun s2_2 => At vs_2 1 fun s7 => At vs_2 2 fun s42 => At vs_2 3 fun s43 => Do (aBin Go.Proofs.Try.prog .lss 3 s43 (.val (.int .i64 8))) fun t44 =>
    aCond t44
      (Do (aIndex (.array 8) false 1 s42 s43) fun t46 =>
    Do (aBin Go.Proofs.Try.prog .mul 3 (.val (.int .i64 4)) s43) fun t48 =>
    Do (aBin Go.Proofs.Try.prog .mul 3 (.val (.int .i64 4)) s43) fun t50 =>
    Do (aBin Go.Proofs.Try.prog .add 3 t50 (.val (.int .i64 1))) fun t51 =>
    Do (aBin Go.Proofs.Try.prog .mul 3 (.val (.int .i64 4)) s43) fun t53 =>
    Do (aBin Go.Proofs.Try.prog .add 3 t53 (.val (.int .i64 2))) fun t54 =>
    Do (aBin Go.Proofs.Try.prog .mul 3 (.val (.int .i64 4)) s43) fun t56 =>
    Do (aBin Go.Proofs.Try.prog .add 3 t56 (.val (.int .i64 3))) fun t57 =>
    Do (aBin Go.Proofs.Try.prog .shr 79 t46 (W64 24)) fun t59 =>
    Do (fun x => aConvN 79 5 t59 x Go.Proofs.Try.prog) fun t60 =>
    Do (aBin Go.Proofs.Try.prog .shr 79 t46 (W64 16)) fun t62 =>
    Do (fun x => aConvN 79 5 t62 x Go.Proofs.Try.prog) fun t63 =>
    Do (aBin Go.Proofs.Try.prog .shr 79 t46 (W64 8)) fun t65 =>
    Do (fun x => aConvN 79 5 t65 x Go.Proofs.Try.prog) fun t66 =>
    Do (fun x => aConvN 79 5 t46 x Go.Proofs.Try.prog) fun t68 =>
    Do (aIndexAddr (.array 32) 1 s7 t48) fun t69 =>
    storeA 1 t69 t60 σ_10 fun u_1 σ_11 =>
    Do (aIndexAddr (.array 32) 1 s7 t51) fun t70 =>
    storeA 1 t70 t63 σ_11 fun u_2 σ_12 =>
    Do (aIndexAddr (.array 32) 1 s7 t54) fun t71 =>
    storeA 1 t71 t66 σ_12 fun u_3 σ_13 =>
    Do (aIndexAddr (.array 32) 1 s7 t57) fun t72 =>
    storeA 1 t72 t68 σ_13 fun u_4 σ_14 =>
    Do (aBin Go.Proofs.Try.prog .add 3 s43 (.val (.int .i64 1))) fun t73 =>
    go_2 [s2_2, s7, s42, t73] σ_14)
      (Do (loadA true 32 s7 σ_10) fun t74 =>
  storeA 32 s2_2 t74 σ_10 fun u_5 σ_15 =>
  Do (loadA true 32 s2_2 σ_15) fun r2 => Q (.ret r2) σ_15))
    [s2_1, t7, t42, (.val (.int .i64 0))] σ_9) (fun e σ_16 => Q (.pan e) σ_16)))
    [s2, s3, s4, s5, (.val (.int .i64 7))] σ_4))
    [t2, t3, t15, t16] σ_3
theorem sum_Hash_Sum.eq (a0 : AV) (σ : Store) (Q : AEnd → Store → Prop) : vc (semOf Go.Proofs.Try.prog sum_Hash_Sum.mark) Go.Proofs.Try.f43.ntmps sum_Hash_Sum.ann (bodyOf Go.Proofs.Try.f43) (endK [.cell 2 true 32] Q) (argFr [a0]) σ = sum_Hash_Sum.sh a0 σ Q := by kernel_rfl
theorem sum_Hash_Sum.go {a0 : AV} {σ : Store} {Q : AEnd → Store → Prop} (h : sum_Hash_Sum.sh a0 σ Q) : ACalls Go.Proofs.Try.prog 43 [a0] σ Q :=
  acalls_of_eq [.cell 2 true 32] Go.Proofs.Try.func43 (by kernel_rfl) (by kernel_rfl) (by kernel_rfl) (by kernel_rfl) (sum_Hash_Sum.eq a0 σ Q) h
theorem Sum_ok (b : Nat) (h : List UInt32) (p : List UInt8) (N : Nat) (hh : hsOk h shaK p) (hN : N ≤ 1000000000000000) : ACalls Go.Proofs.Try.prog 43 [ptrAt b 0] [.var b HT (hsCs h shaK p (N % 64) (UInt64.ofNat N))]
    fun x σ' => x = .ret (.agg ((shaOut (shaAll h (p.take (N % 64) ++ shaTail N))).map byt)) ∧ σ' = [.var b HT (hsCs h shaK p (N % 64) (UInt64.ofNat N))] := by
  refine ACalls.fin (sum_Hash_Sum.go ?_)
  unfold sum_Hash_Sum.sh
  have e8 : (8 * UInt64.ofNat N).toNat = 8 * N := by
    rw [UInt64.toNat_mul, u64_len (by omega), show UInt64.toNat 8 = 8 from rfl]
    exact Nat.mod_eq_of_lt (by omega)
  obtain ⟨z, hz⟩ : ∃ z, z = (119 - N % 64) % 64 := ⟨_, rfl⟩
  repeat' (first | with_reducible apply Stp.go | with_reducible refine imp fun _ => ?_ | (with_reducible refine hyp ?_ ?_; first | assumption | exact leftT_mem (by assumption)) | (with_reducible refine need ?_ ?_; first | trivial | omega | exact ⟨by assumption, by omega⟩ | (simp only [List.length_append, List.length_cons, List.length_nil, List.length_map, List.length_take, List.length_drop, List.length_replicate, List.length_set]; omega)) | (with_reducible refine fact ?_ ?_; first | trivial | exact ⟨rfl, rfl⟩ | kernel_rfl) | with_reducible refine choT (by assumption) ?_ | with_reducible refine choF (by assumption) ?_ | with_reducible refine choF' (by assumption) ?_ | (with_reducible refine altT ?_ ?_; first | omega | (simp only [List.length_append, List.length_cons, List.length_nil, List.length_map, List.length_take, List.length_drop, List.length_replicate, List.length_set]; omega)) | with_reducible refine altF ?_ | with_reducible refine all fun _ => ?_ | with_reducible refine both ?_ ?_ | (with_reducible refine choT ?_ ?_; omega) | (with_reducible refine choF ?_ ?_; omega) | with_reducible refine cho (fun _ => ?_) (fun _ => ?_))
  rename_i r x v0
  refine loopI (β := Nat × Value) (fun y => y.1 ≤ z) (fun y => [ptrAt r 0, ptrAt x 0, W64 (8 * UInt64.ofNat N), .own y.2 ((128 : UInt8) :: List.replicate y.1 0).length])
    (fun y => [.row y.2 5 1 (((128 : UInt8) :: List.replicate y.1 0).map byt) 0, .var x HT (hsCs h shaK p (N % 64) (UInt64.ofNat N)), .var r 45 ((List.replicate 32 (0 : UInt8)).map byt), .var b HT (hsCs h shaK p (N % 64) (UInt64.ofNat N))]) (fun y => z - y.1) (0, v0) (Nat.zero_le _) (Sub.refl _ _) ?_
  rintro ⟨j, v⟩ hj
  dsimp only at hj ⊢
  by_cases hlt : j < z
  · have hne : ¬ (N % 64 + ((128 : UInt8) :: List.replicate j 0).length) % 64 = 56 := by simp only [List.length_cons, List.length_replicate]; omega
    repeat' (first | with_reducible apply Stp.go | with_reducible refine imp fun _ => ?_ | (with_reducible refine hyp ?_ ?_; first | assumption | exact leftT_mem (by assumption)) | (with_reducible refine need ?_ ?_; first | trivial | omega | exact ⟨by assumption, by omega⟩ | (simp only [List.length_append, List.length_cons, List.length_nil, List.length_map, List.length_take, List.length_drop, List.length_replicate, List.length_set]; omega)) | (with_reducible refine fact ?_ ?_; first | trivial | exact ⟨rfl, rfl⟩ | kernel_rfl) | with_reducible refine choT (by assumption) ?_ | with_reducible refine choF (by assumption) ?_ | with_reducible refine choF' (by assumption) ?_ | (with_reducible refine altT ?_ ?_; first | omega | (simp only [List.length_append, List.length_cons, List.length_nil, List.length_map, List.length_take, List.length_drop, List.length_replicate, List.length_set]; omega)) | with_reducible refine altF ?_ | with_reducible refine all fun _ => ?_ | with_reducible refine both ?_ ?_ | (with_reducible refine choT ?_ ?_; omega) | (with_reducible refine choF ?_ ?_; omega) | with_reducible refine cho (fun _ => ?_) (fun _ => ?_))
    rename_i w
    refine again (j + 1, w) (by dsimp only; omega) (by dsimp only; omega) ?_
    have e : (128 : UInt8) :: List.replicate (j + 1) 0 = (128 :: List.replicate j 0) ++ [0] := by rw [List.replicate_succ']; rfl
    dsimp only
    rw [e]
    exact subS _
  · have e : j = z := by omega
    subst e
    have heq : (N % 64 + ((128 : UInt8) :: List.replicate j 0).length) % 64 = 56 := by simp only [List.length_cons, List.length_replicate]; omega
    obtain ⟨T, hT⟩ : ∃ T, T = (128 : UInt8) :: List.replicate j 0 := ⟨_, rfl⟩
    have hTl : T.length ≤ 64 := by rw [hT]; simp only [List.length_cons, List.length_replicate]; omega
    rw [← hT] at heq ⊢
    repeat' (first | with_reducible apply Stp.go | with_reducible refine imp fun _ => ?_ | (with_reducible refine hyp ?_ ?_; first | assumption | exact leftT_mem (by assumption)) | (with_reducible refine need ?_ ?_; first | trivial | omega | exact ⟨by assumption, by omega⟩ | (simp only [List.length_append, List.length_cons, List.length_nil, List.length_map, List.length_take, List.length_drop, List.length_replicate, List.length_set]; omega)) | (with_reducible refine fact ?_ ?_; first | trivial | exact ⟨rfl, rfl⟩ | kernel_rfl) | with_reducible refine choT (by assumption) ?_ | with_reducible refine choF (by assumption) ?_ | with_reducible refine choF' (by assumption) ?_ | (with_reducible refine altT ?_ ?_; first | omega | (simp only [List.length_append, List.length_cons, List.length_nil, List.length_map, List.length_take, List.length_drop, List.length_replicate, List.length_set]; omega)) | with_reducible refine altF ?_ | with_reducible refine all fun _ => ?_ | with_reducible refine both ?_ ?_ | (with_reducible refine choT ?_ ?_; omega) | (with_reducible refine choF ?_ ?_; omega) | with_reducible refine cho (fun _ => ?_) (fun _ => ?_))
    refine loopI (β := Nat × Value) (fun y => y.1 ≤ 8) (fun y => [ptrAt r 0, ptrAt x 0, W64 (8 * UInt64.ofNat N), .own y.2 (T ++ (be64 (8 * N)).take y.1).length, I .i64 (7 - (y.1 : Int))])
      (fun y => [.row y.2 5 1 ((T ++ (be64 (8 * N)).take y.1).map byt) 0, .var x HT (hsCs h shaK p (N % 64) (UInt64.ofNat N)), .var r 45 ((List.replicate 32 (0 : UInt8)).map byt), .var b HT (hsCs h shaK p (N % 64) (UInt64.ofNat N))]) (fun y => 8 - y.1) (0, v) (Nat.zero_le _) ?_ ?_
    · dsimp only
      rw [List.take_zero, List.append_nil]
      exact Sub.refl _ _
    rintro ⟨i, w⟩ hi
    dsimp only at hi ⊢
    have hTi : (T ++ (be64 (8 * N)).take i).length ≤ 72 := by rw [List.length_append, List.length_take]; have : (be64 (8 * N)).length = 8 := rfl; omega
    by_cases h7 : i < 8
    · have e7 : (7 : Int) - (i : Int) = ((7 - i : Nat) : Int) := by omega
      have h0 : (0 : Nat) ≤ 7 - i := Nat.zero_le _
      rw [e7]
      repeat' (first | with_reducible apply Stp.go | with_reducible refine imp fun _ => ?_ | (with_reducible refine hyp ?_ ?_; first | assumption | exact leftT_mem (by assumption)) | (with_reducible refine need ?_ ?_; first | trivial | omega | exact ⟨by assumption, by omega⟩ | (simp only [List.length_append, List.length_cons, List.length_nil, List.length_map, List.length_take, List.length_drop, List.length_replicate, List.length_set]; omega)) | (with_reducible refine fact ?_ ?_; first | trivial | exact ⟨rfl, rfl⟩ | kernel_rfl) | with_reducible refine choT (by assumption) ?_ | with_reducible refine choF (by assumption) ?_ | with_reducible refine choF' (by assumption) ?_ | (with_reducible refine altT ?_ ?_; first | omega | (simp only [List.length_append, List.length_cons, List.length_nil, List.length_map, List.length_take, List.length_drop, List.length_replicate, List.length_set]; omega)) | with_reducible refine altF ?_ | with_reducible refine all fun _ => ?_ | with_reducible refine both ?_ ?_ | (with_reducible refine choT ?_ ?_; omega) | (with_reducible refine choF ?_ ?_; omega) | with_reducible refine cho (fun _ => ?_) (fun _ => ?_))
      rename_i u
      refine again (i + 1, u) (by dsimp only; omega) (by dsimp only; omega) ?_
      have e9 : ((7 - i : Nat) : Int) - 1 = 7 - ((i + 1 : Nat) : Int) := by omega
      have e10 : T ++ (be64 (8 * N)).take (i + 1) = T ++ (be64 (8 * N)).take i ++ [UInt8.ofNat ((8 * UInt64.ofNat N) >>> UInt64.ofNat (8 * (7 - i))).toNat] := by
        rw [take_succ_d (by have : (be64 (8 * N)).length = 8 := rfl; omega), be64_get N i h7 hN, List.append_assoc]
      dsimp only
      rw [e10, e9]
      exact subS _
    · have e : i = 8 := by omega
      subst e
      have e7 : (7 : Int) - ((8 : Nat) : Int) = -1 := by omega
      have h0 : ¬ (0 : Int) ≤ -1 := by omega
      rw [e7]
      have hTt : T ++ (be64 (8 * N)).take 8 = shaTail N := by rw [hT, hz]; rfl
      rw [hTt] at hTi ⊢
      repeat' (first | with_reducible apply Stp.go | with_reducible refine imp fun _ => ?_ | (with_reducible refine hyp ?_ ?_; first | assumption | exact leftT_mem (by assumption)) | (with_reducible refine need ?_ ?_; first | trivial | omega | exact ⟨by assumption, by omega⟩ | (simp only [List.length_append, List.length_cons, List.length_nil, List.length_map, List.length_take, List.length_drop, List.length_replicate, List.length_set]; omega)) | (with_reducible refine fact ?_ ?_; first | trivial | exact ⟨rfl, rfl⟩ | kernel_rfl) | with_reducible refine choT (by assumption) ?_ | with_reducible refine choF (by assumption) ?_ | with_reducible refine choF' (by assumption) ?_ | (with_reducible refine altT ?_ ?_; first | omega | (simp only [List.length_append, List.length_cons, List.length_nil, List.length_map, List.length_take, List.length_drop, List.length_replicate, List.length_set]; omega)) | with_reducible refine altF ?_ | with_reducible refine all fun _ => ?_ | with_reducible refine both ?_ ?_ | (with_reducible refine choT ?_ ?_; omega) | (with_reducible refine choF ?_ ?_; omega) | with_reducible refine cho (fun _ => ?_) (fun _ => ?_))
      rename_i y hy d
      obtain ⟨H, hH⟩ : ∃ H, H = shaAll h (p.take (N % 64) ++ shaTail N) := ⟨_, rfl⟩
      have hH8 : H.length = 8 := by rw [hH]; exact shaAll_length _ _ hh.1
      rw [← hH]
      refine need ⟨hH8, rfl, hy.1⟩ ?_
      refine loopI (β := Nat) (fun i => i ≤ 8) (fun i => [ptrAt r 0, ptrAt d 0, .agg (H.map wrd), I .i64 (i : Nat)]) (fun i => [.var d 45 ((outTo H i).map byt), .var r 45 ((List.replicate 32 (0 : UInt8)).map byt), .var b HT (hsCs h shaK p (N % 64) (UInt64.ofNat N))]) (fun i => 8 - i) 0 (Nat.zero_le _) (by have e0 : outTo H 0 = List.replicate 32 0 := (by simp [outTo, shaOut]); rw [e0]; exact subS _) ?_
      intro i hi
      have ho := outTo_length hH8 hi
      by_cases hlt : i < 8
      · repeat' (first | with_reducible apply Stp.go | with_reducible refine imp fun _ => ?_ | (with_reducible refine hyp ?_ ?_; first | assumption | exact leftT_mem (by assumption)) | (with_reducible refine need ?_ ?_; first | trivial | omega | exact ⟨by assumption, by omega⟩ | (simp only [List.length_append, List.length_cons, List.length_nil, List.length_map, List.length_take, List.length_drop, List.length_replicate, List.length_set]; omega)) | (with_reducible refine fact ?_ ?_; first | trivial | exact ⟨rfl, rfl⟩ | kernel_rfl) | with_reducible refine choT (by assumption) ?_ | with_reducible refine choF (by assumption) ?_ | with_reducible refine choF' (by assumption) ?_ | (with_reducible refine altT ?_ ?_; first | omega | (simp only [List.length_append, List.length_cons, List.length_nil, List.length_map, List.length_take, List.length_drop, List.length_replicate, List.length_set]; omega)) | with_reducible refine altF ?_ | with_reducible refine all fun _ => ?_ | with_reducible refine both ?_ ?_ | (with_reducible refine choT ?_ ?_; omega) | (with_reducible refine choF ?_ ?_; omega) | with_reducible refine cho (fun _ => ?_) (fun _ => ?_))
        refine again (i + 1) (by omega) (by omega) ?_
        rw [outTo_set hH8 hlt]
        exact Sub.refl _ _
      · have e : i = 8 := by omega
        subst e
        repeat' (first | with_reducible apply Stp.go | with_reducible refine imp fun _ => ?_ | (with_reducible refine hyp ?_ ?_; first | assumption | exact leftT_mem (by assumption)) | (with_reducible refine need ?_ ?_; first | trivial | omega | exact ⟨by assumption, by omega⟩ | (simp only [List.length_append, List.length_cons, List.length_nil, List.length_map, List.length_take, List.length_drop, List.length_replicate, List.length_set]; omega)) | (with_reducible refine fact ?_ ?_; first | trivial | exact ⟨rfl, rfl⟩ | kernel_rfl) | with_reducible refine choT (by assumption) ?_ | with_reducible refine choF (by assumption) ?_ | with_reducible refine choF' (by assumption) ?_ | (with_reducible refine altT ?_ ?_; first | omega | (simp only [List.length_append, List.length_cons, List.length_nil, List.length_map, List.length_take, List.length_drop, List.length_replicate, List.length_set]; omega)) | with_reducible refine altF ?_ | with_reducible refine all fun _ => ?_ | with_reducible refine both ?_ ?_ | (with_reducible refine choT ?_ ?_; omega) | (with_reducible refine choF ?_ ?_; omega) | with_reducible refine cho (fun _ => ?_) (fun _ => ?_))
        refine ⟨_, _, _, rfl, subS (τ := [.var b HT (hsCs h shaK p (N % 64) (UInt64.ofNat N))]) _, ?_, rfl⟩
        have e : outTo H 8 = shaOut H := by
          rw [outTo, List.take_of_length_le (by omega)]
          simp
        rw [e]
instance {b : Nat} {h : List UInt32} {p : List UInt8} {q : Nat} {s : UInt64} {σ rest : Store} {put : Ent → Store} [hv : VarAt b σ HT (hsCs h shaK p q s) put rest] : EC Go.Proofs.Try.prog 43 [ptrAt b 0] σ (hsOk h shaK p ∧ q = s.toNat % 64 ∧ s.toNat ≤ 1000000000000000) Unit (fun _ => .agg ((shaOut (shaAll h (p.take q ++ shaTail s.toNat))).map byt)) (fun _ => put (.var b HT (hsCs h shaK p q s))) := ⟨fun ⟨h1, h2, h3⟩ => by
  subst h2
  have e := Sum_ok b h p s.toNat h1 h3
  rw [UInt64.ofNat_toNat] at e
  exact (ACalls.at_ e).mono fun x σ' ⟨g1, g2⟩ => ⟨(), g1, g2⟩⟩
def sum_New.mark : Mark := ⟨fun t => Nat.beq t 2, fun t => false, fun t => false, fun t => false, fun t => false⟩
def sum_New.ann : Ann := ⟨fun n => [], fun n => none, fun n => none⟩
/-- 'marlstone/sum.New' -/
def sum_New.sh (σ : Store) (Q : AEnd → Store → Prop) : Prop :=
  Do (aLit [.val (.int .u32 0), .val (.int .u32 0), .val (.int .u32 0), .val (.int .u32 0), .val (.int .u32 0), .val (.int .u32 0), .val (.int .u32 0), .val (.int .u32 0)] [(0, 1), (1, 1), (2, 1), (3, 1), (4, 1), (5, 1), (6, 1), (7, 1)] [(0, (W32 1779033703)), (1, (W32 3144134277)), (2, (W32 1013904242)), (3, (W32 2773480762)), (4, (W32 1359893119)), (5, (W32 2600822924)), (6, (W32 528734635)), (7, (W32 1541459225))]) fun t1 =>
  Do (aPureC Go.Proofs.Try.prog 59 []) fun t2 =>
  Do (aLit ((List.replicate 72 (.val (.int .u32 0))) ++ ((List.replicate 64 (.val (.int .u8 0))) ++ ([.val (.int .i64 0), .val (.int .u64 0)]))) [(0, 8), (8, 64), (72, 64), (136, 1), (137, 1)] [(0, t1), (1, t2)]) fun t3 =>
  aNewVar 94 (t3 : AV).cells σ fun t4 σ =>
  Q (.ret t4) σ
theorem sum_New.eq (σ : Store) (Q : AEnd → Store → Prop) : vc (semOf Go.Proofs.Try.prog sum_New.mark) Go.Proofs.Try.f41.ntmps sum_New.ann (bodyOf Go.Proofs.Try.f41) (endK [.tmp 0] Q) (argFr []) σ = sum_New.sh  σ Q := by kernel_rfl
theorem sum_New.go {σ : Store} {Q : AEnd → Store → Prop} (h : sum_New.sh  σ Q) : ACalls Go.Proofs.Try.prog 41 [] σ Q :=
  acalls_of_eq [.tmp 0] Go.Proofs.Try.func41 (by kernel_rfl) (by kernel_rfl) (by kernel_rfl) (by kernel_rfl) (sum_New.eq  σ Q) h
def sum_Of.mark : Mark := ⟨fun t => false, fun t => false, fun t => false, fun t => false, fun t => false⟩
def sum_Of.ann : Ann := ⟨fun n => [], fun n => none, fun n => none⟩
/-- 'marlstone/sum.Of' -/
def sum_Of.sh (a0 : AV) (σ : Store) (Q : AEnd → Store → Prop) : Prop :=
  aNewVar 45 [.val (.int .u8 0), .val (.int .u8 0), .val (.int .u8 0), .val (.int .u8 0), .val (.int .u8 0), .val (.int .u8 0), .val (.int .u8 0), .val (.int .u8 0), .val (.int .u8 0), .val (.int .u8 0), .val (.int .u8 0), .val (.int .u8 0), .val (.int .u8 0), .val (.int .u8 0), .val (.int .u8 0), .val (.int .u8 0), .val (.int .u8 0), .val (.int .u8 0), .val (.int .u8 0), .val (.int .u8 0), .val (.int .u8 0), .val (.int .u8 0), .val (.int .u8 0), .val (.int .u8 0), .val (.int .u8 0), .val (.int .u8 0), .val (.int .u8 0), .val (.int .u8 0), .val (.int .u8 0), .val (.int .u8 0), .val (.int .u8 0), .val (.int .u8 0)] σ fun t2 σ =>
  aCall Go.Proofs.Try.prog 41 [] σ (fun t4 σ_1 =>
  aCall Go.Proofs.Try.prog 42 [t4, a0] σ_1 (fun t7 σ_2 =>
  aCall Go.Proofs.Try.prog 43 [t4] σ_2 (fun t9 σ_3 =>
  storeA 32 t2 t9 σ_3 fun u σ_4 =>
  Do (loadA true 32 t2 σ_4) fun r2 => Q (.ret r2) σ_4) (fun e σ_5 => Q (.pan e) σ_5)) (fun e_1 σ_6 => Q (.pan e_1) σ_6)) (fun e_2 σ_7 => Q (.pan e_2) σ_7)
theorem sum_Of.eq (a0 : AV) (σ : Store) (Q : AEnd → Store → Prop) : vc (semOf Go.Proofs.Try.prog sum_Of.mark) Go.Proofs.Try.f29.ntmps sum_Of.ann (bodyOf Go.Proofs.Try.f29) (endK [.cell 2 true 32] Q) (argFr [a0]) σ = sum_Of.sh a0 σ Q := by kernel_rfl
theorem sum_Of.go {a0 : AV} {σ : Store} {Q : AEnd → Store → Prop} (h : sum_Of.sh a0 σ Q) : ACalls Go.Proofs.Try.prog 29 [a0] σ Q :=
  acalls_of_eq [.cell 2 true 32] Go.Proofs.Try.func29 (by kernel_rfl) (by kernel_rfl) (by kernel_rfl) (by kernel_rfl) (sum_Of.eq a0 σ Q) h
theorem New_ok : ACalls Go.Proofs.Try.prog 41 [] [] fun x σ' => ∃ b, x = .ret (ptrAt b 0) ∧ σ' = [.var b HT (hsCs shaH shaK (List.replicate 64 0) 0 0)] := by
  refine sum_New.go ?_
  unfold sum_New.sh
  repeat' (first | with_reducible apply Stp.go | with_reducible refine imp fun _ => ?_ | (with_reducible refine hyp ?_ ?_; first | assumption | exact leftT_mem (by assumption)) | (with_reducible refine need ?_ ?_; first | trivial | omega | exact ⟨by assumption, by omega⟩ | (simp only [List.length_append, List.length_cons, List.length_nil, List.length_map, List.length_take, List.length_drop, List.length_replicate, List.length_set]; omega)) | (with_reducible refine fact ?_ ?_; first | trivial | exact ⟨rfl, rfl⟩ | kernel_rfl) | with_reducible refine choT (by assumption) ?_ | with_reducible refine choF (by assumption) ?_ | with_reducible refine choF' (by assumption) ?_ | (with_reducible refine altT ?_ ?_; first | omega | (simp only [List.length_append, List.length_cons, List.length_nil, List.length_map, List.length_take, List.length_drop, List.length_replicate, List.length_set]; omega)) | with_reducible refine altF ?_ | with_reducible refine all fun _ => ?_ | with_reducible refine both ?_ ?_ | (with_reducible refine choT ?_ ?_; omega) | (with_reducible refine choF ?_ ?_; omega) | with_reducible refine cho (fun _ => ?_) (fun _ => ?_))
  refine ⟨.agg (hsCs shaH shaK (List.replicate 64 0) 0 0), ⟨?_, hsCs shaH shaK (List.replicate 64 0) 0 0, by kernel_rfl, rfl⟩, ?_⟩
  · intro p hp c hc
    simp only [List.mem_cons, List.not_mem_nil, or_false] at hp
    rcases hp with rfl | rfl <;> (obtain ⟨y, _, rfl⟩ := List.mem_map.1 hc; rfl)
  · refine ⟨?_, fun b _ => ⟨b, rfl, rfl⟩⟩
    intro c hc
    have hc : c ∈ hsCs shaH shaK (List.replicate 64 0) 0 0 := hc
    simp only [hsCs, List.mem_append, List.mem_map, List.mem_cons, List.not_mem_nil, or_false] at hc
    rcases hc with ⟨y, _, rfl⟩ | ⟨y, _, rfl⟩ | ⟨y, _, rfl⟩ | rfl | rfl <;> rfl
instance {σ : Store} : EC Go.Proofs.Try.prog 41 [] σ True Nat (fun b => ptrAt b 0) (fun b => .var b HT (hsCs shaH shaK (List.replicate 64 0) 0 0) :: σ) := ⟨fun _ => (New_ok.frame σ).mono fun x τ ⟨σ1, e1, _, b, e2, e3⟩ => ⟨b, e2, by rw [e1, e3]; rfl⟩⟩
theorem Of_ok (l : List UInt8) (m : SM) (hl : l.length ≤ 1000000000000000) : aPure Go.Proofs.Try.prog 29 [.lst 1 (l.map byt) m] (.agg ((sha l).map byt)) := by
  refine ACalls.fin (sum_Of.go ?_)
  unfold sum_Of.sh
  have hsl := sha_length l
  have h0 : hsOk shaH shaK (List.replicate 64 0) := ⟨rfl, rfl, by simp⟩
  repeat' (first | with_reducible apply Stp.go | with_reducible refine imp fun _ => ?_ | (with_reducible refine hyp ?_ ?_; first | assumption | exact leftT_mem (by assumption)) | (with_reducible refine need ?_ ?_; first | trivial | omega | exact ⟨by assumption, by omega⟩ | (simp only [List.length_append, List.length_cons, List.length_nil, List.length_map, List.length_take, List.length_drop, List.length_replicate, List.length_set]; omega)) | (with_reducible refine fact ?_ ?_; first | trivial | exact ⟨rfl, rfl⟩ | kernel_rfl) | with_reducible refine choT (by assumption) ?_ | with_reducible refine choF (by assumption) ?_ | with_reducible refine choF' (by assumption) ?_ | (with_reducible refine altT ?_ ?_; first | omega | (simp only [List.length_append, List.length_cons, List.length_nil, List.length_map, List.length_take, List.length_drop, List.length_replicate, List.length_set]; omega)) | with_reducible refine altF ?_ | with_reducible refine all fun _ => ?_ | with_reducible refine both ?_ ?_ | (with_reducible refine choT ?_ ?_; omega) | (with_reducible refine choF ?_ ?_; omega) | with_reducible refine cho (fun _ => ?_) (fun _ => ?_))
  rename_i r x y hy
  have e1 : (List.replicate 64 (0 : UInt8)).take 0 ++ l = l := rfl
  have e2 : (0 + UInt64.ofNat l.length).toNat = l.length := by
    rw [UInt64.toNat_add, u64_len (by omega), show UInt64.toNat 0 = 0 from rfl, Nat.zero_add]
    exact Nat.mod_eq_of_lt (by omega)
  rw [e1] at hy ⊢
  rw [e2, hy.2, ← shaAll_append]
  refine need ⟨⟨shaAll_length _ _ rfl, rfl, hy.1⟩, rfl, hl⟩ ?_
  have e3 : shaOut (shaAll shaH (l ++ shaTail l.length)) = sha l := rfl
  rw [e3]
  repeat' (first | with_reducible apply Stp.go | with_reducible refine imp fun _ => ?_ | (with_reducible refine hyp ?_ ?_; first | assumption | exact leftT_mem (by assumption)) | (with_reducible refine need ?_ ?_; first | trivial | omega | exact ⟨by assumption, by omega⟩ | (simp only [List.length_append, List.length_cons, List.length_nil, List.length_map, List.length_take, List.length_drop, List.length_replicate, List.length_set]; omega)) | (with_reducible refine fact ?_ ?_; first | trivial | exact ⟨rfl, rfl⟩ | kernel_rfl) | with_reducible refine choT (by assumption) ?_ | with_reducible refine choF (by assumption) ?_ | with_reducible refine choF' (by assumption) ?_ | (with_reducible refine altT ?_ ?_; first | omega | (simp only [List.length_append, List.length_cons, List.length_nil, List.length_map, List.length_take, List.length_drop, List.length_replicate, List.length_set]; omega)) | with_reducible refine altF ?_ | with_reducible refine all fun _ => ?_ | with_reducible refine both ?_ ?_ | (with_reducible refine choT ?_ ?_; omega) | (with_reducible refine choF ?_ ?_; omega) | with_reducible refine cho (fun _ => ?_) (fun _ => ?_))
  exact ⟨_, _, _, rfl, Sub.app_nil _, rfl, rfl⟩
instance {a : AV} {l : List UInt8} {m : SM} [h : IsL a byt 1 l m] : PC Go.Proofs.Try.prog 29 [a] (l.length ≤ 1000000000000000) (.agg ((sha l).map byt)) := ⟨fun hl => ⟨[.lst 1 (l.map byt) m], ⟨h.sub, trivial⟩, Of_ok l m hl⟩⟩
/-- It has 32 bytes. -/
class Len32 (c : List UInt8) : Prop where
  len : c.length = 32
instance (l : List UInt8) : Len32 (sha l) := ⟨sha_length l⟩
end Go.Ab
