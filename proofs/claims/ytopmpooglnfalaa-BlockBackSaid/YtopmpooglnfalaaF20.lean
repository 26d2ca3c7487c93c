/- Reading a block: what goes through its bytes. -/
import Derived.Test.YtopmpooglnfalaaF8
import Derived.Test.YtopmpooglnfalaaF14
import Derived.Test.YtopmpooglnfalaaSp11
import Derived.Test.YtopmpooglnfalaaSt12
set_option linter.unusedVariables false
set_option linter.unusedSimpArgs false
namespace Go.Ab
instance : IfT Go.Proofs.Try.prog 20 := ⟨by kernel_rfl⟩
theorem und_bad : (Go.Proofs.Try.prog).underlying 95 = some (.struct #[]) := by kernel_rfl
instance : ConT Go.Proofs.Try.prog 95 := ⟨by rw [und_bad]; trivial⟩
instance : LenC [] 0 := ⟨rfl⟩
instance : Splice [] 0 [] [] := ⟨rfl, Nat.le_refl _⟩
abbrev badV : AV := .ifc 95 (.agg [])
def block_cursor_number.mark : Mark := ⟨fun t => Nat.beq t 12, fun t => false, fun t => false, fun t => false, fun t => false⟩
def block_cursor_number.ann : Ann := ⟨fun n => [], fun n => bif Nat.beq n 4 then some [0, 5, 6] else none, fun n => none⟩
/-- '(*marlstone/block.cursor).number' -/
def block_cursor_number.sh (a0 a1 : AV) (σ : Store) (Q : AEnd → Store → Prop) : Prop :=
  Do (aNil a0) fun t10 =>
  Do (loadA false 1 t10 σ) fun t11 =>
  Do (aPureC Go.Proofs.Try.prog 83 [t11]) fun t12 =>
  Do (aExt t12 0) fun t13 =>
  Do (aExt t12 1) fun t14 =>
  Do (aExt t12 2) fun t15 =>
  aJoin (fun j =>
    Do (aUn Go.Proofs.Try.prog .not t15) fun t17 =>
    Do (aGuard t17 false (aIs t13)) fun t19 =>
    Do (aGuard t17 false (aIs a1)) fun t20 =>
    Do (aGuard t17 false (aBin Go.Proofs.Try.prog .gtr 63 t19 t20)) fun t21 =>
    Do (aPick t17 (.val (.bool true)) t21) fun t22 =>
    aCond t22
      (Do (aLit [] [] []) fun t23 =>
      aPanic (.ifc 95 t23) σ (fun e σ_2 => Q (.pan e) σ_2))
      (j [a0, t13, t14] σ)) fun vs σ =>
  At vs 0 fun s0 => At vs 1 fun s5 => At vs 2 fun s6 => Do (aNil s0) fun t27 =>
  Do (loadA false 1 t27 σ) fun t28 =>
  Do (aSlice .slice 1 t28 (some s6) none none) fun t30 =>
  Do (aNil s0) fun t31 =>
  storeA 1 t31 t30 σ fun u_1 σ_3 =>
  Do (fun x => aConvN 63 3 s5 x Go.Proofs.Try.prog) fun t33 =>
  Q (.ret t33) σ_3
theorem block_cursor_number.eq (a0 a1 : AV) (σ : Store) (Q : AEnd → Store → Prop) : vc (semOf Go.Proofs.Try.prog block_cursor_number.mark) Go.Proofs.Try.f76.ntmps block_cursor_number.ann (bodyOf Go.Proofs.Try.f76) (endK [.tmp 4] Q) (argFr [a0, a1]) σ = block_cursor_number.sh a0 a1 σ Q := by kernel_rfl
theorem block_cursor_number.go {a0 a1 : AV} {σ : Store} {Q : AEnd → Store → Prop} (h : block_cursor_number.sh a0 a1 σ Q) : ACalls Go.Proofs.Try.prog 76 [a0, a1] σ Q :=
  acalls_of_eq [.tmp 4] Go.Proofs.Try.func76 (by kernel_rfl) (by kernel_rfl) (by kernel_rfl) (by kernel_rfl) (block_cursor_number.eq a0 a1 σ Q) h
def block_cursor_text.mark : Mark := ⟨fun t => Nat.beq t 10, fun t => false, fun t => false, fun t => false, fun t => false⟩
def block_cursor_text.ann : Ann := ⟨fun n => [], fun n => bif Nat.beq n 4 then some [0, 3, 4] else none, fun n => none⟩
/-- '(*marlstone/block.cursor).text' -/
def block_cursor_text.sh (a0 : AV) (σ : Store) (Q : AEnd → Store → Prop) : Prop :=
  Do (aNil a0) fun t8 =>
  Do (loadA false 1 t8 σ) fun t9 =>
  Do (aPureC Go.Proofs.Try.prog 84 [t9]) fun t10 =>
  Do (aExt t10 0) fun t11 =>
  Do (aExt t10 1) fun t12 =>
  Do (aExt t10 2) fun t13 =>
  aJoin (fun j =>
    Do (aUn Go.Proofs.Try.prog .not t13) fun t15 =>
    aCond t15
      (Do (aLit [] [] []) fun t16 =>
      aPanic (.ifc 95 t16) σ (fun e σ_2 => Q (.pan e) σ_2))
      (j [a0, t11, t12] σ)) fun vs σ =>
  At vs 0 fun s0 => At vs 1 fun s3 => At vs 2 fun s4 => Do (aNil s0) fun t20 =>
  Do (loadA false 1 t20 σ) fun t21 =>
  Do (aSlice .slice 1 t21 (some s4) none none) fun t23 =>
  Do (aNil s0) fun t24 =>
  storeA 1 t24 t23 σ fun u_1 σ_3 =>
  Q (.ret s3) σ_3
theorem block_cursor_text.eq (a0 : AV) (σ : Store) (Q : AEnd → Store → Prop) : vc (semOf Go.Proofs.Try.prog block_cursor_text.mark) Go.Proofs.Try.f77.ntmps block_cursor_text.ann (bodyOf Go.Proofs.Try.f77) (endK [.tmp 2] Q) (argFr [a0]) σ = block_cursor_text.sh a0 σ Q := by kernel_rfl
theorem block_cursor_text.go {a0 : AV} {σ : Store} {Q : AEnd → Store → Prop} (h : block_cursor_text.sh a0 σ Q) : ACalls Go.Proofs.Try.prog 77 [a0] σ Q :=
  acalls_of_eq [.tmp 2] Go.Proofs.Try.func77 (by kernel_rfl) (by kernel_rfl) (by kernel_rfl) (by kernel_rfl) (block_cursor_text.eq a0 σ Q) h
def block_cursor_flag.mark : Mark := ⟨fun t => false, fun t => false, fun t => false, fun t => Nat.beq t 14 || Nat.beq t 23, fun t => false⟩
def block_cursor_flag.ann : Ann := ⟨fun n => [], fun n => bif Nat.beq n 3 then some [0] else none, fun n => none⟩
/-- '(*marlstone/block.cursor).flag' -/
def block_cursor_flag.sh (a0 : AV) (σ : Store) (Q : AEnd → Store → Prop) : Prop :=
  aJoin (fun j =>
    Do (aNil a0) fun t5 =>
    Do (loadA false 1 t5 σ) fun t6 =>
    Do (aBuiltin Go.Proofs.Try.prog .len #[93] [t6]) fun t7 =>
    Do (aBin Go.Proofs.Try.prog .eql 3 t7 (.val (.int .i64 0))) fun t8 =>
    Do (aGuard t8 false (aIs a0)) fun t10 =>
    Do (aGuard t8 false (aNil t10)) fun t11 =>
    Do (aGuard t8 false (loadA false 1 t11 σ)) fun t12 =>
    Do (aGuard t8 false (aIndexAddr .slice 1 t12 (.val (.int .i64 0)))) fun t13 =>
    Do (aGuard t8 false (loadF false 1 t13)) fun t14 =>
    Do (aGuard t8 false (aBin Go.Proofs.Try.prog .gtr 5 t14 (W8 1))) fun t15 =>
    Do (aPick t8 (.val (.bool true)) t15) fun t16 =>
    aCond t16
      (Do (aLit [] [] []) fun t17 =>
      aPanic (.ifc 95 t17) σ (fun e σ_2 => Q (.pan e) σ_2))
      (j [a0] σ)) fun vs σ =>
  At vs 0 fun s0 => Do (aNil s0) fun t20 =>
  Do (loadA false 1 t20 σ) fun t21 =>
  Do (aIndexAddr .slice 1 t21 (.val (.int .i64 0))) fun t22 =>
  Do (loadF false 1 t22) fun t23 =>
  Do (aBin Go.Proofs.Try.prog .eql 5 t23 (W8 1)) fun t24 =>
  Do (aNil s0) fun t27 =>
  Do (loadA false 1 t27 σ) fun t28 =>
  Do (aSlice .slice 1 t28 (some (.val (.int .i64 1))) none none) fun t29 =>
  Do (aNil s0) fun t30 =>
  storeA 1 t30 t29 σ fun u_1 σ_3 =>
  Q (.ret t24) σ_3
theorem block_cursor_flag.eq (a0 : AV) (σ : Store) (Q : AEnd → Store → Prop) : vc (semOf Go.Proofs.Try.prog block_cursor_flag.mark) Go.Proofs.Try.f78.ntmps block_cursor_flag.ann (bodyOf Go.Proofs.Try.f78) (endK [.tmp 2] Q) (argFr [a0]) σ = block_cursor_flag.sh a0 σ Q := by kernel_rfl
theorem block_cursor_flag.go {a0 : AV} {σ : Store} {Q : AEnd → Store → Prop} (h : block_cursor_flag.sh a0 σ Q) : ACalls Go.Proofs.Try.prog 78 [a0] σ Q :=
  acalls_of_eq [.tmp 2] Go.Proofs.Try.func78 (by kernel_rfl) (by kernel_rfl) (by kernel_rfl) (by kernel_rfl) (block_cursor_flag.eq a0 σ Q) h
def block_entries_1.mark : Mark := ⟨fun t => false, fun t => false, fun t => false, fun t => false, fun t => false⟩
def block_entries_1.ann : Ann := ⟨fun n => [], fun n => none, fun n => none⟩
/-- 'marlstone/block.entries$1' -/
def block_entries_1.sh (a0 a1 u : AV) (σ : Store) (Q : Store → Prop) : Prop :=
  Do (aBin Go.Proofs.Try.prog .eql 20 u (.val .nilIface)) fun t7 =>
  aCond t7
    (Q σ)
    (Do (aAssert Go.Proofs.Try.prog 95 true u) fun t8 =>
    Do (aExt t8 1) fun t9 =>
    Do (aExt t8 0) fun t10 =>
    aCond t9
      (aNewVar 95 [] σ fun t3 σ =>
      storeA 0 t3 t10 σ fun u σ_1 =>
      storeA 1 a0 (.val (.slice none 0 0)) σ_1 fun u_1 σ_2 =>
      storeA 1 a1 (.val (.bool false)) σ_2 fun u_2 σ_3 =>
      Q σ_3)
      (aPanic u σ (fun e σ_5 => False)))
theorem block_entries_1.eq (a0 a1 u : AV) (σ : Store) (Q : Store → Prop) : vc (semOf Go.Proofs.Try.prog block_entries_1.mark) Go.Proofs.Try.f75.ntmps block_entries_1.ann (c2 (bodyOf Go.Proofs.Try.f75)) (endR Q) (fun t => bif Nat.beq t 5 then u else argFr [a0, a1] t) σ = block_entries_1.sh a0 a1 u σ Q := by kernel_rfl
theorem block_entries_1.r0 : ∃ id ty pos after, c1 (bodyOf Go.Proofs.Try.f75) = recoverR 5 id ty pos after := ⟨_, _, _, _, rfl⟩
theorem block_entries_1.go {v0 v1 : Value} {m : Option AV} {σ : Store} {Q : Store → Prop} (h : block_entries_1.sh (.val v0) (.val v1) (recU m) σ Q) : DCalls Go.Proofs.Try.prog 75 [v0, v1] m σ Q :=
  dcalls_rec 5 Go.Proofs.Try.func75 (by kernel_rfl) (by kernel_rfl) (by kernel_rfl) (by kernel_rfl) block_entries_1.r0 ((block_entries_1.eq (.val v0) (.val v1) (recU m) σ Q).mpr h)
theorem cur_number (b : Nat) (l : List UInt8) (m : SM) (w : UInt64) (hl : l.length ≤ 1000000000000000) (hw : w.toNat ≤ 9223372036854775807) : ACalls Go.Proofs.Try.prog 76 [ptrAt b 0, W64 w] [.var b 93 [.lst 1 (l.map byt) m]]
    fun x σ' => ((getO l = true ∧ getV l ≤ w.toNat) ∧ x = .ret (I .i64 (getV l : Nat)) ∧ σ' = [.var b 93 [.lst 1 ((l.drop (getN l)).map byt) .ro]]) ∨ (¬ (getO l = true ∧ getV l ≤ w.toNat) ∧ x = .pan badV ∧ σ' = [.var b 93 [.lst 1 (l.map byt) m]]) := by
  refine block_cursor_number.go ?_
  unfold block_cursor_number.sh
  obtain ⟨b1, b2, b3, b4⟩ := get_bound (s := l)
  have e := u64_len b1
  repeat' (first | with_reducible apply Stp.go | with_reducible refine imp fun _ => ?_ | (with_reducible refine hyp ?_ ?_; first | assumption | exact leftT_mem (by assumption)) | (with_reducible refine need ?_ ?_; first | trivial | omega | (simp only [List.length_append, List.length_cons, List.length_nil, List.length_map, List.length_take, List.length_drop, List.length_replicate]; omega)) | (with_reducible refine fact ?_ ?_; first | trivial | exact ⟨rfl, rfl⟩ | kernel_rfl) | with_reducible refine choT (by assumption) ?_ | with_reducible refine choF (by assumption) ?_ | with_reducible refine choF' (by assumption) ?_ | (with_reducible refine altT ?_ ?_; first | omega | (simp only [List.length_append, List.length_cons, List.length_nil, List.length_map, List.length_take, List.length_drop, List.length_replicate]; omega)) | with_reducible refine altF ?_ | with_reducible refine all fun _ => ?_ | with_reducible refine both ?_ ?_ | (with_reducible refine choT ?_ ?_; omega) | (with_reducible refine choF ?_ ?_; omega) | with_reducible refine cho (fun _ => ?_) (fun _ => ?_))
  refine joinI (β := Unit) (fun _ => getO l = true ∧ getV l ≤ w.toNat) (fun _ => [ptrAt b 0, W64 (UInt64.ofNat (getV l)), I .i64 (getN l : Nat)]) (fun _ => [.var b 93 [.lst 1 (l.map byt) m]]) ?_ ?_
  · repeat' (first | with_reducible apply Stp.go | with_reducible refine imp fun _ => ?_ | (with_reducible refine hyp ?_ ?_; first | assumption | exact leftT_mem (by assumption)) | (with_reducible refine need ?_ ?_; first | trivial | omega | (simp only [List.length_append, List.length_cons, List.length_nil, List.length_map, List.length_take, List.length_drop, List.length_replicate]; omega)) | (with_reducible refine fact ?_ ?_; first | trivial | exact ⟨rfl, rfl⟩ | kernel_rfl) | with_reducible refine choT (by assumption) ?_ | with_reducible refine choF (by assumption) ?_ | with_reducible refine choF' (by assumption) ?_ | (with_reducible refine altT ?_ ?_; first | omega | (simp only [List.length_append, List.length_cons, List.length_nil, List.length_map, List.length_take, List.length_drop, List.length_replicate]; omega)) | with_reducible refine altF ?_ | with_reducible refine all fun _ => ?_ | with_reducible refine both ?_ ?_ | (with_reducible refine choT ?_ ?_; omega) | (with_reducible refine choF ?_ ?_; omega) | with_reducible refine cho (fun _ => ?_) (fun _ => ?_))
    · rename_i h1 h2
      exact .inr ⟨fun h => by have := h.2; omega, rfl, rfl⟩
    · rename_i h1 h2
      exact meet () ⟨h1, by omega⟩ (Sub.refl _ _)
    · rename_i h1
      exact .inr ⟨fun h => h1 h.1, rfl, rfl⟩
  · rintro _ ⟨h1, h2⟩
    repeat' (first | with_reducible apply Stp.go | with_reducible refine imp fun _ => ?_ | (with_reducible refine hyp ?_ ?_; first | assumption | exact leftT_mem (by assumption)) | (with_reducible refine need ?_ ?_; first | trivial | omega | (simp only [List.length_append, List.length_cons, List.length_nil, List.length_map, List.length_take, List.length_drop, List.length_replicate]; omega)) | (with_reducible refine fact ?_ ?_; first | trivial | exact ⟨rfl, rfl⟩ | kernel_rfl) | with_reducible refine choT (by assumption) ?_ | with_reducible refine choF (by assumption) ?_ | with_reducible refine choF' (by assumption) ?_ | (with_reducible refine altT ?_ ?_; first | omega | (simp only [List.length_append, List.length_cons, List.length_nil, List.length_map, List.length_take, List.length_drop, List.length_replicate]; omega)) | with_reducible refine altF ?_ | with_reducible refine all fun _ => ?_ | with_reducible refine both ?_ ?_ | (with_reducible refine choT ?_ ?_; omega) | (with_reducible refine choF ?_ ?_; omega) | with_reducible refine cho (fun _ => ?_) (fun _ => ?_))
    refine .inl ⟨⟨h1, h2⟩, ?_, rfl⟩
    rw [Nat.mod_eq_of_lt b1]
instance {b : Nat} {l : List UInt8} {m : SM} {w : UInt64} {σ rest : Store} {put : Ent → Store} [hv : VarAt b σ 93 [.lst 1 (l.map byt) m] put rest] : QC Go.Proofs.Try.prog 76 [ptrAt b 0, W64 w] σ (l.length ≤ 1000000000000000 ∧ w.toNat ≤ 9223372036854775807) (getO l = true ∧ getV l ≤ w.toNat)
    (I .i64 (getV l : Nat)) (put (.var b 93 [.lst 1 ((l.drop (getN l)).map byt) .ro])) badV (put (.var b 93 [.lst 1 (l.map byt) m])) := ⟨fun h => ACalls.atQ (cur_number b l m w h.1 h.2)⟩
theorem cur_text (b : Nat) (l : List UInt8) (m : SM) (hl : l.length ≤ 1000000000000000) : ACalls Go.Proofs.Try.prog 77 [ptrAt b 0] [.var b 93 [.lst 1 (l.map byt) m]]
    fun x σ' => (textO l = true ∧ x = .ret (S (textV l)) ∧ σ' = [.var b 93 [.lst 1 ((l.drop (textN l)).map byt) .ro]]) ∨ (¬ textO l = true ∧ x = .pan badV ∧ σ' = [.var b 93 [.lst 1 (l.map byt) m]]) := by
  refine block_cursor_text.go ?_
  unfold block_cursor_text.sh
  obtain ⟨b1, b2, b3⟩ := text_bound (s := l)
  repeat' (first | with_reducible apply Stp.go | with_reducible refine imp fun _ => ?_ | (with_reducible refine hyp ?_ ?_; first | assumption | exact leftT_mem (by assumption)) | (with_reducible refine need ?_ ?_; first | trivial | omega | (simp only [List.length_append, List.length_cons, List.length_nil, List.length_map, List.length_take, List.length_drop, List.length_replicate]; omega)) | (with_reducible refine fact ?_ ?_; first | trivial | exact ⟨rfl, rfl⟩ | kernel_rfl) | with_reducible refine choT (by assumption) ?_ | with_reducible refine choF (by assumption) ?_ | with_reducible refine choF' (by assumption) ?_ | (with_reducible refine altT ?_ ?_; first | omega | (simp only [List.length_append, List.length_cons, List.length_nil, List.length_map, List.length_take, List.length_drop, List.length_replicate]; omega)) | with_reducible refine altF ?_ | with_reducible refine all fun _ => ?_ | with_reducible refine both ?_ ?_ | (with_reducible refine choT ?_ ?_; omega) | (with_reducible refine choF ?_ ?_; omega) | with_reducible refine cho (fun _ => ?_) (fun _ => ?_))
  refine joinI (β := Unit) (fun _ => textO l = true) (fun _ => [ptrAt b 0, S (textV l), I .i64 (textN l : Nat)]) (fun _ => [.var b 93 [.lst 1 (l.map byt) m]]) ?_ ?_
  · repeat' (first | with_reducible apply Stp.go | with_reducible refine imp fun _ => ?_ | (with_reducible refine hyp ?_ ?_; first | assumption | exact leftT_mem (by assumption)) | (with_reducible refine need ?_ ?_; first | trivial | omega | (simp only [List.length_append, List.length_cons, List.length_nil, List.length_map, List.length_take, List.length_drop, List.length_replicate]; omega)) | (with_reducible refine fact ?_ ?_; first | trivial | exact ⟨rfl, rfl⟩ | kernel_rfl) | with_reducible refine choT (by assumption) ?_ | with_reducible refine choF (by assumption) ?_ | with_reducible refine choF' (by assumption) ?_ | (with_reducible refine altT ?_ ?_; first | omega | (simp only [List.length_append, List.length_cons, List.length_nil, List.length_map, List.length_take, List.length_drop, List.length_replicate]; omega)) | with_reducible refine altF ?_ | with_reducible refine all fun _ => ?_ | with_reducible refine both ?_ ?_ | (with_reducible refine choT ?_ ?_; omega) | (with_reducible refine choF ?_ ?_; omega) | with_reducible refine cho (fun _ => ?_) (fun _ => ?_))
    · rename_i h1
      exact meet () h1 (Sub.refl _ _)
    · rename_i h1
      exact .inr ⟨h1, rfl, rfl⟩
  · intro _ h1
    repeat' (first | with_reducible apply Stp.go | with_reducible refine imp fun _ => ?_ | (with_reducible refine hyp ?_ ?_; first | assumption | exact leftT_mem (by assumption)) | (with_reducible refine need ?_ ?_; first | trivial | omega | (simp only [List.length_append, List.length_cons, List.length_nil, List.length_map, List.length_take, List.length_drop, List.length_replicate]; omega)) | (with_reducible refine fact ?_ ?_; first | trivial | exact ⟨rfl, rfl⟩ | kernel_rfl) | with_reducible refine choT (by assumption) ?_ | with_reducible refine choF (by assumption) ?_ | with_reducible refine choF' (by assumption) ?_ | (with_reducible refine altT ?_ ?_; first | omega | (simp only [List.length_append, List.length_cons, List.length_nil, List.length_map, List.length_take, List.length_drop, List.length_replicate]; omega)) | with_reducible refine altF ?_ | with_reducible refine all fun _ => ?_ | with_reducible refine both ?_ ?_ | (with_reducible refine choT ?_ ?_; omega) | (with_reducible refine choF ?_ ?_; omega) | with_reducible refine cho (fun _ => ?_) (fun _ => ?_))
    exact .inl ⟨h1, rfl, rfl⟩
instance {b : Nat} {l : List UInt8} {m : SM} {σ rest : Store} {put : Ent → Store} [hv : VarAt b σ 93 [.lst 1 (l.map byt) m] put rest] : QC Go.Proofs.Try.prog 77 [ptrAt b 0] σ (l.length ≤ 1000000000000000) (textO l = true)
    (S (textV l)) (put (.var b 93 [.lst 1 ((l.drop (textN l)).map byt) .ro])) badV (put (.var b 93 [.lst 1 (l.map byt) m])) := ⟨fun h => ACalls.atQ (cur_text b l m h)⟩
theorem cur_flag (b : Nat) (l : List UInt8) (m : SM) (hl : l.length ≤ 1000000000000000) : ACalls Go.Proofs.Try.prog 78 [ptrAt b 0] [.var b 93 [.lst 1 (l.map byt) m]]
    fun x σ' => ((0 < l.length ∧ (l.getD 0 default).toNat ≤ 1) ∧ x = .ret (B (decide ((l.getD 0 default).toNat = 1))) ∧ σ' = [.var b 93 [.lst 1 ((l.drop 1).map byt) .ro]]) ∨ (¬ (0 < l.length ∧ (l.getD 0 default).toNat ≤ 1) ∧ x = .pan badV ∧ σ' = [.var b 93 [.lst 1 (l.map byt) m]]) := by
  refine block_cursor_flag.go ?_
  unfold block_cursor_flag.sh
  refine joinI (β := Unit) (fun _ => 0 < l.length ∧ (l.getD 0 default).toNat ≤ 1) (fun _ => [ptrAt b 0]) (fun _ => [.var b 93 [.lst 1 (l.map byt) m]]) ?_ ?_
  · repeat' (first | with_reducible apply Stp.go | with_reducible refine imp fun _ => ?_ | (with_reducible refine hyp ?_ ?_; first | assumption | exact leftT_mem (by assumption)) | (with_reducible refine need ?_ ?_; first | trivial | omega | (simp only [List.length_append, List.length_cons, List.length_nil, List.length_map, List.length_take, List.length_drop, List.length_replicate]; omega)) | (with_reducible refine fact ?_ ?_; first | trivial | exact ⟨rfl, rfl⟩ | kernel_rfl) | with_reducible refine choT (by assumption) ?_ | with_reducible refine choF (by assumption) ?_ | with_reducible refine choF' (by assumption) ?_ | (with_reducible refine altT ?_ ?_; first | omega | (simp only [List.length_append, List.length_cons, List.length_nil, List.length_map, List.length_take, List.length_drop, List.length_replicate]; omega)) | with_reducible refine altF ?_ | with_reducible refine all fun _ => ?_ | with_reducible refine both ?_ ?_ | (with_reducible refine choT ?_ ?_; omega) | (with_reducible refine choF ?_ ?_; omega) | with_reducible refine cho (fun _ => ?_) (fun _ => ?_))
    · rename_i h1
      exact .inr ⟨fun h => by omega, rfl, rfl⟩
    · rename_i h0 h1
      exact .inr ⟨fun h => by omega, rfl, rfl⟩
    · rename_i h0 h1
      exact meet () ⟨by omega, by omega⟩ (Sub.refl _ _)
  · intro _ h1
    repeat' (first | with_reducible apply Stp.go | with_reducible refine imp fun _ => ?_ | (with_reducible refine hyp ?_ ?_; first | assumption | exact leftT_mem (by assumption)) | (with_reducible refine need ?_ ?_; first | trivial | omega | (simp only [List.length_append, List.length_cons, List.length_nil, List.length_map, List.length_take, List.length_drop, List.length_replicate]; omega)) | (with_reducible refine fact ?_ ?_; first | trivial | exact ⟨rfl, rfl⟩ | kernel_rfl) | with_reducible refine choT (by assumption) ?_ | with_reducible refine choF (by assumption) ?_ | with_reducible refine choF' (by assumption) ?_ | (with_reducible refine altT ?_ ?_; first | omega | (simp only [List.length_append, List.length_cons, List.length_nil, List.length_map, List.length_take, List.length_drop, List.length_replicate]; omega)) | with_reducible refine altF ?_ | with_reducible refine all fun _ => ?_ | with_reducible refine both ?_ ?_ | (with_reducible refine choT ?_ ?_; omega) | (with_reducible refine choF ?_ ?_; omega) | with_reducible refine cho (fun _ => ?_) (fun _ => ?_))
    exact .inl ⟨h1, rfl, rfl⟩
instance {b : Nat} {l : List UInt8} {m : SM} {σ rest : Store} {put : Ent → Store} [hv : VarAt b σ 93 [.lst 1 (l.map byt) m] put rest] : QC Go.Proofs.Try.prog 78 [ptrAt b 0] σ (l.length ≤ 1000000000000000) (0 < l.length ∧ (l.getD 0 default).toNat ≤ 1)
    (B (decide ((l.getD 0 default).toNat = 1))) (put (.var b 93 [.lst 1 ((l.drop 1).map byt) .ro])) badV (put (.var b 93 [.lst 1 (l.map byt) m])) := ⟨fun h => ACalls.atQ (cur_flag b l m h)⟩
instance dcNone {v0 v1 : Value} {σ : Store} {Q : Store → Prop} : Stp (DCalls Go.Proofs.Try.prog 75 [v0, v1] none σ Q) (Q σ) := ⟨fun h => by
  refine block_entries_1.go ?_
  unfold block_entries_1.sh
  unfold recU
  repeat' (first | with_reducible apply Stp.go | with_reducible refine imp fun _ => ?_ | (with_reducible refine hyp ?_ ?_; first | assumption | exact leftT_mem (by assumption)) | (with_reducible refine need ?_ ?_; first | trivial | omega | (simp only [List.length_append, List.length_cons, List.length_nil, List.length_map, List.length_take, List.length_drop, List.length_replicate]; omega)) | (with_reducible refine fact ?_ ?_; first | trivial | exact ⟨rfl, rfl⟩ | kernel_rfl) | with_reducible refine choT (by assumption) ?_ | with_reducible refine choF (by assumption) ?_ | with_reducible refine choF' (by assumption) ?_ | (with_reducible refine altT ?_ ?_; first | omega | (simp only [List.length_append, List.length_cons, List.length_nil, List.length_map, List.length_take, List.length_drop, List.length_replicate]; omega)) | with_reducible refine altF ?_ | with_reducible refine all fun _ => ?_ | with_reducible refine both ?_ ?_ | (with_reducible refine choT ?_ ?_; omega) | (with_reducible refine choF ?_ ?_; omega) | with_reducible refine cho (fun _ => ?_) (fun _ => ?_))
  exact h⟩
instance dcBad {b1 b2 : Nat} {t1 t2 : TypeId} {x1 x2 : AV} {σ rest1 rest2 : Store} {put1 put2 : Ent → Store} {Q : Store → Prop} [h1 : VarAt b1 σ t1 [x1] put1 rest1] [h2 : VarAt b2 (put1 (.var b1 t1 [.val (.slice none 0 0)])) t2 [x2] put2 rest2] :
    Stp (DCalls Go.Proofs.Try.prog 75 [.pointer (some ⟨b1, 0, none⟩), .pointer (some ⟨b2, 0, none⟩)] (some badV) σ Q) (All fun b => Q (.var b 95 [] :: put2 (.var b2 t2 [.val (.bool false)]))) := ⟨fun h => by
  refine block_entries_1.go ?_
  unfold block_entries_1.sh
  unfold recU
  repeat' (first | with_reducible apply Stp.go | with_reducible refine imp fun _ => ?_ | (with_reducible refine hyp ?_ ?_; first | assumption | exact leftT_mem (by assumption)) | (with_reducible refine need ?_ ?_; first | trivial | omega | (simp only [List.length_append, List.length_cons, List.length_nil, List.length_map, List.length_take, List.length_drop, List.length_replicate]; omega)) | (with_reducible refine fact ?_ ?_; first | trivial | exact ⟨rfl, rfl⟩ | kernel_rfl) | with_reducible refine choT (by assumption) ?_ | with_reducible refine choF (by assumption) ?_ | with_reducible refine choF' (by assumption) ?_ | (with_reducible refine altT ?_ ?_; first | omega | (simp only [List.length_append, List.length_cons, List.length_nil, List.length_map, List.length_take, List.length_drop, List.length_replicate]; omega)) | with_reducible refine altF ?_ | with_reducible refine all fun _ => ?_ | with_reducible refine both ?_ ?_ | (with_reducible refine choT ?_ ?_; omega) | (with_reducible refine choF ?_ ?_; omega) | with_reducible refine cho (fun _ => ?_) (fun _ => ?_))
  rename_i b
  exact h b⟩
end Go.Ab
