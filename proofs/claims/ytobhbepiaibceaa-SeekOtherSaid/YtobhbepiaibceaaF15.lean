/- Reading an entry. -/
import Derived.Test.YtobhbepiaibceaaF14
import Derived.Test.YtobhbepiaibceaaB4
import Derived.Test.YtobhbepiaibceaaSp7
set_option linter.unusedVariables false
set_option linter.unusedSimpArgs false
namespace Go.Ab
def entry_reader_number.mark : Mark := ⟨fun t => Nat.beq t 16, fun t => false, fun t => false, fun t => false, fun t => false⟩
def entry_reader_number.ann : Ann := ⟨fun n => [], fun n => none, fun n => none⟩
/-- '(*marlstone/entry.reader).number' -/
def entry_reader_number.sh (a0 : AV) (σ : Store) (Q : AEnd → Store → Prop) : Prop :=
  Do (aNil a0) fun t8 =>
  Do (aFieldAddr 0 1 t8) fun t9 =>
  Do (loadA false 1 t9 σ) fun t10 =>
  Do (aNil a0) fun t12 =>
  Do (aFieldAddr 1 1 t12) fun t13 =>
  Do (loadA false 1 t13 σ) fun t14 =>
  Do (aSlice .slice 1 t10 (some t14) none none) fun t15 =>
  Do (aPureC Go.Proofs.Try.prog 128 [t15]) fun t16 =>
  Do (aExt t16 0) fun t17 =>
  Do (aExt t16 1) fun t18 =>
  Do (aExt t16 2) fun t19 =>
  Do (aNil a0) fun t21 =>
  Do (aFieldAddr 1 1 t21) fun t22 =>
  Do (loadA false 1 t22 σ) fun t23 =>
  Do (aBin Go.Proofs.Try.prog .add 3 t23 t18) fun t25 =>
  Do (aNil a0) fun t26 =>
  Do (aFieldAddr 1 1 t26) fun t27 =>
  storeA 1 t27 t25 σ fun u σ =>
  Do (aNil a0) fun t30 =>
  Do (aFieldAddr 2 1 t30) fun t31 =>
  Do (loadA false 1 t31 σ) fun t32 =>
  Do (aGuard t32 false (aIs t19)) fun t34 =>
  Do (aGuard t32 false (aUn Go.Proofs.Try.prog .not t34)) fun t35 =>
  Do (aPick t32 (.val (.bool true)) t35) fun t36 =>
  Do (aNil a0) fun t37 =>
  Do (aFieldAddr 2 1 t37) fun t38 =>
  storeA 1 t38 t36 σ fun u_1 σ_1 =>
  Q (.ret t17) σ_1
theorem entry_reader_number.eq (a0 : AV) (σ : Store) (Q : AEnd → Store → Prop) : vc (semOf Go.Proofs.Try.prog entry_reader_number.mark) Go.Proofs.Try.f114.ntmps entry_reader_number.ann (bodyOf Go.Proofs.Try.f114) (endK [.tmp 2] Q) (argFr [a0]) σ = entry_reader_number.sh a0 σ Q := by kernel_rfl
theorem entry_reader_number.go {a0 : AV} {σ : Store} {Q : AEnd → Store → Prop} (h : entry_reader_number.sh a0 σ Q) : ACalls Go.Proofs.Try.prog 114 [a0] σ Q :=
  acalls_of_eq [.tmp 2] Go.Proofs.Try.func114 (by kernel_rfl) (by kernel_rfl) (by kernel_rfl) (by kernel_rfl) (entry_reader_number.eq a0 σ Q) h
def entry_reader_text.mark : Mark := ⟨fun t => Nat.beq t 16, fun t => false, fun t => false, fun t => false, fun t => false⟩
def entry_reader_text.ann : Ann := ⟨fun n => [], fun n => none, fun n => none⟩
/-- '(*marlstone/entry.reader).text' -/
def entry_reader_text.sh (a0 : AV) (σ : Store) (Q : AEnd → Store → Prop) : Prop :=
  Do (aNil a0) fun t8 =>
  Do (aFieldAddr 0 1 t8) fun t9 =>
  Do (loadA false 1 t9 σ) fun t10 =>
  Do (aNil a0) fun t12 =>
  Do (aFieldAddr 1 1 t12) fun t13 =>
  Do (loadA false 1 t13 σ) fun t14 =>
  Do (aSlice .slice 1 t10 (some t14) none none) fun t15 =>
  Do (aPureC Go.Proofs.Try.prog 129 [t15]) fun t16 =>
  Do (aExt t16 0) fun t17 =>
  Do (aExt t16 1) fun t18 =>
  Do (aExt t16 2) fun t19 =>
  Do (aNil a0) fun t21 =>
  Do (aFieldAddr 1 1 t21) fun t22 =>
  Do (loadA false 1 t22 σ) fun t23 =>
  Do (aBin Go.Proofs.Try.prog .add 3 t23 t18) fun t25 =>
  Do (aNil a0) fun t26 =>
  Do (aFieldAddr 1 1 t26) fun t27 =>
  storeA 1 t27 t25 σ fun u σ =>
  Do (aNil a0) fun t30 =>
  Do (aFieldAddr 2 1 t30) fun t31 =>
  Do (loadA false 1 t31 σ) fun t32 =>
  Do (aGuard t32 false (aIs t19)) fun t34 =>
  Do (aGuard t32 false (aUn Go.Proofs.Try.prog .not t34)) fun t35 =>
  Do (aPick t32 (.val (.bool true)) t35) fun t36 =>
  Do (aNil a0) fun t37 =>
  Do (aFieldAddr 2 1 t37) fun t38 =>
  storeA 1 t38 t36 σ fun u_1 σ_1 =>
  Q (.ret t17) σ_1
theorem entry_reader_text.eq (a0 : AV) (σ : Store) (Q : AEnd → Store → Prop) : vc (semOf Go.Proofs.Try.prog entry_reader_text.mark) Go.Proofs.Try.f115.ntmps entry_reader_text.ann (bodyOf Go.Proofs.Try.f115) (endK [.tmp 2] Q) (argFr [a0]) σ = entry_reader_text.sh a0 σ Q := by kernel_rfl
theorem entry_reader_text.go {a0 : AV} {σ : Store} {Q : AEnd → Store → Prop} (h : entry_reader_text.sh a0 σ Q) : ACalls Go.Proofs.Try.prog 115 [a0] σ Q :=
  acalls_of_eq [.tmp 2] Go.Proofs.Try.func115 (by kernel_rfl) (by kernel_rfl) (by kernel_rfl) (by kernel_rfl) (entry_reader_text.eq a0 σ Q) h
theorem number_ok (b : Nat) (l : List UInt8) (m : SM) (at_ : Nat) (w : Bool) (hl : l.length ≤ 1000000000000000) (ha : at_ ≤ l.length) : ACalls Go.Proofs.Try.prog 114 [ptrAt b 0] [.var b 158 [.lst 1 (l.map byt) m, I .i64 (at_ : Nat), B w]]
    fun x σ' => x = .ret (W64 (UInt64.ofNat (getV (l.drop at_)))) ∧ σ' = [.var b 158 [.lst 1 (l.map byt) m, I .i64 ((at_ + getN (l.drop at_) : Nat) : Int), B (w || !getO (l.drop at_))]] := by
  refine entry_reader_number.go ?_
  unfold entry_reader_number.sh
  obtain ⟨b1, b2, b3, b4⟩ := get_bound (s := l.drop at_)
  rw [List.length_drop] at b3
  repeat' (first | with_reducible apply Stp.go | with_reducible refine imp fun _ => ?_ | (with_reducible refine hyp ?_ ?_; first | assumption | exact leftT_mem (by assumption)) | (with_reducible refine need ?_ ?_; first | trivial | omega | exact ⟨by assumption, by omega⟩ | (simp only [List.length_append, List.length_cons, List.length_nil, List.length_map, List.length_take, List.length_drop, List.length_replicate, List.length_set]; omega)) | (with_reducible refine fact ?_ ?_; first | trivial | exact ⟨rfl, rfl⟩ | kernel_rfl) | with_reducible refine choT (by assumption) ?_ | with_reducible refine choF (by assumption) ?_ | with_reducible refine choF' (by assumption) ?_ | (with_reducible refine altT ?_ ?_; first | omega | (simp only [List.length_append, List.length_cons, List.length_nil, List.length_map, List.length_take, List.length_drop, List.length_replicate, List.length_set]; omega)) | with_reducible refine altF ?_ | with_reducible refine all fun _ => ?_ | with_reducible refine both ?_ ?_ | (with_reducible refine choT ?_ ?_; omega) | (with_reducible refine choF ?_ ?_; omega) | with_reducible refine cho (fun _ => ?_) (fun _ => ?_))
  all_goals
    refine ⟨rfl, ?_⟩
    simp_all
instance {b at_ : Nat} {l : List UInt8} {m : SM} {w : Bool} {x : Int} {σ rest : Store} {put : Ent → Store} [hv : VarAt b σ 158 [.lst 1 (l.map byt) m, .val (.int .i64 x), B w] put rest] [hx : NatOf x at_] : EC Go.Proofs.Try.prog 114 [ptrAt b 0] σ (l.length ≤ 1000000000000000 ∧ at_ ≤ l.length) Unit
    (fun _ => W64 (UInt64.ofNat (getV (l.drop at_)))) (fun _ => put (.var b 158 [.lst 1 (l.map byt) m, I .i64 ((at_ + getN (l.drop at_) : Nat) : Int), B (w || !getO (l.drop at_))])) := ⟨fun ⟨h1, h2⟩ => by
  have e := hx.eq
  subst e
  exact (ACalls.at_ (number_ok b l m at_ w h1 h2)).mono fun x σ' ⟨g1, g2⟩ => ⟨(), g1, g2⟩⟩
theorem text_ok (b : Nat) (l : List UInt8) (m : SM) (at_ : Nat) (w : Bool) (hl : l.length ≤ 1000000000000000) (ha : at_ ≤ l.length) : ACalls Go.Proofs.Try.prog 115 [ptrAt b 0] [.var b 158 [.lst 1 (l.map byt) m, I .i64 (at_ : Nat), B w]]
    fun x σ' => x = .ret (S (textV (l.drop at_))) ∧ σ' = [.var b 158 [.lst 1 (l.map byt) m, I .i64 ((at_ + textN (l.drop at_) : Nat) : Int), B (w || !textO (l.drop at_))]] := by
  refine entry_reader_text.go ?_
  unfold entry_reader_text.sh
  obtain ⟨b1, b2, b3⟩ := text_bound (s := l.drop at_)
  rw [List.length_drop] at b1
  repeat' (first | with_reducible apply Stp.go | with_reducible refine imp fun _ => ?_ | (with_reducible refine hyp ?_ ?_; first | assumption | exact leftT_mem (by assumption)) | (with_reducible refine need ?_ ?_; first | trivial | omega | exact ⟨by assumption, by omega⟩ | (simp only [List.length_append, List.length_cons, List.length_nil, List.length_map, List.length_take, List.length_drop, List.length_replicate, List.length_set]; omega)) | (with_reducible refine fact ?_ ?_; first | trivial | exact ⟨rfl, rfl⟩ | kernel_rfl) | with_reducible refine choT (by assumption) ?_ | with_reducible refine choF (by assumption) ?_ | with_reducible refine choF' (by assumption) ?_ | (with_reducible refine altT ?_ ?_; first | omega | (simp only [List.length_append, List.length_cons, List.length_nil, List.length_map, List.length_take, List.length_drop, List.length_replicate, List.length_set]; omega)) | with_reducible refine altF ?_ | with_reducible refine all fun _ => ?_ | with_reducible refine both ?_ ?_ | (with_reducible refine choT ?_ ?_; omega) | (with_reducible refine choF ?_ ?_; omega) | with_reducible refine cho (fun _ => ?_) (fun _ => ?_))
  all_goals
    refine ⟨rfl, ?_⟩
    simp_all
instance {b at_ : Nat} {l : List UInt8} {m : SM} {w : Bool} {x : Int} {σ rest : Store} {put : Ent → Store} [hv : VarAt b σ 158 [.lst 1 (l.map byt) m, .val (.int .i64 x), B w] put rest] [hx : NatOf x at_] : EC Go.Proofs.Try.prog 115 [ptrAt b 0] σ (l.length ≤ 1000000000000000 ∧ at_ ≤ l.length) Unit
    (fun _ => S (textV (l.drop at_))) (fun _ => put (.var b 158 [.lst 1 (l.map byt) m, I .i64 ((at_ + textN (l.drop at_) : Nat) : Int), B (w || !textO (l.drop at_))])) := ⟨fun ⟨h1, h2⟩ => by
  have e := hx.eq
  subst e
  exact (ACalls.at_ (text_ok b l m at_ w h1 h2)).mono fun x σ' ⟨g1, g2⟩ => ⟨(), g1, g2⟩⟩
def entry_Parse.mark : Mark := ⟨fun t => Nat.beq t 45, fun t => false, fun t => false, fun t => Nat.beq t 14 || Nat.beq t 27, fun t => false⟩
def entry_Parse.ann : Ann := ⟨fun n => [], fun n => bif Nat.beq n 8 then some [2, 5, 7] else none, fun n => bif Nat.beq n 5 then some [2, 5, 7] else bif Nat.beq n 10 then some [2, 3, 4] else none⟩
/-- 'marlstone/entry.Parse' -/
def entry_Parse.sh (a0 : AV) (σ : Store) (Q : AEnd → Store → Prop) : Prop :=
  aNewVar 54 [.val (.string ⟨#[]⟩), .val (.string ⟨#[]⟩), .val (.bool false), .val (.int .i64 0)] σ fun t2 σ =>
  Do (aBuiltin Go.Proofs.Try.prog .len #[27] [a0]) fun t9 =>
  Do (aBin Go.Proofs.Try.prog .eql 3 t9 (.val (.int .i64 0))) fun t10 =>
  Do (aGuard t10 false (aIs a0)) fun t12 =>
  Do (aGuard t10 false (aIndexAddr .slice 1 t12 (.val (.int .i64 0)))) fun t13 =>
  Do (aGuard t10 false (loadF false 1 t13)) fun t14 =>
  Do (aGuard t10 false (aBin Go.Proofs.Try.prog .gtr 5 t14 (W8 1))) fun t15 =>
  Do (aPick t10 (.val (.bool true)) t15) fun t16 =>
  aCond t16
    (Do (aLit [.val (.string ⟨#[]⟩), .val (.string ⟨#[]⟩), .val (.bool false), .val (.int .i64 0)] [(0, 1), (1, 1), (2, 1), (3, 1)] []) fun t17 =>
    storeA 4 t2 t17 σ fun u σ_1 =>
    Do (loadA true 4 t2 σ_1) fun r2 => Q (.ret (.tuple [r2, (.val (.int .i64 0)), (.val (.int .i64 2))])) σ_1)
    (Do (aLit [.val (.slice none 0 0), .val (.int .i64 0), .val (.bool false)] [(0, 1), (1, 1), (2, 1)] [(0, a0), (1, (.val (.int .i64 1)))]) fun t19 =>
  aNewVar 158 (t19 : AV).cells σ fun t20 σ_2 =>
  aCall Go.Proofs.Try.prog 114 [t20] σ_2 (fun t22 σ_3 =>
  aJoin (fun j =>
    Do (aIndexAddr .slice 1 a0 (.val (.int .i64 0))) fun t26 =>
    Do (loadF false 1 t26) fun t27 =>
    Do (aBin Go.Proofs.Try.prog .eql 5 t27 (W8 1)) fun t28 =>
    Do (aBuiltin Go.Proofs.Try.prog .min #[143, 143] [t22, (W64 1099511627777)]) fun t30 =>
    Do (fun x => aConvN 143 3 t30 x Go.Proofs.Try.prog) fun t31 =>
    Both (aCall Go.Proofs.Try.prog 115 [t20] σ_3 (fun t24 σ_5 =>
    Do (aLit [.val (.string ⟨#[]⟩), .val (.string ⟨#[]⟩), .val (.bool false), .val (.int .i64 0)] [(0, 1), (1, 1), (2, 1), (3, 1)] [(0, t24), (2, t28), (3, t31)]) fun t32 =>
    aNewVar 54 [.val (.string ⟨#[]⟩), .val (.string ⟨#[]⟩), .val (.bool false), .val (.int .i64 0)] σ_5 fun t7 σ_6 =>
    storeA 4 t7 t32 σ_6 fun u_1 σ_7 =>
    j [t2, t20, t7] σ_7) (fun e σ_8 => Q (.pan e) σ_8)) (aNewVar 54 [.val (.string ⟨#[]⟩), .val (.string ⟨#[]⟩), .val (.bool false), .val (.int .i64 0)] σ_3 fun t7_1 σ_9 =>
    aCall Go.Proofs.Try.prog 115 [t20] σ_9 (fun t24_1 σ_10 =>
    Do (aLit [.val (.string ⟨#[]⟩), .val (.string ⟨#[]⟩), .val (.bool false), .val (.int .i64 0)] [(0, 1), (1, 1), (2, 1), (3, 1)] [(0, t24_1), (2, t28), (3, t31)]) fun t32_1 =>
    storeA 4 t7_1 t32_1 σ_10 fun u_2 σ_11 =>
    j [t2, t20, t7_1] σ_11) (fun e_1 σ_12 => Q (.pan e_1) σ_12))) fun vs σ_4 =>
  At vs 0 fun s2 => At vs 1 fun s5 => At vs 2 fun s7 => aJoin (fun j_1 =>
    Do (aFieldAddr 2 1 s7) fun t33 =>
    Do (loadA false 1 t33 σ_4) fun t34 =>
    Do (aUn Go.Proofs.Try.prog .not t34) fun t35 =>
    aCond t35
      (aCall Go.Proofs.Try.prog 115 [s5] σ_4 (fun t37 σ_14 =>
      Do (aFieldAddr 1 1 s7) fun t38 =>
      storeA 1 t38 t37 σ_14 fun u_3 σ_15 =>
      j_1 [s2, s5, s7] σ_15) (fun e_2 σ_16 => Q (.pan e_2) σ_16))
      (j_1 [s2, s5, s7] σ_4)) fun vs_1 σ_13 =>
  At vs_1 0 fun s2_1 => At vs_1 1 fun s5_1 => At vs_1 2 fun s7_1 => Do (aNil s5_1) fun t40 =>
  Do (aFieldAddr 2 1 t40) fun t41 =>
  Do (loadA false 1 t41 σ_13) fun t42 =>
  Do (aGuard t42 false (loadA true 4 s7_1 σ_13)) fun t44 =>
  Do (aGuard t42 false (aPureC Go.Proofs.Try.prog 61 [t44])) fun t45 =>
  Do (aGuard t42 false (aUn Go.Proofs.Try.prog .not t45)) fun t46 =>
  Do (aPick t42 (.val (.bool true)) t46) fun t47 =>
  aCond t47
    (Do (aLit [.val (.string ⟨#[]⟩), .val (.string ⟨#[]⟩), .val (.bool false), .val (.int .i64 0)] [(0, 1), (1, 1), (2, 1), (3, 1)] []) fun t48 =>
    storeA 4 s2_1 t48 σ_13 fun u_4 σ_17 =>
    Do (loadA true 4 s2_1 σ_17) fun r2_1 => Q (.ret (.tuple [r2_1, (.val (.int .i64 0)), (.val (.int .i64 2))])) σ_17)
    (aJoin (fun j_2 =>
    Do (loadA true 4 s7_1 σ_13) fun t49 =>
    Do (aNil s5_1) fun t51 =>
    Do (aFieldAddr 1 1 t51) fun t52 =>
    Both (Do (loadA false 1 t52 σ_13) fun t53 =>
    storeA 4 s2_1 t49 σ_13 fun u_5 σ_19 =>
    j_2 [s2_1, t53, (.val (.int .i64 0))] σ_19) (storeA 4 s2_1 t49 σ_13 fun u_6 σ_20 =>
    Do (loadA false 1 t52 σ_20) fun t53_1 =>
    j_2 [s2_1, t53_1, (.val (.int .i64 0))] σ_20)) fun vs_2 σ_18 =>
  At vs_2 0 fun s2_2 => At vs_2 1 fun s3 => At vs_2 2 fun s4 => Do (loadA true 4 s2_2 σ_18) fun r2_2 => Q (.ret (.tuple [r2_2, s3, s4])) σ_18)) (fun e_3 σ_21 => Q (.pan e_3) σ_21))
theorem entry_Parse.eq (a0 : AV) (σ : Store) (Q : AEnd → Store → Prop) : vc (semOf Go.Proofs.Try.prog entry_Parse.mark) Go.Proofs.Try.f93.ntmps entry_Parse.ann (bodyOf Go.Proofs.Try.f93) (endK [.cell 2 true 4, .tmp 3, .tmp 4] Q) (argFr [a0]) σ = entry_Parse.sh a0 σ Q := by kernel_rfl
theorem entry_Parse.go {a0 : AV} {σ : Store} {Q : AEnd → Store → Prop} (h : entry_Parse.sh a0 σ Q) : ACalls Go.Proofs.Try.prog 93 [a0] σ Q :=
  acalls_of_eq [.cell 2 true 4, .tmp 3, .tmp 4] Go.Proofs.Try.func93 (by kernel_rfl) (by kernel_rfl) (by kernel_rfl) (by kernel_rfl) (entry_Parse.eq a0 σ Q) h
def ref03_Parse.mark : Mark := ⟨fun t => Nat.beq t 28 || Nat.beq t 45 || Nat.beq t 69 || Nat.beq t 82, fun t => false, fun t => false, fun t => false, fun t => false⟩
def ref03_Parse.ann : Ann := ⟨fun n => [], fun n => bif Nat.beq n 18 then some [2, 8, 12] else none, fun n => none⟩
/-- 'marlstone/marlstoneref03.Parse' -/
def ref03_Parse.sh (a0 : AV) (σ : Store) (Q : AEnd → Store → Prop) : Prop :=
  aNewVar 54 [.val (.string ⟨#[]⟩), .val (.string ⟨#[]⟩), .val (.bool false), .val (.int .i64 0)] σ fun t2 σ =>
  Do (aBin Go.Proofs.Try.prog .eql 9 a0 (.val (.string ⟨#[]⟩))) fun t18 =>
  Do (aGuard t18 false (aIs a0)) fun t20 =>
  Do (aGuard t18 false (aIndex .string false 1 t20 (.val (.int .i64 0)))) fun t21 =>
  Do (aGuard t18 false (aBin Go.Proofs.Try.prog .gtr 5 t21 (W8 1))) fun t22 =>
  Do (aPick t18 (.val (.bool true)) t22) fun t23 =>
  aCond t23
    (Do (aLit [.val (.string ⟨#[]⟩), .val (.string ⟨#[]⟩), .val (.bool false), .val (.int .i64 0)] [(0, 1), (1, 1), (2, 1), (3, 1)] []) fun t24 =>
    storeA 4 t2 t24 σ fun u σ_1 =>
    Do (loadA true 4 t2 σ_1) fun r2 => Q (.ret (.tuple [r2, (.val (.int .i64 0)), (.val (.int .i64 2))])) σ_1)
    (Do (aSlice .string 1 a0 (some (.val (.int .i64 1))) none none) fun t27 =>
  Do (aPureC Go.Proofs.Try.prog 117 [t27]) fun t28 =>
  Do (aExt t28 0) fun t29 =>
  Do (aExt t28 1) fun t30 =>
  Do (aExt t28 2) fun t31 =>
  Do (aUn Go.Proofs.Try.prog .not t31) fun t33 =>
  Do (aGuard t33 false (aIs t29)) fun t35 =>
  Do (aGuard t33 false (aBin Go.Proofs.Try.prog .gtr 143 t35 (W64 1099511627776))) fun t36 =>
  Do (aPick t33 (.val (.bool true)) t36) fun t37 =>
  aCond t37
    (Do (aLit [.val (.string ⟨#[]⟩), .val (.string ⟨#[]⟩), .val (.bool false), .val (.int .i64 0)] [(0, 1), (1, 1), (2, 1), (3, 1)] []) fun t38 =>
    storeA 4 t2 t38 σ fun u_1 σ_2 =>
    Do (loadA true 4 t2 σ_2) fun r2_1 => Q (.ret (.tuple [r2_1, (.val (.int .i64 0)), (.val (.int .i64 2))])) σ_2)
    (Do (aBin Go.Proofs.Try.prog .add 3 (.val (.int .i64 1)) t30) fun t40 =>
  Do (aSlice .string 1 a0 (some t40) none none) fun t44 =>
  Do (aPureC Go.Proofs.Try.prog 118 [t44]) fun t45 =>
  Do (aExt t45 0) fun t46 =>
  Do (aExt t45 1) fun t47 =>
  Do (aExt t45 2) fun t48 =>
  Do (aUn Go.Proofs.Try.prog .not t48) fun t50 =>
  aCond t50
    (Do (aLit [.val (.string ⟨#[]⟩), .val (.string ⟨#[]⟩), .val (.bool false), .val (.int .i64 0)] [(0, 1), (1, 1), (2, 1), (3, 1)] []) fun t51 =>
    storeA 4 t2 t51 σ fun u_2 σ_3 =>
    Do (loadA true 4 t2 σ_3) fun r2_2 => Q (.ret (.tuple [r2_2, (.val (.int .i64 0)), (.val (.int .i64 2))])) σ_3)
    (Do (aBin Go.Proofs.Try.prog .add 3 t40 t47) fun t54 =>
  Do (aIndex .string false 1 a0 (.val (.int .i64 0))) fun t57 =>
  Do (aBin Go.Proofs.Try.prog .eql 5 t57 (W8 1)) fun t58 =>
  Do (fun x => aConvN 143 3 t29 x Go.Proofs.Try.prog) fun t60 =>
  Do (aLit [.val (.string ⟨#[]⟩), .val (.string ⟨#[]⟩), .val (.bool false), .val (.int .i64 0)] [(0, 1), (1, 1), (2, 1), (3, 1)] [(0, t46), (2, t58), (3, t60)]) fun t61 =>
  aNewVar 54 [.val (.string ⟨#[]⟩), .val (.string ⟨#[]⟩), .val (.bool false), .val (.int .i64 0)] σ fun t12 σ_4 =>
  storeA 4 t12 t61 σ_4 fun u_3 σ_5 =>
  aJoin (fun j =>
    Do (aFieldAddr 2 1 t12) fun t62 =>
    Do (loadA false 1 t62 σ_5) fun t63 =>
    Do (aUn Go.Proofs.Try.prog .not t63) fun t64 =>
    aCond t64
      (Do (aSlice .string 1 a0 (some t54) none none) fun t68 =>
      Do (aPureC Go.Proofs.Try.prog 118 [t68]) fun t69 =>
      Do (aExt t69 0) fun t70 =>
      Do (aExt t69 1) fun t71 =>
      Do (aExt t69 2) fun t72 =>
      Do (aUn Go.Proofs.Try.prog .not t72) fun t74 =>
      aCond t74
        (Do (aLit [.val (.string ⟨#[]⟩), .val (.string ⟨#[]⟩), .val (.bool false), .val (.int .i64 0)] [(0, 1), (1, 1), (2, 1), (3, 1)] []) fun t75 =>
        storeA 4 t2 t75 σ_5 fun u_4 σ_7 =>
        Do (loadA true 4 t2 σ_7) fun r2_3 => Q (.ret (.tuple [r2_3, (.val (.int .i64 0)), (.val (.int .i64 2))])) σ_7)
        (Do (aFieldAddr 1 1 t12) fun t77 =>
      storeA 1 t77 t70 σ_5 fun u_5 σ_8 =>
      Do (aBin Go.Proofs.Try.prog .add 3 t54 t71) fun t80 =>
      j [t2, t80, t12] σ_8))
      (j [t2, t54, t12] σ_5)) fun vs σ_6 =>
  At vs 0 fun s2 => At vs 1 fun s8 => At vs 2 fun s12 => Do (loadA true 4 s12 σ_6) fun t81 =>
  Do (aPureC Go.Proofs.Try.prog 87 [t81]) fun t82 =>
  Do (aUn Go.Proofs.Try.prog .not t82) fun t84 =>
  aCond t84
    (Do (aLit [.val (.string ⟨#[]⟩), .val (.string ⟨#[]⟩), .val (.bool false), .val (.int .i64 0)] [(0, 1), (1, 1), (2, 1), (3, 1)] []) fun t85 =>
    storeA 4 s2 t85 σ_6 fun u_6 σ_9 =>
    Do (loadA true 4 s2 σ_9) fun r2_4 => Q (.ret (.tuple [r2_4, (.val (.int .i64 0)), (.val (.int .i64 2))])) σ_9)
    (Do (loadA true 4 s12 σ_6) fun t86 =>
  storeA 4 s2 t86 σ_6 fun u_7 σ_10 =>
  Do (loadA true 4 s2 σ_10) fun r2_5 => Q (.ret (.tuple [r2_5, s8, (.val (.int .i64 0))])) σ_10))))
theorem ref03_Parse.eq (a0 : AV) (σ : Store) (Q : AEnd → Store → Prop) : vc (semOf Go.Proofs.Try.prog ref03_Parse.mark) Go.Proofs.Try.f97.ntmps ref03_Parse.ann (bodyOf Go.Proofs.Try.f97) (endK [.cell 2 true 4, .tmp 3, .tmp 4] Q) (argFr [a0]) σ = ref03_Parse.sh a0 σ Q := by kernel_rfl
theorem ref03_Parse.go {a0 : AV} {σ : Store} {Q : AEnd → Store → Prop} (h : ref03_Parse.sh a0 σ Q) : ACalls Go.Proofs.Try.prog 97 [a0] σ Q :=
  acalls_of_eq [.cell 2 true 4, .tmp 3, .tmp 4] Go.Proofs.Try.func97 (by kernel_rfl) (by kernel_rfl) (by kernel_rfl) (by kernel_rfl) (ref03_Parse.eq a0 σ Q) h
theorem p_fail {l : List UInt8} (h : parseE l = none) : AEnd.ret (.tuple [En.zero.av, I .i64 0, I .i64 2]) = .ret (.tuple [(parseV l).av, I .i64 (parseN l : Nat), I .i64 (parseX l)]) := by
  simp [parseV, parseN, parseX, h]
theorem p_done {l : List UInt8} {e : En} {n : Nat} (h : parseE l = some (e, n)) : AEnd.ret (.tuple [e.av, I .i64 (n : Nat), I .i64 0]) = .ret (.tuple [(parseV l).av, I .i64 (parseN l : Nat), I .i64 (parseX l)]) := by
  simp [parseV, parseN, parseX, h]
theorem entry_Parse_ok (l : List UInt8) (m : SM) (hl : l.length ≤ 1000000000000000) : aPure Go.Proofs.Try.prog 93 [.lst 1 (l.map byt) m] (.tuple [(parseV l).av, I .i64 (parseN l : Nat), I .i64 (parseX l)]) := by
  refine ACalls.fin (entry_Parse.go ?_)
  unfold entry_Parse.sh
  obtain ⟨b1, b2, b3, b4⟩ := get_bound (s := l.drop 1)
  obtain ⟨c1, c2, c3⟩ := text_bound (s := l.drop (1 + getN (l.drop 1)))
  obtain ⟨d1, d2, d3⟩ := text_bound (s := l.drop (1 + getN (l.drop 1) + textN (l.drop (1 + getN (l.drop 1)))))
  rw [List.length_drop] at b3 c1 d1
  repeat' (first | with_reducible apply Stp.go | with_reducible refine imp fun _ => ?_ | (with_reducible refine hyp ?_ ?_; first | assumption | exact leftT_mem (by assumption)) | (with_reducible refine need ?_ ?_; first | trivial | omega | exact ⟨by assumption, by omega⟩ | (simp only [List.length_append, List.length_cons, List.length_nil, List.length_map, List.length_take, List.length_drop, List.length_replicate, List.length_set]; omega)) | (with_reducible refine fact ?_ ?_; first | trivial | exact ⟨rfl, rfl⟩ | kernel_rfl) | with_reducible refine choT (by assumption) ?_ | with_reducible refine choF (by assumption) ?_ | with_reducible refine choF' (by assumption) ?_ | (with_reducible refine altT ?_ ?_; first | omega | (simp only [List.length_append, List.length_cons, List.length_nil, List.length_map, List.length_take, List.length_drop, List.length_replicate, List.length_set]; omega)) | with_reducible refine altF ?_ | with_reducible refine all fun _ => ?_ | with_reducible refine both ?_ ?_ | (with_reducible refine choT ?_ ?_; omega) | (with_reducible refine choF ?_ ?_; omega) | with_reducible refine cho (fun _ => ?_) (fun _ => ?_))
  · rename_i h0
    refine ⟨_, _, _, rfl, Sub.app_nil _, p_fail ?_, rfl⟩
    rw [parseE, if_pos (.inl (List.length_eq_zero_iff.1 h0))]
  · rename_i h0 h1
    refine ⟨_, _, _, rfl, Sub.app_nil _, p_fail ?_, rfl⟩
    rw [parseE, if_pos (.inr h1)]
  · rename_i r2 h0 h1 r _
    have hmin : (if (UInt64.ofNat (getV (l.drop 1))).toNat ≤ UInt64.toNat 1099511627777 then UInt64.ofNat (getV (l.drop 1)) else 1099511627777).toNat = min (getV (l.drop 1)) 1099511627777 := by
      have e := u64_len b1
      have e2 : UInt64.toNat 1099511627777 = 1099511627777 := rfl
      rw [e, e2]
      split
      · rw [e]; omega
      · rw [e2]; omega
    refine joinI (β := Nat) (fun _ => True) (fun b => [ptrAt r2 0, ptrAt r 0, ptrAt b 0]) (fun b => [.var r 158 [.lst 1 (l.map byt) m, I .i64 ((1 + getN (l.drop 1) + textN (l.drop (1 + getN (l.drop 1))) : Nat) : Int), B (!getO (l.drop 1) || !textO (l.drop (1 + getN (l.drop 1))))], .var r2 54 En.zero.cs,
      .var b 54 (En.cs ⟨textV (l.drop (1 + getN (l.drop 1))), [], decide ((l.getD 0 default).toNat = 1), (min (getV (l.drop 1)) 1099511627777 : Nat)⟩)]) ?_ ?_
    · repeat' (first | with_reducible apply Stp.go | with_reducible refine imp fun _ => ?_ | (with_reducible refine hyp ?_ ?_; first | assumption | exact leftT_mem (by assumption)) | (with_reducible refine need ?_ ?_; first | trivial | omega | exact ⟨by assumption, by omega⟩ | (simp only [List.length_append, List.length_cons, List.length_nil, List.length_map, List.length_take, List.length_drop, List.length_replicate, List.length_set]; omega)) | (with_reducible refine fact ?_ ?_; first | trivial | exact ⟨rfl, rfl⟩ | kernel_rfl) | with_reducible refine choT (by assumption) ?_ | with_reducible refine choF (by assumption) ?_ | with_reducible refine choF' (by assumption) ?_ | (with_reducible refine altT ?_ ?_; first | omega | (simp only [List.length_append, List.length_cons, List.length_nil, List.length_map, List.length_take, List.length_drop, List.length_replicate, List.length_set]; omega)) | with_reducible refine altF ?_ | with_reducible refine all fun _ => ?_ | with_reducible refine both ?_ ?_ | (with_reducible refine choT ?_ ?_; omega) | (with_reducible refine choF ?_ ?_; omega) | with_reducible refine cho (fun _ => ?_) (fun _ => ?_))
      all_goals try rw [hmin]
      repeat' (first | with_reducible apply Stp.go | with_reducible refine imp fun _ => ?_ | (with_reducible refine hyp ?_ ?_; first | assumption | exact leftT_mem (by assumption)) | (with_reducible refine need ?_ ?_; first | trivial | omega | exact ⟨by assumption, by omega⟩ | (simp only [List.length_append, List.length_cons, List.length_nil, List.length_map, List.length_take, List.length_drop, List.length_replicate, List.length_set]; omega)) | (with_reducible refine fact ?_ ?_; first | trivial | exact ⟨rfl, rfl⟩ | kernel_rfl) | with_reducible refine choT (by assumption) ?_ | with_reducible refine choF (by assumption) ?_ | with_reducible refine choF' (by assumption) ?_ | (with_reducible refine altT ?_ ?_; first | omega | (simp only [List.length_append, List.length_cons, List.length_nil, List.length_map, List.length_take, List.length_drop, List.length_replicate, List.length_set]; omega)) | with_reducible refine altF ?_ | with_reducible refine all fun _ => ?_ | with_reducible refine both ?_ ?_ | (with_reducible refine choT ?_ ?_; omega) | (with_reducible refine choF ?_ ?_; omega) | with_reducible refine cho (fun _ => ?_) (fun _ => ?_))
      all_goals try rw [hmin]
      all_goals try rw [Bool.false_or]
      all_goals exact meet _ trivial (subS _)
    · intro b _
      repeat' (first | with_reducible apply Stp.go | with_reducible refine imp fun _ => ?_ | (with_reducible refine hyp ?_ ?_; first | assumption | exact leftT_mem (by assumption)) | (with_reducible refine need ?_ ?_; first | trivial | omega | exact ⟨by assumption, by omega⟩ | (simp only [List.length_append, List.length_cons, List.length_nil, List.length_map, List.length_take, List.length_drop, List.length_replicate, List.length_set]; omega)) | (with_reducible refine fact ?_ ?_; first | trivial | exact ⟨rfl, rfl⟩ | kernel_rfl) | with_reducible refine choT (by assumption) ?_ | with_reducible refine choF (by assumption) ?_ | with_reducible refine choF' (by assumption) ?_ | (with_reducible refine altT ?_ ?_; first | omega | (simp only [List.length_append, List.length_cons, List.length_nil, List.length_map, List.length_take, List.length_drop, List.length_replicate, List.length_set]; omega)) | with_reducible refine altF ?_ | with_reducible refine all fun _ => ?_ | with_reducible refine both ?_ ?_ | (with_reducible refine choT ?_ ?_; omega) | (with_reducible refine choF ?_ ?_; omega) | with_reducible refine cho (fun _ => ?_) (fun _ => ?_))
      refine joinE ?_
      repeat' (first | with_reducible apply Stp.go | with_reducible refine imp fun _ => ?_ | (with_reducible refine hyp ?_ ?_; first | assumption | exact leftT_mem (by assumption)) | (with_reducible refine need ?_ ?_; first | trivial | omega | exact ⟨by assumption, by omega⟩ | (simp only [List.length_append, List.length_cons, List.length_nil, List.length_map, List.length_take, List.length_drop, List.length_replicate, List.length_set]; omega)) | (with_reducible refine fact ?_ ?_; first | trivial | exact ⟨rfl, rfl⟩ | kernel_rfl) | with_reducible refine choT (by assumption) ?_ | with_reducible refine choF (by assumption) ?_ | with_reducible refine choF' (by assumption) ?_ | (with_reducible refine altT ?_ ?_; first | omega | (simp only [List.length_append, List.length_cons, List.length_nil, List.length_map, List.length_take, List.length_drop, List.length_replicate, List.length_set]; omega)) | with_reducible refine altF ?_ | with_reducible refine all fun _ => ?_ | with_reducible refine both ?_ ?_ | (with_reducible refine choT ?_ ?_; omega) | (with_reducible refine choF ?_ ?_; omega) | with_reducible refine cho (fun _ => ?_) (fun _ => ?_))
      all_goals try refine joinE ?_
      repeat' (first | with_reducible apply Stp.go | with_reducible refine imp fun _ => ?_ | (with_reducible refine hyp ?_ ?_; first | assumption | exact leftT_mem (by assumption)) | (with_reducible refine need ?_ ?_; first | trivial | omega | exact ⟨by assumption, by omega⟩ | (simp only [List.length_append, List.length_cons, List.length_nil, List.length_map, List.length_take, List.length_drop, List.length_replicate, List.length_set]; omega)) | (with_reducible refine fact ?_ ?_; first | trivial | exact ⟨rfl, rfl⟩ | kernel_rfl) | with_reducible refine choT (by assumption) ?_ | with_reducible refine choF (by assumption) ?_ | with_reducible refine choF' (by assumption) ?_ | (with_reducible refine altT ?_ ?_; first | omega | (simp only [List.length_append, List.length_cons, List.length_nil, List.length_map, List.length_take, List.length_drop, List.length_replicate, List.length_set]; omega)) | with_reducible refine altF ?_ | with_reducible refine all fun _ => ?_ | with_reducible refine both ?_ ?_ | (with_reducible refine choT ?_ ?_; omega) | (with_reducible refine choF ?_ ?_; omega) | with_reducible refine cho (fun _ => ?_) (fun _ => ?_))
      · rename_i hd hw
        exact ⟨_, _, _, rfl, Sub.app_nil _, p_fail (parse_fail1 hw), rfl⟩
      · rename_i hd hw hr
        exact ⟨_, _, _, rfl, Sub.app_nil _, p_done (by rw [parse_del h0 h1 hd hw, if_pos hr]), rfl⟩
      · rename_i hd hw hr
        exact ⟨_, _, _, rfl, Sub.app_nil _, p_done (by rw [parse_del h0 h1 hd hw, if_pos hr]), rfl⟩
      · rename_i hd hw hr
        exact ⟨_, _, _, rfl, Sub.app_nil _, p_fail (by rw [parse_del h0 h1 hd hw, if_neg hr]), rfl⟩
      · rename_i hd _ hw
        exact ⟨_, _, _, rfl, Sub.app_nil _, p_fail (parse_fail2 hd hw), rfl⟩
      · rename_i hd _ hw hr
        exact ⟨_, _, _, rfl, Sub.app_nil _, p_done (by rw [parse_val h0 h1 hd hw, if_pos hr]), rfl⟩
      · rename_i hd _ hw hr
        exact ⟨_, _, _, rfl, Sub.app_nil _, p_done (by rw [parse_val h0 h1 hd hw, if_pos hr]), rfl⟩
      · rename_i hd _ hw hr
        exact ⟨_, _, _, rfl, Sub.app_nil _, p_fail (by rw [parse_val h0 h1 hd hw, if_neg hr]), rfl⟩
instance {a : AV} {l : List UInt8} {m : SM} [h : IsL a byt 1 l m] : PC Go.Proofs.Try.prog 93 [a] (l.length ≤ 1000000000000000) (.tuple [(parseV l).av, I .i64 (parseN l : Nat), I .i64 (parseX l)]) := ⟨fun hl => ⟨[.lst 1 (l.map byt) m], ⟨h.sub, trivial⟩, entry_Parse_ok l m hl⟩⟩
theorem ref03_Parse_ok (l : List UInt8) (hl : l.length ≤ 1000000000000000) : aPure Go.Proofs.Try.prog 97 [S l] (.tuple [(parseV l).av, I .i64 (parseN l : Nat), I .i64 (parseX l)]) := by
  refine ACalls.fin (ref03_Parse.go ?_)
  unfold ref03_Parse.sh
  obtain ⟨b1, b2, b3, b4⟩ := get_bound (s := l.drop 1)
  obtain ⟨c1, c2, c3⟩ := text_bound (s := l.drop (1 + getN (l.drop 1)))
  obtain ⟨d1, d2, d3⟩ := text_bound (s := l.drop (1 + getN (l.drop 1) + textN (l.drop (1 + getN (l.drop 1)))))
  rw [List.length_drop] at b3 c1 d1
  have hmod : getV (l.drop 1) % 18446744073709551616 = getV (l.drop 1) := Nat.mod_eq_of_lt b1
  by_cases h0 : l = []
  · repeat' (first | with_reducible apply Stp.go | with_reducible refine imp fun _ => ?_ | (with_reducible refine hyp ?_ ?_; first | assumption | exact leftT_mem (by assumption)) | (with_reducible refine need ?_ ?_; first | trivial | omega | exact ⟨by assumption, by omega⟩ | (simp only [List.length_append, List.length_cons, List.length_nil, List.length_map, List.length_take, List.length_drop, List.length_replicate, List.length_set]; omega)) | (with_reducible refine fact ?_ ?_; first | trivial | exact ⟨rfl, rfl⟩ | kernel_rfl) | with_reducible refine choT (by assumption) ?_ | with_reducible refine choF (by assumption) ?_ | with_reducible refine choF' (by assumption) ?_ | (with_reducible refine altT ?_ ?_; first | omega | (simp only [List.length_append, List.length_cons, List.length_nil, List.length_map, List.length_take, List.length_drop, List.length_replicate, List.length_set]; omega)) | with_reducible refine altF ?_ | with_reducible refine all fun _ => ?_ | with_reducible refine both ?_ ?_ | (with_reducible refine choT ?_ ?_; omega) | (with_reducible refine choF ?_ ?_; omega) | with_reducible refine cho (fun _ => ?_) (fun _ => ?_))
    refine ⟨_, _, _, rfl, Sub.app_nil _, p_fail ?_, rfl⟩
    rw [parseE, if_pos (.inl h0)]
  · have h0' : 0 < l.length := List.length_pos_iff.2 h0
    have hq : ∀ x : Nat, ¬ 1099511627776 % 18446744073709551616 < x % 18446744073709551616 → x % 18446744073709551616 ≤ 9223372036854775807 := fun x h => by omega
    repeat' (first | with_reducible apply Stp.go | with_reducible refine imp fun _ => ?_ | (with_reducible refine hyp ?_ ?_; first | assumption | exact leftT_mem (by assumption)) | (with_reducible refine need ?_ ?_; first | trivial | omega | exact ⟨by assumption, by omega⟩ | (simp only [List.length_append, List.length_cons, List.length_nil, List.length_map, List.length_take, List.length_drop, List.length_replicate, List.length_set]; omega)) | (with_reducible refine fact ?_ ?_; first | trivial | exact ⟨rfl, rfl⟩ | kernel_rfl) | with_reducible refine choT (by assumption) ?_ | with_reducible refine choF (by assumption) ?_ | with_reducible refine choF' (by assumption) ?_ | (with_reducible refine altT ?_ ?_; first | omega | (simp only [List.length_append, List.length_cons, List.length_nil, List.length_map, List.length_take, List.length_drop, List.length_replicate, List.length_set]; omega)) | with_reducible refine altF ?_ | with_reducible refine all fun _ => ?_ | with_reducible refine both ?_ ?_ | (with_reducible refine choT ?_ ?_; omega) | (with_reducible refine choF ?_ ?_; omega) | with_reducible refine cho (fun _ => ?_) (fun _ => ?_))
    · rename_i h1
      exact ⟨_, _, _, rfl, Sub.app_nil _, p_fail (by rw [parseE, if_pos (.inr h1)]), rfl⟩
    · rename_i h1 hg hq'
      refine ⟨_, _, _, rfl, Sub.app_nil _, p_fail ?_, rfl⟩
      rw [parseE, if_neg (fun hc => hc.elim h0 h1), if_pos (.inr (by rw [hmod] at hq'; omega))]
    · rename_i r2 h1 hg hq' ht
      refine need (hq _ hq') ?_
      rw [hmod] at *
      have hq2 : ¬ (1099511627776 : Nat) % 18446744073709551616 < getV (l.drop 1) := hq'
      have hmin : min (getV (l.drop 1)) 1099511627777 = getV (l.drop 1) := Nat.min_eq_left (by omega)
      have e0 : l.getD 0 default = l.getD 0 0 := rfl
      have hl0 : ¬ l.length = 0 := by omega
      have hw : ¬ (!getO (l.drop 1) || !textO (l.drop (1 + getN (l.drop 1)))) = true := by rw [hg, ht]; decide
      have hP := fun hd => parse_del hl0 h1 hd hw
      have hw2 := fun (h3 : textO (l.drop (1 + getN (l.drop 1) + textN (l.drop (1 + getN (l.drop 1))))) = true) => (by rw [hg, ht, h3]; decide : ¬ (!getO (l.drop 1) || !textO (l.drop (1 + getN (l.drop 1))) || !textO (l.drop (1 + getN (l.drop 1) + textN (l.drop (1 + getN (l.drop 1)))))) = true)
      have hV := fun hd h3 => parse_val hl0 h1 hd (hw2 h3)
      rw [hmin, e0] at hP hV
      repeat' (first | with_reducible apply Stp.go | with_reducible refine imp fun _ => ?_ | (with_reducible refine hyp ?_ ?_; first | assumption | exact leftT_mem (by assumption)) | (with_reducible refine need ?_ ?_; first | trivial | omega | exact ⟨by assumption, by omega⟩ | (simp only [List.length_append, List.length_cons, List.length_nil, List.length_map, List.length_take, List.length_drop, List.length_replicate, List.length_set]; omega)) | (with_reducible refine fact ?_ ?_; first | trivial | exact ⟨rfl, rfl⟩ | kernel_rfl) | with_reducible refine choT (by assumption) ?_ | with_reducible refine choF (by assumption) ?_ | with_reducible refine choF' (by assumption) ?_ | (with_reducible refine altT ?_ ?_; first | omega | (simp only [List.length_append, List.length_cons, List.length_nil, List.length_map, List.length_take, List.length_drop, List.length_replicate, List.length_set]; omega)) | with_reducible refine altF ?_ | with_reducible refine all fun _ => ?_ | with_reducible refine both ?_ ?_ | (with_reducible refine choT ?_ ?_; omega) | (with_reducible refine choF ?_ ?_; omega) | with_reducible refine cho (fun _ => ?_) (fun _ => ?_))
      refine joinE ?_
      repeat' (first | with_reducible apply Stp.go | with_reducible refine imp fun _ => ?_ | (with_reducible refine hyp ?_ ?_; first | assumption | exact leftT_mem (by assumption)) | (with_reducible refine need ?_ ?_; first | trivial | omega | exact ⟨by assumption, by omega⟩ | (simp only [List.length_append, List.length_cons, List.length_nil, List.length_map, List.length_take, List.length_drop, List.length_replicate, List.length_set]; omega)) | (with_reducible refine fact ?_ ?_; first | trivial | exact ⟨rfl, rfl⟩ | kernel_rfl) | with_reducible refine choT (by assumption) ?_ | with_reducible refine choF (by assumption) ?_ | with_reducible refine choF' (by assumption) ?_ | (with_reducible refine altT ?_ ?_; first | omega | (simp only [List.length_append, List.length_cons, List.length_nil, List.length_map, List.length_take, List.length_drop, List.length_replicate, List.length_set]; omega)) | with_reducible refine altF ?_ | with_reducible refine all fun _ => ?_ | with_reducible refine both ?_ ?_ | (with_reducible refine choT ?_ ?_; omega) | (with_reducible refine choF ?_ ?_; omega) | with_reducible refine cho (fun _ => ?_) (fun _ => ?_))
      · rename_i hd hr
        exact ⟨_, _, _, rfl, Sub.app_nil _, p_done (by rw [hP hd, if_pos hr]), rfl⟩
      · rename_i hd hr
        exact ⟨_, _, _, rfl, Sub.app_nil _, p_fail (by rw [hP hd, if_neg hr]), rfl⟩
      · rename_i hd h3 hr
        exact ⟨_, _, _, rfl, Sub.app_nil _, p_done (by rw [hV hd h3, if_pos hr]), rfl⟩
      · rename_i hd h3 hr
        exact ⟨_, _, _, rfl, Sub.app_nil _, p_fail (by rw [hV hd h3, if_neg hr]), rfl⟩
      · rename_i hd h3
        exact ⟨_, _, _, rfl, Sub.app_nil _, p_fail (parse_fail2 hd (by rw [eq_false_of_ne_true h3, Bool.not_false, Bool.or_true])), rfl⟩
    · rename_i h1 hg hq' ht
      refine ⟨_, _, _, rfl, Sub.app_nil _, p_fail ?_, rfl⟩
      exact parse_fail1 (by rw [eq_false_of_ne_true ht, Bool.not_false, Bool.or_true])
    · rename_i h1 hg
      refine ⟨_, _, _, rfl, Sub.app_nil _, p_fail ?_, rfl⟩
      exact parse_fail1 (by rw [eq_false_of_ne_true hg]; rfl)
instance {l : List UInt8} : PC Go.Proofs.Try.prog 97 [S l] (l.length ≤ 1000000000000000) (.tuple [(parseV l).av, I .i64 (parseN l : Nat), I .i64 (parseX l)]) := ⟨fun hl => PC.of (ref03_Parse_ok l hl)⟩
end Go.Ab
