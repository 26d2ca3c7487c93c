/- The texts that this claim needs, part 9: a logic over abstract values, its steps, what the functions do. No condition of its own. -/
import Derived.Laws.Externs
import Derived.Test.YtobhbepiaibceaaSeekSpansK8
/- A place halved out. -/
set_option linter.unusedVariables false
set_option linter.unusedSimpArgs false
namespace Go.Ab
theorem cmpstring_ok (a b : List UInt8) : aPureC Go.Proofs.Try.prog 126 [S a, S b] (I .i64 (cmpK a b)) := by
  refine .inr ⟨[.string ⟨a.toArray⟩, .string ⟨b.toArray⟩], .int .i64 (cmpK a b), rfl, rfl, fun w => ?_⟩
  rw [run_callFunc_extern Go.Proofs.Try.func126 (by kernel_rfl) (by kernel_rfl) (by kernel_rfl) (e := Extern.BytealgCompare.compare) (by kernel_rfl)]
  rw [show ([Value.string ⟨a.toArray⟩, Value.string ⟨b.toArray⟩] : List Value).toArray = #[.string ⟨a.toArray⟩, .string ⟨b.toArray⟩] from rfl, Lib.run_compareString, compare_cmpK]
  rfl
instance (a b : List UInt8) : XC Go.Proofs.Try.prog 126 [S a, S b] (I .i64 (cmpK a b)) := ⟨cmpstring_ok a b⟩
def internal_bytealg_CompareString.mark : Mark := ⟨fun t => Nat.beq t 7, fun t => false, fun t => false, fun t => false, fun t => false⟩
def internal_bytealg_CompareString.ann : Ann := ⟨fun n => [], fun n => none, fun n => none⟩
/-- 'internal/bytealg.CompareString' -/
def internal_bytealg_CompareString.sh (a0 a1 : AV) (σ : Store) (Q : AEnd → Store → Prop) : Prop :=
  Do (aPureC Go.Proofs.Try.prog 126 [a0, a1]) fun t7 =>
  Q (.ret t7) σ
theorem internal_bytealg_CompareString.eq (a0 a1 : AV) (σ : Store) (Q : AEnd → Store → Prop) : vc (semOf Go.Proofs.Try.prog internal_bytealg_CompareString.mark) Go.Proofs.Try.f107.ntmps internal_bytealg_CompareString.ann (bodyOf Go.Proofs.Try.f107) (endK [.tmp 4] Q) (argFr [a0, a1]) σ = internal_bytealg_CompareString.sh a0 a1 σ Q := by kernel_rfl
theorem internal_bytealg_CompareString.go {a0 a1 : AV} {σ : Store} {Q : AEnd → Store → Prop} (h : internal_bytealg_CompareString.sh a0 a1 σ Q) : ACalls Go.Proofs.Try.prog 107 [a0, a1] σ Q :=
  acalls_of_eq [.tmp 4] Go.Proofs.Try.func107 (by kernel_rfl) (by kernel_rfl) (by kernel_rfl) (by kernel_rfl) (internal_bytealg_CompareString.eq a0 a1 σ Q) h
def strings_Compare.mark : Mark := ⟨fun t => Nat.beq t 7, fun t => false, fun t => false, fun t => false, fun t => false⟩
def strings_Compare.ann : Ann := ⟨fun n => [], fun n => none, fun n => none⟩
/-- 'strings.Compare' -/
def strings_Compare.sh (a0 a1 : AV) (σ : Store) (Q : AEnd → Store → Prop) : Prop :=
  Do (aPureC Go.Proofs.Try.prog 107 [a0, a1]) fun t7 =>
  Q (.ret t7) σ
theorem strings_Compare.eq (a0 a1 : AV) (σ : Store) (Q : AEnd → Store → Prop) : vc (semOf Go.Proofs.Try.prog strings_Compare.mark) Go.Proofs.Try.f85.ntmps strings_Compare.ann (bodyOf Go.Proofs.Try.f85) (endK [.tmp 4] Q) (argFr [a0, a1]) σ = strings_Compare.sh a0 a1 σ Q := by kernel_rfl
theorem strings_Compare.go {a0 a1 : AV} {σ : Store} {Q : AEnd → Store → Prop} (h : strings_Compare.sh a0 a1 σ Q) : ACalls Go.Proofs.Try.prog 85 [a0, a1] σ Q :=
  acalls_of_eq [.tmp 4] Go.Proofs.Try.func85 (by kernel_rfl) (by kernel_rfl) (by kernel_rfl) (by kernel_rfl) (strings_Compare.eq a0 a1 σ Q) h
def slices_BinarySearchFunc.mark : Mark := ⟨fun t => Nat.beq t 30 || Nat.beq t 46, fun t => false, fun t => false, fun t => Nat.beq t 28 || Nat.beq t 44, fun t => false⟩
def slices_BinarySearchFunc.ann : Ann := ⟨fun n => bif Nat.beq n 3 then [0, 1, 2, 8, 9, 10] else [], fun n => none, fun n => none⟩
/-- 'slices.BinarySearchFunc[[]marlstone/api.Entry,marlstone/api.Entry,string]' -/
def slices_BinarySearchFunc.sh (a0 a1 a2 : AV) (σ : Store) (Q : AEnd → Store → Prop) : Prop :=
  Do (aBuiltin Go.Proofs.Try.prog .len #[22] [a0]) fun t13 =>
  aLoop (fun go vs σ =>
    At vs 0 fun s0 => At vs 1 fun s1 => At vs 2 fun s2 => At vs 3 fun s8 => At vs 4 fun s9 => At vs 5 fun s10 => Do (aBin Go.Proofs.Try.prog .lss 3 s9 s10) fun t17 =>
    aCond t17
      (Do (aBin Go.Proofs.Try.prog .add 3 s9 s10) fun t20 =>
    Do (fun x => aConvN 3 149 t20 x Go.Proofs.Try.prog) fun t21 =>
    Do (aBin Go.Proofs.Try.prog .shr 149 t21 (W64 1)) fun t22 =>
    Do (fun x => aConvN 149 3 t22 x Go.Proofs.Try.prog) fun t23 =>
    Do (aIndexAddr .slice 4 s0 t23) fun t27 =>
    Do (loadF true 4 t27) fun t28 =>
    Do (aPureV Go.Proofs.Try.prog s2 [t28, s1]) fun t30 =>
    Do (aBin Go.Proofs.Try.prog .lss 3 t30 (.val (.int .i64 0))) fun t31 =>
    aCond t31
      (Do (aBin Go.Proofs.Try.prog .add 3 t23 (.val (.int .i64 1))) fun t33 =>
      go [s0, s1, s2, s8, t33, s10] σ)
      (go [s0, s1, s2, s8, s9, t23] σ))
      (Do (aBin Go.Proofs.Try.prog .lss 3 s9 s8) fun t38 =>
  Do (aGuard t38 true (aIs s2)) fun t40 =>
  Do (aGuard t38 true (aIs s0)) fun t41 =>
  Do (aGuard t38 true (aIs s9)) fun t42 =>
  Do (aGuard t38 true (aIndexAddr .slice 4 t41 t42)) fun t43 =>
  Do (aGuard t38 true (loadF true 4 t43)) fun t44 =>
  Do (aGuard t38 true (aIs s1)) fun t45 =>
  Do (aGuard t38 true (aPureV Go.Proofs.Try.prog t40 [t44, t45])) fun t46 =>
  Do (aGuard t38 true (aBin Go.Proofs.Try.prog .eql 3 t46 (.val (.int .i64 0)))) fun t47 =>
  Do (aPick t38 t47 (.val (.bool false))) fun t48 =>
  Q (.ret (.tuple [s9, t48])) σ))
    [a0, a1, a2, t13, (.val (.int .i64 0)), t13] σ
theorem slices_BinarySearchFunc.eq (a0 a1 a2 : AV) (σ : Store) (Q : AEnd → Store → Prop) : vc (semOf Go.Proofs.Try.prog slices_BinarySearchFunc.mark) Go.Proofs.Try.f83.ntmps slices_BinarySearchFunc.ann (bodyOf Go.Proofs.Try.f83) (endK [.tmp 6, .tmp 7] Q) (argFr [a0, a1, a2]) σ = slices_BinarySearchFunc.sh a0 a1 a2 σ Q := by kernel_rfl
theorem slices_BinarySearchFunc.go {a0 a1 a2 : AV} {σ : Store} {Q : AEnd → Store → Prop} (h : slices_BinarySearchFunc.sh a0 a1 a2 σ Q) : ACalls Go.Proofs.Try.prog 83 [a0, a1, a2] σ Q :=
  acalls_of_eq [.tmp 6, .tmp 7] Go.Proofs.Try.func83 (by kernel_rfl) (by kernel_rfl) (by kernel_rfl) (by kernel_rfl) (slices_BinarySearchFunc.eq a0 a1 a2 σ Q) h
theorem CompareString_ok (a b : List UInt8) : aPure Go.Proofs.Try.prog 107 [S a, S b] (I .i64 (cmpK a b)) := by
  refine internal_bytealg_CompareString.go ?_
  unfold internal_bytealg_CompareString.sh
  repeat' (first | with_reducible apply Stp.go | with_reducible refine imp fun _ => ?_ | (with_reducible refine hyp ?_ ?_; first | assumption | exact leftT_mem (by assumption)) | (with_reducible refine need ?_ ?_; first | trivial | omega | exact ⟨by assumption, by omega⟩ | (simp only [List.length_append, List.length_cons, List.length_nil, List.length_map, List.length_take, List.length_drop, List.length_replicate, List.length_set]; omega)) | (with_reducible refine fact ?_ ?_; first | trivial | exact ⟨rfl, rfl⟩ | kernel_rfl) | with_reducible refine choT (by assumption) ?_ | with_reducible refine choF (by assumption) ?_ | with_reducible refine choF' (by assumption) ?_ | (with_reducible refine altT ?_ ?_; first | omega | (simp only [List.length_append, List.length_cons, List.length_nil, List.length_map, List.length_take, List.length_drop, List.length_replicate, List.length_set]; omega)) | with_reducible refine altF ?_ | with_reducible refine all fun _ => ?_ | with_reducible refine both ?_ ?_ | (with_reducible refine choT ?_ ?_; omega) | (with_reducible refine choF ?_ ?_; omega) | with_reducible refine cho (fun _ => ?_) (fun _ => ?_))
  exact ⟨rfl, rfl⟩
instance (a b : List UInt8) : PC Go.Proofs.Try.prog 107 [S a, S b] True (I .i64 (cmpK a b)) := ⟨fun _ => PC.of (CompareString_ok a b)⟩
theorem strings_Compare_ok (a b : List UInt8) : aPure Go.Proofs.Try.prog 85 [S a, S b] (I .i64 (cmpK a b)) := by
  refine strings_Compare.go ?_
  unfold strings_Compare.sh
  repeat' (first | with_reducible apply Stp.go | with_reducible refine imp fun _ => ?_ | (with_reducible refine hyp ?_ ?_; first | assumption | exact leftT_mem (by assumption)) | (with_reducible refine need ?_ ?_; first | trivial | omega | exact ⟨by assumption, by omega⟩ | (simp only [List.length_append, List.length_cons, List.length_nil, List.length_map, List.length_take, List.length_drop, List.length_replicate, List.length_set]; omega)) | (with_reducible refine fact ?_ ?_; first | trivial | exact ⟨rfl, rfl⟩ | kernel_rfl) | with_reducible refine choT (by assumption) ?_ | with_reducible refine choF (by assumption) ?_ | with_reducible refine choF' (by assumption) ?_ | (with_reducible refine altT ?_ ?_; first | omega | (simp only [List.length_append, List.length_cons, List.length_nil, List.length_map, List.length_take, List.length_drop, List.length_replicate, List.length_set]; omega)) | with_reducible refine altF ?_ | with_reducible refine all fun _ => ?_ | with_reducible refine both ?_ ?_ | (with_reducible refine choT ?_ ?_; omega) | (with_reducible refine choF ?_ ?_; omega) | with_reducible refine cho (fun _ => ?_) (fun _ => ?_))
  exact ⟨rfl, rfl⟩
instance (a b : List UInt8) : PC Go.Proofs.Try.prog 85 [S a, S b] True (I .i64 (cmpK a b)) := ⟨fun _ => PC.of (strings_Compare_ok a b)⟩
theorem half_ok {n : Nat} (h : n < 18446744073709551616) : (UInt64.ofNat n >>> UInt64.ofNat 1).toNat = n / 2 := by
  rw [UInt64.toNat_shiftRight, u64_len h]
  simp [Nat.shiftRight_eq_div_pow]
theorem Search_ok (l : List En) (m : SM) (k : List UInt8) (g : FuncId) (hg : ∀ e : En, aPure Go.Proofs.Try.prog g [e.av, S k] (I .i64 (cmpK e.key k))) (hr : Rises l) (hl : l.length ≤ 1000000000000) :
    aPure Go.Proofs.Try.prog 83 [.lst 4 (l.map En.av) m, S k, .val (.func (.func g) #[] #[])] (.tuple [I .i64 (placeN l k : Nat), B (hasK l k)]) := by
  have inst : ∀ e : En, PC Go.Proofs.Try.prog g [e.av, S k] True (I .i64 (cmpK e.key k)) := fun e => ⟨fun _ => PC.of (hg e)⟩
  refine slices_BinarySearchFunc.go ?_
  unfold slices_BinarySearchFunc.sh
  have hp := placeN_le l k
  repeat' (first | with_reducible apply Stp.go | with_reducible refine imp fun _ => ?_ | (with_reducible refine hyp ?_ ?_; first | assumption | exact leftT_mem (by assumption)) | (with_reducible refine need ?_ ?_; first | trivial | omega | exact ⟨by assumption, by omega⟩ | (simp only [List.length_append, List.length_cons, List.length_nil, List.length_map, List.length_take, List.length_drop, List.length_replicate, List.length_set]; omega)) | (with_reducible refine fact ?_ ?_; first | trivial | exact ⟨rfl, rfl⟩ | kernel_rfl) | with_reducible refine choT (by assumption) ?_ | with_reducible refine choF (by assumption) ?_ | with_reducible refine choF' (by assumption) ?_ | (with_reducible refine altT ?_ ?_; first | omega | (simp only [List.length_append, List.length_cons, List.length_nil, List.length_map, List.length_take, List.length_drop, List.length_replicate, List.length_set]; omega)) | with_reducible refine altF ?_ | with_reducible refine all fun _ => ?_ | with_reducible refine both ?_ ?_ | (with_reducible refine choT ?_ ?_; omega) | (with_reducible refine choF ?_ ?_; omega) | with_reducible refine cho (fun _ => ?_) (fun _ => ?_))
  refine loopI (β := Nat × Nat) (fun x => x.1 ≤ placeN l k ∧ placeN l k ≤ x.2 ∧ x.2 ≤ l.length) (fun x => [.lst 4 (l.map En.av) m, S k, .val (.func (.func g) #[] #[]), I .i64 (l.length : Nat), I .i64 (x.1 : Nat), I .i64 (x.2 : Nat)]) (fun _ => []) (fun x => x.2 - x.1) (0, l.length) ⟨Nat.zero_le _, hp, Nat.le_refl _⟩ (Sub.refl _ _) ?_
  rintro ⟨i, j⟩ ⟨h1, h2, h3⟩
  dsimp only at h1 h2 h3 ⊢
  have hh := half_ok (n := i + j) (by omega)
  repeat' (first | with_reducible apply Stp.go | with_reducible refine imp fun _ => ?_ | (with_reducible refine hyp ?_ ?_; first | assumption | exact leftT_mem (by assumption)) | (with_reducible refine need ?_ ?_; first | trivial | omega | exact ⟨by assumption, by omega⟩ | (simp only [List.length_append, List.length_cons, List.length_nil, List.length_map, List.length_take, List.length_drop, List.length_replicate, List.length_set]; omega)) | (with_reducible refine fact ?_ ?_; first | trivial | exact ⟨rfl, rfl⟩ | kernel_rfl) | with_reducible refine choT (by assumption) ?_ | with_reducible refine choF (by assumption) ?_ | with_reducible refine choF' (by assumption) ?_ | (with_reducible refine altT ?_ ?_; first | omega | (simp only [List.length_append, List.length_cons, List.length_nil, List.length_map, List.length_take, List.length_drop, List.length_replicate, List.length_set]; omega)) | with_reducible refine altF ?_ | with_reducible refine all fun _ => ?_ | with_reducible refine both ?_ ?_ | (with_reducible refine choT ?_ ?_; omega) | (with_reducible refine choF ?_ ?_; omega) | with_reducible refine cho (fun _ => ?_) (fun _ => ?_))
  · rename_i h4 h5
    rw [hh] at h5 ⊢
    rw [cmpK_lt, place_at hr k (by omega)] at h5
    exact again ((i + j) / 2 + 1, j) (by dsimp only; omega) ⟨by dsimp only; omega, h2, h3⟩ (Sub.refl _ _)
  · rename_i h4 h5
    rw [hh] at h5 ⊢
    rw [cmpK_lt, place_at hr k (by omega)] at h5
    exact again (i, (i + j) / 2) (by dsimp only; omega) ⟨h1, by dsimp only; omega, by dsimp only; omega⟩ (Sub.refl _ _)
  · rename_i h4 h5
    have e : i = placeN l k := by omega
    subst e
    have e2 : decide (cmpK (l.getD (placeN l k) default).key k = 0) = hasK l k := by
      rw [has_place hr k, decide_eq_true h5, Bool.true_and]
      simp only [cmpK_zero]
    rw [e2]
    exact ⟨rfl, rfl⟩
  · rename_i h4 h5
    have e : i = placeN l k := by omega
    have e2 : hasK l k = false := by rw [has_place hr k, decide_eq_false (by omega), Bool.false_and]
    rw [e, e2]
    exact ⟨rfl, rfl⟩
end Go.Ab

/- Ends, places and openings of a table. -/
set_option linter.unusedVariables false
set_option linter.unusedSimpArgs false
namespace Go.Ab
section more
variable {P : Program} {b n : Nat} {t : TypeId} {cs cs' : List AV} {lev cnt : Int} {d f g : List UInt8} {σ rest : Store} {put : Ent → Store} {k : AV → Store → Prop} {K : AV → Prop}
instance (sz : Nat) (l : List AV) (m : SM) : One (.lst sz l m) := ⟨rfl⟩
instance (priority := 50) stWhole [hv : VarAt b σ t cs put rest] [hl : LenC cs n] [hl' : LenC cs' n] [ho : Ones cs'] : Stp (storeA n (ptrAt b 0) (.agg cs') σ k) (k .undef (put (.var b t cs'))) := ⟨fun hK => by
  obtain ⟨σ1, σ2, e, e2, _⟩ := hv.at_
  refine ⟨hl'.eq, fun c hc => ho.ones c hc, rfl, σ1, σ2, t, cs, e, by rw [hl.eq]; show 0 + n ≤ n; omega, ?_⟩
  rw [e2] at hK
  have : splice cs 0 (AV.cells (.agg cs')) = cs' := by
    show splice cs 0 cs' = _
    unfold splice
    rw [List.take_zero, List.nil_append, Nat.zero_add, hl'.eq, List.drop_of_length_le (by rw [hl.eq]; omega), List.append_nil]
  rw [this]
  exact hK⟩
instance (priority := 50) ldWhole [hv : VarAt b σ t cs put rest] [hl : LenC cs n] : Stp (Do (loadA true n (ptrAt b 0) σ) K) (Need (0 < n) (K (.agg cs))) := ⟨fun ⟨h0, hK⟩ => by
  obtain ⟨σ1, σ2, e, _⟩ := hv.at_
  refine ⟨_, ⟨h0, fun h => by (cases h), rfl, t, cs, by rw [e]; simp, by rw [hl.eq]; show 0 + n ≤ n; omega, ?_⟩, hK⟩
  show _ = mkV true ((cs.drop 0).take n)
  rw [List.drop_zero, List.take_of_length_le (by rw [hl.eq]; omega)]
  rfl⟩
instance (priority := 75) faTab2 [hd : Len32 d] : Stp (Do (aFieldAddr 2 32 (.rptr (tabCs lev cnt d f g))) K) (K (.rptr (d.map byt))) := ⟨fun hK => ⟨_, ⟨by decide, by simp [hd.len], by
  have h : (d.map byt).length = 32 := by simp [hd.len]
  show _ = AV.rptr ((d.map byt ++ [S f, S g]).take 32)
  rw [List.take_left' h]⟩, hK⟩⟩
instance (priority := 75) faTab3 [hd : Len32 d] : Stp (Do (aFieldAddr 34 1 (.rptr (tabCs lev cnt d f g))) K) (K (.rptr [S f])) := ⟨fun hK => ⟨_, ⟨by decide, by simp [hd.len], by
  have h : (d.map byt).length = 32 := by simp [hd.len]
  show _ = AV.rptr (((d.map byt ++ [S f, S g]).drop 32).take 1)
  rw [List.drop_left' h]; rfl⟩, hK⟩⟩
instance (priority := 75) faTab4 [hd : Len32 d] : Stp (Do (aFieldAddr 35 1 (.rptr (tabCs lev cnt d f g))) K) (K (.rptr [S g])) := ⟨fun hK => ⟨_, ⟨by decide, by simp [hd.len], by
  have h : (d.map byt).length = 32 := by simp [hd.len]
  show _ = AV.rptr (((d.map byt ++ [S f, S g]).drop (32 + 1)).take 1)
  rw [← List.drop_drop, List.drop_left' h]; rfl⟩, hK⟩⟩
end more
def seek_Covers.mark : Mark := ⟨fun t => false, fun t => false, fun t => Nat.beq t 2, fun t => Nat.beq t 6 || Nat.beq t 12, fun t => false⟩
def seek_Covers.ann : Ann := ⟨fun n => [], fun n => none, fun n => none⟩
/-- 'marlstone/seek.Covers' -/
def seek_Covers.sh (a0 a1 : AV) (σ : Store) (Q : AEnd → Store → Prop) : Prop :=
  Do (aFreeze ((a0 : AV)).cells) fun t2 =>
  Do (aFieldAddr 34 1 t2) fun t5 =>
  Do (loadF false 1 t5) fun t6 =>
  Do (aBin Go.Proofs.Try.prog .leq 9 t6 a1) fun t8 =>
  Do (aGuard t8 true (aIs a1)) fun t10 =>
  Do (aGuard t8 true (aFieldAddr 35 1 t2)) fun t11 =>
  Do (aGuard t8 true (loadF false 1 t11)) fun t12 =>
  Do (aGuard t8 true (aBin Go.Proofs.Try.prog .leq 9 t10 t12)) fun t13 =>
  Do (aPick t8 t13 (.val (.bool false))) fun t14 =>
  Q (.ret t14) σ
theorem seek_Covers.eq (a0 a1 : AV) (σ : Store) (Q : AEnd → Store → Prop) : vc (semOf Go.Proofs.Try.prog seek_Covers.mark) Go.Proofs.Try.f18.ntmps seek_Covers.ann (bodyOf Go.Proofs.Try.f18) (endK [.tmp 4] Q) (argFr [a0, a1]) σ = seek_Covers.sh a0 a1 σ Q := by kernel_rfl
theorem seek_Covers.go {a0 a1 : AV} {σ : Store} {Q : AEnd → Store → Prop} (h : seek_Covers.sh a0 a1 σ Q) : ACalls Go.Proofs.Try.prog 18 [a0, a1] σ Q :=
  acalls_of_eq [.tmp 4] Go.Proofs.Try.func18 (by kernel_rfl) (by kernel_rfl) (by kernel_rfl) (by kernel_rfl) (seek_Covers.eq a0 a1 σ Q) h
def seek_below.mark : Mark := ⟨fun t => false, fun t => false, fun t => false, fun t => false, fun t => false⟩
def seek_below.ann : Ann := ⟨fun n => [], fun n => none, fun n => none⟩
/-- 'marlstone/seek.below' -/
def seek_below.sh (a0 a1 : AV) (σ : Store) (Q : AEnd → Store → Prop) : Prop :=
  Do (aBin Go.Proofs.Try.prog .eql 9 a1 (.val (.string ⟨#[]⟩))) fun t6 =>
  Do (aGuard t6 false (aIs a0)) fun t8 =>
  Do (aGuard t6 false (aIs a1)) fun t9 =>
  Do (aGuard t6 false (aBin Go.Proofs.Try.prog .lss 9 t8 t9)) fun t10 =>
  Do (aPick t6 (.val (.bool true)) t10) fun t11 =>
  Q (.ret t11) σ
theorem seek_below.eq (a0 a1 : AV) (σ : Store) (Q : AEnd → Store → Prop) : vc (semOf Go.Proofs.Try.prog seek_below.mark) Go.Proofs.Try.f43.ntmps seek_below.ann (bodyOf Go.Proofs.Try.f43) (endK [.tmp 4] Q) (argFr [a0, a1]) σ = seek_below.sh a0 a1 σ Q := by kernel_rfl
theorem seek_below.go {a0 a1 : AV} {σ : Store} {Q : AEnd → Store → Prop} (h : seek_below.sh a0 a1 σ Q) : ACalls Go.Proofs.Try.prog 43 [a0, a1] σ Q :=
  acalls_of_eq [.tmp 4] Go.Proofs.Try.func43 (by kernel_rfl) (by kernel_rfl) (by kernel_rfl) (by kernel_rfl) (seek_below.eq a0 a1 σ Q) h
def seek_Overlaps.mark : Mark := ⟨fun t => Nat.beq t 9 || Nat.beq t 20, fun t => false, fun t => Nat.beq t 3, fun t => Nat.beq t 12 || Nat.beq t 18, fun t => false⟩
def seek_Overlaps.ann : Ann := ⟨fun n => [], fun n => none, fun n => none⟩
/-- 'marlstone/seek.Overlaps' -/
def seek_Overlaps.sh (a0 a1 a2 : AV) (σ : Store) (Q : AEnd → Store → Prop) : Prop :=
  Do (aFreeze ((a0 : AV)).cells) fun t3 =>
  Do (aPureC Go.Proofs.Try.prog 43 [a1, a2]) fun t9 =>
  Do (aGuard t9 true (aFieldAddr 35 1 t3)) fun t11 =>
  Do (aGuard t9 true (loadF false 1 t11)) fun t12 =>
  Do (aGuard t9 true (aIs a1)) fun t13 =>
  Do (aGuard t9 true (aBin Go.Proofs.Try.prog .geq 9 t12 t13)) fun t14 =>
  Do (aPick t9 t14 (.val (.bool false))) fun t15 =>
  Do (aGuard t15 true (aFieldAddr 34 1 t3)) fun t17 =>
  Do (aGuard t15 true (loadF false 1 t17)) fun t18 =>
  Do (aGuard t15 true (aIs a2)) fun t19 =>
  Do (aGuard t15 true (aPureC Go.Proofs.Try.prog 43 [t18, t19])) fun t20 =>
  Do (aPick t15 t20 (.val (.bool false))) fun t21 =>
  Q (.ret t21) σ
theorem seek_Overlaps.eq (a0 a1 a2 : AV) (σ : Store) (Q : AEnd → Store → Prop) : vc (semOf Go.Proofs.Try.prog seek_Overlaps.mark) Go.Proofs.Try.f20.ntmps seek_Overlaps.ann (bodyOf Go.Proofs.Try.f20) (endK [.tmp 6] Q) (argFr [a0, a1, a2]) σ = seek_Overlaps.sh a0 a1 a2 σ Q := by kernel_rfl
theorem seek_Overlaps.go {a0 a1 a2 : AV} {σ : Store} {Q : AEnd → Store → Prop} (h : seek_Overlaps.sh a0 a1 a2 σ Q) : ACalls Go.Proofs.Try.prog 20 [a0, a1, a2] σ Q :=
  acalls_of_eq [.tmp 6] Go.Proofs.Try.func20 (by kernel_rfl) (by kernel_rfl) (by kernel_rfl) (by kernel_rfl) (seek_Overlaps.eq a0 a1 a2 σ Q) h
def seek_place_1.mark : Mark := ⟨fun t => Nat.beq t 8, fun t => false, fun t => Nat.beq t 2, fun t => Nat.beq t 6, fun t => false⟩
def seek_place_1.ann : Ann := ⟨fun n => [], fun n => none, fun n => none⟩
/-- 'marlstone/seek.place$1' -/
def seek_place_1.sh (a0 a1 : AV) (σ : Store) (Q : AEnd → Store → Prop) : Prop :=
  Do (aFreeze ((a0 : AV)).cells) fun t2 =>
  Do (aFieldAddr 0 1 t2) fun t5 =>
  Do (loadF false 1 t5) fun t6 =>
  Do (aPureC Go.Proofs.Try.prog 85 [t6, a1]) fun t8 =>
  Q (.ret t8) σ
theorem seek_place_1.eq (a0 a1 : AV) (σ : Store) (Q : AEnd → Store → Prop) : vc (semOf Go.Proofs.Try.prog seek_place_1.mark) Go.Proofs.Try.f84.ntmps seek_place_1.ann (bodyOf Go.Proofs.Try.f84) (endK [.tmp 4] Q) (argFr [a0, a1]) σ = seek_place_1.sh a0 a1 σ Q := by kernel_rfl
theorem seek_place_1.go {a0 a1 : AV} {σ : Store} {Q : AEnd → Store → Prop} (h : seek_place_1.sh a0 a1 σ Q) : ACalls Go.Proofs.Try.prog 84 [a0, a1] σ Q :=
  acalls_of_eq [.tmp 4] Go.Proofs.Try.func84 (by kernel_rfl) (by kernel_rfl) (by kernel_rfl) (by kernel_rfl) (seek_place_1.eq a0 a1 σ Q) h
def seek_place.mark : Mark := ⟨fun t => Nat.beq t 8, fun t => false, fun t => false, fun t => false, fun t => false⟩
def seek_place.ann : Ann := ⟨fun n => [], fun n => none, fun n => none⟩
/-- 'marlstone/seek.place' -/
def seek_place.sh (a0 a1 : AV) (σ : Store) (Q : AEnd → Store → Prop) : Prop :=
  Do (aPureC Go.Proofs.Try.prog 83 [a0, a1, (.val (.func (.func 84) #[] #[]))]) fun t8 =>
  Do (aExt t8 0) fun t9 =>
  Do (aExt t8 1) fun t10 =>
  Q (.ret (.tuple [t9, t10])) σ
theorem seek_place.eq (a0 a1 : AV) (σ : Store) (Q : AEnd → Store → Prop) : vc (semOf Go.Proofs.Try.prog seek_place.mark) Go.Proofs.Try.f37.ntmps seek_place.ann (bodyOf Go.Proofs.Try.f37) (endK [.tmp 4, .tmp 5] Q) (argFr [a0, a1]) σ = seek_place.sh a0 a1 σ Q := by kernel_rfl
theorem seek_place.go {a0 a1 : AV} {σ : Store} {Q : AEnd → Store → Prop} (h : seek_place.sh a0 a1 σ Q) : ACalls Go.Proofs.Try.prog 37 [a0, a1] σ Q :=
  acalls_of_eq [.tmp 4, .tmp 5] Go.Proofs.Try.func37 (by kernel_rfl) (by kernel_rfl) (by kernel_rfl) (by kernel_rfl) (seek_place.eq a0 a1 σ Q) h
def seek_opens.mark : Mark := ⟨fun t => false, fun t => false, fun t => Nat.beq t 3, fun t => Nat.beq t 10 || Nat.beq t 20, fun t => false⟩
def seek_opens.ann : Ann := ⟨fun n => [], fun n => none, fun n => none⟩
/-- 'marlstone/seek.opens' -/
def seek_opens.sh (a0 a1 a2 : AV) (σ : Store) (Q : AEnd → Store → Prop) : Prop :=
  Do (aFreeze ((a0 : AV)).cells) fun t3 =>
  aNewVar 30 [.val (.int .i64 0), .val (.slice none 0 0), .val (.slice none 0 0)] σ fun t6 σ =>
  Do (loadF true 1 t3) fun t10 =>
  aCall Go.Proofs.Try.prog 86 [t10, a1, a2] σ (fun t13 σ_1 =>
  Do (aExt t13 0) fun t14 =>
  Do (aExt t13 1) fun t15 =>
  Do (aIndexAddr .slice 1 a1 a2) fun t19 =>
  Do (loadF false 1 t19) fun t20 =>
  Do (aLit [.val (.int .i64 0), .val (.slice none 0 0), .val (.slice none 0 0)] [(0, 1), (1, 1), (2, 1)] [(0, a2), (1, t20), (2, t14)]) fun t22 =>
  storeA 3 t6 t22 σ_1 fun u σ_2 =>
  Do (loadA true 3 t6 σ_2) fun r6 => Q (.ret r6) σ_2) (fun e σ_3 => Q (.pan e) σ_3)
theorem seek_opens.eq (a0 a1 a2 : AV) (σ : Store) (Q : AEnd → Store → Prop) : vc (semOf Go.Proofs.Try.prog seek_opens.mark) Go.Proofs.Try.f38.ntmps seek_opens.ann (bodyOf Go.Proofs.Try.f38) (endK [.cell 6 true 3] Q) (argFr [a0, a1, a2]) σ = seek_opens.sh a0 a1 a2 σ Q := by kernel_rfl
theorem seek_opens.go {a0 a1 a2 : AV} {σ : Store} {Q : AEnd → Store → Prop} (h : seek_opens.sh a0 a1 a2 σ Q) : ACalls Go.Proofs.Try.prog 38 [a0, a1, a2] σ Q :=
  acalls_of_eq [.cell 6 true 3] Go.Proofs.Try.func38 (by kernel_rfl) (by kernel_rfl) (by kernel_rfl) (by kernel_rfl) (seek_opens.eq a0 a1 a2 σ Q) h
def belowB (k hi : List UInt8) : Bool := decide (hi = []) || lt k hi
theorem below_ok (k hi : List UInt8) : aPure Go.Proofs.Try.prog 43 [S k, S hi] (B (belowB k hi)) := by
  refine seek_below.go ?_
  unfold seek_below.sh
  repeat' (first | with_reducible apply Stp.go | with_reducible refine imp fun _ => ?_ | (with_reducible refine hyp ?_ ?_; first | assumption | exact leftT_mem (by assumption)) | (with_reducible refine need ?_ ?_; first | trivial | omega | exact ⟨by assumption, by omega⟩ | (simp only [List.length_append, List.length_cons, List.length_nil, List.length_map, List.length_take, List.length_drop, List.length_replicate, List.length_set]; omega)) | (with_reducible refine fact ?_ ?_; first | trivial | exact ⟨rfl, rfl⟩ | kernel_rfl) | with_reducible refine choT (by assumption) ?_ | with_reducible refine choF (by assumption) ?_ | with_reducible refine choF' (by assumption) ?_ | (with_reducible refine altT ?_ ?_; first | omega | (simp only [List.length_append, List.length_cons, List.length_nil, List.length_map, List.length_take, List.length_drop, List.length_replicate, List.length_set]; omega)) | with_reducible refine altF ?_ | with_reducible refine all fun _ => ?_ | with_reducible refine both ?_ ?_ | (with_reducible refine choT ?_ ?_; omega) | (with_reducible refine choF ?_ ?_; omega) | with_reducible refine cho (fun _ => ?_) (fun _ => ?_))
  · rename_i h
    refine ⟨?_, rfl⟩
    rw [belowB, decide_eq_true h]; rfl
  · rename_i h
    refine ⟨?_, rfl⟩
    rw [belowB, decide_eq_false h]; rfl
instance {k hi : List UInt8} : PC Go.Proofs.Try.prog 43 [S k, S hi] True (B (belowB k hi)) := ⟨fun _ => PC.of (below_ok k hi)⟩
def coversB (f g k : List UInt8) : Bool := (lt f k || decide (f = k)) && (lt k g || decide (k = g))
theorem Covers_ok (lev n : Int) (d f g k : List UInt8) [hd : Len32 d] : aPure Go.Proofs.Try.prog 18 [tabA lev n d f g, S k] (B (coversB f g k)) := by
  refine ACalls.fin (seek_Covers.go ?_)
  unfold seek_Covers.sh
  repeat' (first | with_reducible apply Stp.go | with_reducible refine imp fun _ => ?_ | (with_reducible refine hyp ?_ ?_; first | assumption | exact leftT_mem (by assumption)) | (with_reducible refine need ?_ ?_; first | trivial | omega | exact ⟨by assumption, by omega⟩ | (simp only [List.length_append, List.length_cons, List.length_nil, List.length_map, List.length_take, List.length_drop, List.length_replicate, List.length_set]; omega)) | (with_reducible refine fact ?_ ?_; first | trivial | exact ⟨rfl, rfl⟩ | kernel_rfl) | with_reducible refine choT (by assumption) ?_ | with_reducible refine choF (by assumption) ?_ | with_reducible refine choF' (by assumption) ?_ | (with_reducible refine altT ?_ ?_; first | omega | (simp only [List.length_append, List.length_cons, List.length_nil, List.length_map, List.length_take, List.length_drop, List.length_replicate, List.length_set]; omega)) | with_reducible refine altF ?_ | with_reducible refine all fun _ => ?_ | with_reducible refine both ?_ ?_ | (with_reducible refine choT ?_ ?_; omega) | (with_reducible refine choF ?_ ?_; omega) | with_reducible refine cho (fun _ => ?_) (fun _ => ?_))
  · rename_i h
    refine ⟨_, _, _, rfl, Sub.app_nil _, ?_, rfl⟩
    rw [coversB, show (lt f k || decide (f = k)) = true from h, Bool.true_and]
  · rename_i h
    refine ⟨_, _, _, rfl, Sub.app_nil _, ?_, rfl⟩
    rw [coversB, show (lt f k || decide (f = k)) = false from Bool.eq_false_iff.2 h, Bool.false_and]
instance {lev n : Int} {d f g k : List UInt8} [hd : Len32 d] : PC Go.Proofs.Try.prog 18 [tabA lev n d f g, S k] True (B (coversB f g k)) := ⟨fun _ => PC.of (Covers_ok lev n d f g k)⟩
/-- A table has something of a range of keys. -/
def overB (f g lo hi : List UInt8) : Bool := belowB lo hi && (!lt g lo && belowB f hi)
theorem Overlaps_ok (lev n : Int) (d f g lo hi : List UInt8) [hd : Len32 d] : aPure Go.Proofs.Try.prog 20 [tabA lev n d f g, S lo, S hi] (B (overB f g lo hi)) := by
  refine ACalls.fin (seek_Overlaps.go ?_)
  unfold seek_Overlaps.sh
  repeat' (first | with_reducible apply Stp.go | with_reducible refine imp fun _ => ?_ | (with_reducible refine hyp ?_ ?_; first | assumption | exact leftT_mem (by assumption)) | (with_reducible refine need ?_ ?_; first | trivial | omega | exact ⟨by assumption, by omega⟩ | (simp only [List.length_append, List.length_cons, List.length_nil, List.length_map, List.length_take, List.length_drop, List.length_replicate, List.length_set]; omega)) | (with_reducible refine fact ?_ ?_; first | trivial | exact ⟨rfl, rfl⟩ | kernel_rfl) | with_reducible refine choT (by assumption) ?_ | with_reducible refine choF (by assumption) ?_ | with_reducible refine choF' (by assumption) ?_ | (with_reducible refine altT ?_ ?_; first | omega | (simp only [List.length_append, List.length_cons, List.length_nil, List.length_map, List.length_take, List.length_drop, List.length_replicate, List.length_set]; omega)) | with_reducible refine altF ?_ | with_reducible refine all fun _ => ?_ | with_reducible refine both ?_ ?_ | (with_reducible refine choT ?_ ?_; omega) | (with_reducible refine choF ?_ ?_; omega) | with_reducible refine cho (fun _ => ?_) (fun _ => ?_))
  all_goals
    refine ⟨_, _, _, rfl, Sub.app_nil _, ?_, rfl⟩
    simp_all [overB, lt]
instance {lev n : Int} {d f g lo hi : List UInt8} [hd : Len32 d] : PC Go.Proofs.Try.prog 20 [tabA lev n d f g, S lo, S hi] True (B (overB f g lo hi)) := ⟨fun _ => PC.of (Overlaps_ok lev n d f g lo hi)⟩
theorem splace1_ok (e : En) (k : List UInt8) : aPure Go.Proofs.Try.prog 84 [e.av, S k] (I .i64 (cmpK e.key k)) := by
  refine seek_place_1.go ?_
  unfold seek_place_1.sh
  repeat' (first | with_reducible apply Stp.go | with_reducible refine imp fun _ => ?_ | (with_reducible refine hyp ?_ ?_; first | assumption | exact leftT_mem (by assumption)) | (with_reducible refine need ?_ ?_; first | trivial | omega | exact ⟨by assumption, by omega⟩ | (simp only [List.length_append, List.length_cons, List.length_nil, List.length_map, List.length_take, List.length_drop, List.length_replicate, List.length_set]; omega)) | (with_reducible refine fact ?_ ?_; first | trivial | exact ⟨rfl, rfl⟩ | kernel_rfl) | with_reducible refine choT (by assumption) ?_ | with_reducible refine choF (by assumption) ?_ | with_reducible refine choF' (by assumption) ?_ | (with_reducible refine altT ?_ ?_; first | omega | (simp only [List.length_append, List.length_cons, List.length_nil, List.length_map, List.length_take, List.length_drop, List.length_replicate, List.length_set]; omega)) | with_reducible refine altF ?_ | with_reducible refine all fun _ => ?_ | with_reducible refine both ?_ ?_ | (with_reducible refine choT ?_ ?_; omega) | (with_reducible refine choF ?_ ?_; omega) | with_reducible refine cho (fun _ => ?_) (fun _ => ?_))
  exact ⟨rfl, rfl⟩
instance {a : AV} {l : List En} {m : SM} {k : List UInt8} [h : IsL a En.av 4 l m] : PC Go.Proofs.Try.prog 83 [a, S k, .val (.func (.func 84) #[] #[])] (Rises l ∧ l.length ≤ 1000000000000) (.tuple [I .i64 (placeN l k : Nat), B (hasK l k)]) := ⟨fun hl => ⟨[.lst 4 (l.map En.av) m, S k, .val (.func (.func 84) #[] #[])], ⟨h.sub, SubVs.refl _⟩, Search_ok l m k _ (fun e => splace1_ok e k) hl.1 hl.2⟩⟩
theorem splace_ok (l : List En) (m : SM) (k : List UInt8) (hr : Rises l) (hl : l.length ≤ 1000000) : aPure Go.Proofs.Try.prog 37 [.lst 4 (l.map En.av) m, S k] (.tuple [I .i64 (placeN l k : Nat), B (hasK l k)]) := by
  refine seek_place.go ?_
  unfold seek_place.sh
  repeat' (first | with_reducible apply Stp.go | with_reducible refine imp fun _ => ?_ | (with_reducible refine hyp ?_ ?_; first | assumption | exact leftT_mem (by assumption)) | (with_reducible refine need ?_ ?_; first | trivial | omega | exact ⟨by assumption, by omega⟩ | (simp only [List.length_append, List.length_cons, List.length_nil, List.length_map, List.length_take, List.length_drop, List.length_replicate, List.length_set]; omega)) | (with_reducible refine fact ?_ ?_; first | trivial | exact ⟨rfl, rfl⟩ | kernel_rfl) | with_reducible refine choT (by assumption) ?_ | with_reducible refine choF (by assumption) ?_ | with_reducible refine choF' (by assumption) ?_ | (with_reducible refine altT ?_ ?_; first | omega | (simp only [List.length_append, List.length_cons, List.length_nil, List.length_map, List.length_take, List.length_drop, List.length_replicate, List.length_set]; omega)) | with_reducible refine altF ?_ | with_reducible refine all fun _ => ?_ | with_reducible refine both ?_ ?_ | (with_reducible refine choT ?_ ?_; omega) | (with_reducible refine choF ?_ ?_; omega) | with_reducible refine cho (fun _ => ?_) (fun _ => ?_))
  exact ⟨rfl, rfl⟩
instance {a : AV} {l : List En} {m : SM} {k : List UInt8} [h : IsL a En.av 4 l m] : PC Go.Proofs.Try.prog 37 [a, S k] (Rises l ∧ l.length ≤ 1000000) (.tuple [I .i64 (placeN l k : Nat), B (hasK l k)]) := ⟨fun hl => ⟨[.lst 4 (l.map En.av) m, S k], ⟨h.sub, SubVs.refl _⟩, splace_ok l m k hl.1 hl.2⟩⟩
/-- An opening, as a value. -/
abbrev opA (i : Int) (b : List UInt8) (p : List D32) : AV := .agg [I .i64 i, bl b, .lst 32 (p.map dgF) .ro]
theorem opens_ok (b : Int) (L : List (List UInt8)) (m : SM) (i : Nat) (hi : i < L.length) (hL : L.length ≤ 1000000) (hb : ∀ b ∈ L, b.length ≤ 100000000000000) : aPure Go.Proofs.Try.prog 38 [trA b, .lst 1 (L.map bl) m, I .i64 (i : Nat)] (opA i (L.getD i default) (pathD b L i)) := by
  refine ACalls.fin (seek_opens.go ?_)
  unfold seek_opens.sh
  have hp : i < L.length ∧ L.length ≤ 1000000 ∧ ∀ b ∈ L, b.length ≤ 100000000000000 := ⟨hi, hL, hb⟩
  repeat' (first | with_reducible apply Stp.go | with_reducible refine imp fun _ => ?_ | (with_reducible refine hyp ?_ ?_; first | assumption | exact leftT_mem (by assumption)) | (with_reducible refine need ?_ ?_; first | trivial | omega | exact ⟨by assumption, by omega⟩ | (simp only [List.length_append, List.length_cons, List.length_nil, List.length_map, List.length_take, List.length_drop, List.length_replicate, List.length_set]; omega)) | (with_reducible refine fact ?_ ?_; first | trivial | exact ⟨rfl, rfl⟩ | kernel_rfl) | with_reducible refine choT (by assumption) ?_ | with_reducible refine choF (by assumption) ?_ | with_reducible refine choF' (by assumption) ?_ | (with_reducible refine altT ?_ ?_; first | omega | (simp only [List.length_append, List.length_cons, List.length_nil, List.length_map, List.length_take, List.length_drop, List.length_replicate, List.length_set]; omega)) | with_reducible refine altF ?_ | with_reducible refine all fun _ => ?_ | with_reducible refine both ?_ ?_ | (with_reducible refine choT ?_ ?_; omega) | (with_reducible refine choF ?_ ?_; omega) | with_reducible refine cho (fun _ => ?_) (fun _ => ?_))
  exact ⟨_, _, _, rfl, Sub.app_nil _, rfl, rfl⟩
instance {a : AV} {L : List (List UInt8)} {m : SM} {b : Int} {i : Nat} [h : IsL a bl 1 L m] : PC Go.Proofs.Try.prog 38 [trA b, a, I .i64 (i : Nat)] (i < L.length ∧ L.length ≤ 1000000 ∧ ∀ b ∈ L, b.length ≤ 100000000000000) (opA i (L.getD i default) (pathD b L i)) := ⟨fun hl => ⟨[trA b, .lst 1 (L.map bl) m, I .i64 (i : Nat)], ⟨SubV.refl _, h.sub, SubV.refl _, trivial⟩, opens_ok b L m i hl.1 hl.2.1 hl.2.2⟩⟩
end Go.Ab

/- What a table has of a key, proved. -/
set_option linter.unusedVariables false
set_option linter.unusedSimpArgs false
namespace Go.Ab
theorem SubVs.len : ∀ {us us' : List AV}, SubVs us us' → us.length = us'.length
  | [], [], _ => rfl
  | _ :: us, _ :: us', h => by simp [SubVs.len h.2]
theorem SubV.agg {us us' : List AV} (h : SubVs us us') : SubV (.agg us) (.agg us') := fun R v hv => by
  obtain ⟨vs, rfl, hr⟩ := hv.agg_inv
  exact VR.agg' (h.rel hr)
/-- An opening's parts. -/
abbrev Opn := Int × List UInt8 × List D32
def opn0 : Opn := (0, [], [])
def opnAt (b : Int) (L : List (List UInt8)) (i : Nat) : Opn := ((i : Int), L.getD i default, pathD b L i)
abbrev ptA (bt : Bool) (x y : Opn) : AV := .agg [B bt, I .i64 x.1, bl x.2.1, .lst 32 (x.2.2.map dgF) .ro, I .i64 y.1, bl y.2.1, .lst 32 (y.2.2.map dgF) .ro]
/-- What is proved of a key. -/
def proveP (b : Int) (l : List En) (k : List UInt8) : Nat × Bool × Opn × Opn :=
  if fit l = true then
    if hasK l k = true then (0, false, opnAt b (l.map enB) (placeN l k), opn0)
    else if placeN l k = 0 ∨ placeN l k = l.length then (5, false, opn0, opn0)
    else (0, true, opnAt b (l.map enB) (placeN l k - 1), opnAt b (l.map enB) (placeN l k))
  else (1, false, opn0, opn0)
theorem subNil (sz : Nat) (hz : 0 < sz) : SubV (.val (.slice none 0 0)) (.lst sz [] .ro) := fun R v h => SubV.ro sz [] .nil R v (SubV.nil sz hz R v h)
theorem SubVs.mk {u v : AV} {us vs : List AV} (h : SubV u v) (hs : SubVs us vs) : SubVs (u :: us) (v :: vs) := ⟨h, hs⟩
theorem SubVs.nl : SubVs [] [] := trivial
abbrev nilV : AV := .val (.slice none 0 0)
theorem ptSub (a b c : AV) : SubV (.agg [a, b, nilV, nilV, c, nilV, nilV]) (.agg [a, b, .lst 1 [] .ro, .lst 32 [] .ro, c, .lst 1 [] .ro, .lst 32 [] .ro]) :=
  SubV.agg (.mk (SubV.refl _) (.mk (SubV.refl _) (.mk (subNil 1 (by decide)) (.mk (subNil 32 (by decide)) (.mk (SubV.refl _) (.mk (subNil 1 (by decide)) (.mk (subNil 32 (by decide)) .nl)))))))
theorem ptSub1 (a b x y c : AV) : SubV (.agg [a, b, x, y, c, nilV, nilV]) (.agg [a, b, x, y, c, .lst 1 [] .ro, .lst 32 [] .ro]) :=
  SubV.agg (.mk (SubV.refl _) (.mk (SubV.refl _) (.mk (SubV.refl _) (.mk (SubV.refl _) (.mk (SubV.refl _) (.mk (subNil 1 (by decide)) (.mk (subNil 32 (by decide)) .nl)))))))
theorem litFill {zs cs : List AV} {offs : List (Nat × Nat)} {parts : List (Nat × AV)} {K : AV → Prop} (ho : ∀ p ∈ parts, ∀ c ∈ p.2.cells, c.one = true) (hf : fillA (offs[·]?) zs parts = some cs) (hK : K (.agg cs)) : Do (aLit zs offs parts) K := ⟨_, ⟨ho, cs, hf, rfl⟩, hK⟩
def seek_Prove.mark : Mark := ⟨fun t => Nat.beq t 12 || Nat.beq t 18 || Nat.beq t 22, fun t => false, fun t => Nat.beq t 3, fun t => Nat.beq t 25 || Nat.beq t 40 || Nat.beq t 45, fun t => false⟩
def seek_Prove.ann : Ann := ⟨fun n => [], fun n => none, fun n => none⟩
/-- 'marlstone/seek.Prove' -/
def seek_Prove.sh (a0 a1 a2 : AV) (σ : Store) (Q : AEnd → Store → Prop) : Prop :=
  Do (aFreeze ((a0 : AV)).cells) fun t3 =>
  aNewVar 32 [.val (.bool false), .val (.int .i64 0), .val (.slice none 0 0), .val (.slice none 0 0), .val (.int .i64 0), .val (.slice none 0 0), .val (.slice none 0 0)] σ fun t6 σ =>
  Do (aPureC Go.Proofs.Try.prog 36 [a1]) fun t12 =>
  Do (aUn Go.Proofs.Try.prog .not t12) fun t13 =>
  aCond t13
    (Do (aLit [.val (.bool false), .val (.int .i64 0), .val (.slice none 0 0), .val (.slice none 0 0), .val (.int .i64 0), .val (.slice none 0 0), .val (.slice none 0 0)] [(0, 1), (1, 3), (4, 3)] []) fun t14 =>
    storeA 7 t6 t14 σ fun u σ_1 =>
    Do (loadA true 7 t6 σ_1) fun r6 => Q (.ret (.tuple [r6, (.val (.int .i64 1))])) σ_1)
    (Do (aPureC Go.Proofs.Try.prog 37 [a1, a2]) fun t18 =>
  Do (aExt t18 0) fun t19 =>
  Do (aExt t18 1) fun t20 =>
  Do (aPureC Go.Proofs.Try.prog 32 [a1]) fun t22 =>
  aCond t20
    (Do (loadF true 1 t3) fun t25 =>
    aCall Go.Proofs.Try.prog 38 [t25, t22, t19] σ (fun t28 σ_2 =>
    Do (aLit [.val (.bool false), .val (.int .i64 0), .val (.slice none 0 0), .val (.slice none 0 0), .val (.int .i64 0), .val (.slice none 0 0), .val (.slice none 0 0)] [(0, 1), (1, 3), (4, 3)] [(1, t28)]) fun t29 =>
    storeA 7 t6 t29 σ_2 fun u_1 σ_3 =>
    Do (loadA true 7 t6 σ_3) fun r6_1 => Q (.ret (.tuple [r6_1, (.val (.int .i64 0))])) σ_3) (fun e σ_4 => Q (.pan e) σ_4))
    (Do (aBin Go.Proofs.Try.prog .eql 3 t19 (.val (.int .i64 0))) fun t32 =>
    Do (aGuard t32 false (aIs t19)) fun t34 =>
    Do (aGuard t32 false (aIs a1)) fun t35 =>
    Do (aGuard t32 false (aBuiltin Go.Proofs.Try.prog .len #[22] [t35])) fun t36 =>
    Do (aGuard t32 false (aBin Go.Proofs.Try.prog .eql 3 t34 t36)) fun t37 =>
    Do (aPick t32 (.val (.bool true)) t37) fun t38 =>
    aCond t38
      (Do (aLit [.val (.bool false), .val (.int .i64 0), .val (.slice none 0 0), .val (.slice none 0 0), .val (.int .i64 0), .val (.slice none 0 0), .val (.slice none 0 0)] [(0, 1), (1, 3), (4, 3)] []) fun t39 =>
      storeA 7 t6 t39 σ fun u_2 σ_5 =>
      Do (loadA true 7 t6 σ_5) fun r6_2 => Q (.ret (.tuple [r6_2, (.val (.int .i64 5))])) σ_5)
      (Do (loadF true 1 t3) fun t40 =>
  Do (aBin Go.Proofs.Try.prog .sub 3 t19 (.val (.int .i64 1))) fun t43 =>
  Do (loadF true 1 t3) fun t45 =>
  aCall Go.Proofs.Try.prog 38 [t40, t22, t43] σ (fun t44 σ_6 =>
  aCall Go.Proofs.Try.prog 38 [t45, t22, t19] σ_6 (fun t48 σ_7 =>
  Do (aLit [.val (.bool false), .val (.int .i64 0), .val (.slice none 0 0), .val (.slice none 0 0), .val (.int .i64 0), .val (.slice none 0 0), .val (.slice none 0 0)] [(0, 1), (1, 3), (4, 3)] [(0, (.val (.bool true))), (1, t44), (2, t48)]) fun t49 =>
  storeA 7 t6 t49 σ_7 fun u_3 σ_8 =>
  Do (loadA true 7 t6 σ_8) fun r6_3 => Q (.ret (.tuple [r6_3, (.val (.int .i64 0))])) σ_8) (fun e_1 σ_9 => Q (.pan e_1) σ_9)) (fun e_2 σ_10 => Q (.pan e_2) σ_10))))
theorem seek_Prove.eq (a0 a1 a2 : AV) (σ : Store) (Q : AEnd → Store → Prop) : vc (semOf Go.Proofs.Try.prog seek_Prove.mark) Go.Proofs.Try.f12.ntmps seek_Prove.ann (bodyOf Go.Proofs.Try.f12) (endK [.cell 6 true 7, .tmp 7] Q) (argFr [a0, a1, a2]) σ = seek_Prove.sh a0 a1 a2 σ Q := by kernel_rfl
theorem seek_Prove.go {a0 a1 a2 : AV} {σ : Store} {Q : AEnd → Store → Prop} (h : seek_Prove.sh a0 a1 a2 σ Q) : ACalls Go.Proofs.Try.prog 12 [a0, a1, a2] σ Q :=
  acalls_of_eq [.cell 6 true 7, .tmp 7] Go.Proofs.Try.func12 (by kernel_rfl) (by kernel_rfl) (by kernel_rfl) (by kernel_rfl) (seek_Prove.eq a0 a1 a2 σ Q) h
theorem Prove_ok (b : Int) (l : List En) (m : SM) (k : List UInt8) (hl : l.length ≤ 1000000) : aPure Go.Proofs.Try.prog 12 [trA b, .lst 4 (l.map En.av) m, S k] (.tuple [ptA (proveP b l k).2.1 (proveP b l k).2.2.1 (proveP b l k).2.2.2, I .i64 ((proveP b l k).1 : Nat)]) := by
  refine ACalls.fin (seek_Prove.go ?_)
  unfold seek_Prove.sh
  have hb : ∀ b ∈ l.map enB, b.length ≤ 100000000000000 := fun b h => by
    obtain ⟨e, _, rfl⟩ := List.mem_map.1 h
    have := enB_length e
    omega
  have hml : (l.map enB).length = l.length := by simp
  have hL : (l.map enB).length ≤ 1000000 := by omega
  by_cases hf : fit l = true
  · have hr : Rises l := (sorted_iff l).1 (fit_right hf).2.2.1
    have hp := placeN_le l k
    by_cases hk : hasK l k = true
    · have h1 := (place_lt hr hk).1
      have e : proveP b l k = (0, false, opnAt b (l.map enB) (placeN l k), opn0) := by rw [proveP, if_pos hf, if_pos hk]
      have q1 : placeN l k < (l.map enB).length ∧ (l.map enB).length ≤ 1000000 ∧ ∀ b ∈ l.map enB, b.length ≤ 100000000000000 := ⟨by omega, hL, hb⟩
      rw [e]
      repeat' (first | with_reducible apply Stp.go | with_reducible refine imp fun _ => ?_ | (with_reducible refine hyp ?_ ?_; first | assumption | exact leftT_mem (by assumption)) | (with_reducible refine need ?_ ?_; first | trivial | omega | exact ⟨by assumption, by omega⟩ | (simp only [List.length_append, List.length_cons, List.length_nil, List.length_map, List.length_take, List.length_drop, List.length_replicate, List.length_set]; omega)) | (with_reducible refine fact ?_ ?_; first | trivial | exact ⟨rfl, rfl⟩ | kernel_rfl) | with_reducible refine choT (by assumption) ?_ | with_reducible refine choF (by assumption) ?_ | with_reducible refine choF' (by assumption) ?_ | (with_reducible refine altT ?_ ?_; first | omega | (simp only [List.length_append, List.length_cons, List.length_nil, List.length_map, List.length_take, List.length_drop, List.length_replicate, List.length_set]; omega)) | with_reducible refine altF ?_ | with_reducible refine all fun _ => ?_ | with_reducible refine both ?_ ?_ | (with_reducible refine choT ?_ ?_; omega) | (with_reducible refine choF ?_ ?_; omega) | with_reducible refine cho (fun _ => ?_) (fun _ => ?_))
      refine litFill (cs := [.val (.bool false), I .i64 (placeN l k : Nat), bl ((l.map enB).getD (placeN l k) default), .lst 32 ((pathD b (l.map enB) (placeN l k)).map dgF) .ro, .val (.int .i64 0), .val (.slice none 0 0), .val (.slice none 0 0)]) ?_ rfl ?_
      · intro p hp c hc
        rw [List.mem_singleton.1 hp] at hc
        simp only [AV.cells, List.mem_cons, List.not_mem_nil, or_false] at hc
        rcases hc with rfl | rfl | rfl <;> rfl
      repeat' (first | with_reducible apply Stp.go | with_reducible refine imp fun _ => ?_ | (with_reducible refine hyp ?_ ?_; first | assumption | exact leftT_mem (by assumption)) | (with_reducible refine need ?_ ?_; first | trivial | omega | exact ⟨by assumption, by omega⟩ | (simp only [List.length_append, List.length_cons, List.length_nil, List.length_map, List.length_take, List.length_drop, List.length_replicate, List.length_set]; omega)) | (with_reducible refine fact ?_ ?_; first | trivial | exact ⟨rfl, rfl⟩ | kernel_rfl) | with_reducible refine choT (by assumption) ?_ | with_reducible refine choF (by assumption) ?_ | with_reducible refine choF' (by assumption) ?_ | (with_reducible refine altT ?_ ?_; first | omega | (simp only [List.length_append, List.length_cons, List.length_nil, List.length_map, List.length_take, List.length_drop, List.length_replicate, List.length_set]; omega)) | with_reducible refine altF ?_ | with_reducible refine all fun _ => ?_ | with_reducible refine both ?_ ?_ | (with_reducible refine choT ?_ ?_; omega) | (with_reducible refine choF ?_ ?_; omega) | with_reducible refine cho (fun _ => ?_) (fun _ => ?_))
      exact ⟨_, _, _, rfl, Sub.trans (Sub.app_nil _) (Sub.tuple (Sub.vals (.mk (ptSub1 _ _ _ _ _) (.mk (SubV.refl _) .nl)))), rfl, rfl⟩
    · by_cases hz : placeN l k = 0 ∨ placeN l k = l.length
      · have e : proveP b l k = (5, false, opn0, opn0) := by rw [proveP, if_pos hf, if_neg hk, if_pos hz]
        rw [e]
        by_cases h0 : placeN l k = 0
        · repeat' (first | with_reducible apply Stp.go | with_reducible refine imp fun _ => ?_ | (with_reducible refine hyp ?_ ?_; first | assumption | exact leftT_mem (by assumption)) | (with_reducible refine need ?_ ?_; first | trivial | omega | exact ⟨by assumption, by omega⟩ | (simp only [List.length_append, List.length_cons, List.length_nil, List.length_map, List.length_take, List.length_drop, List.length_replicate, List.length_set]; omega)) | (with_reducible refine fact ?_ ?_; first | trivial | exact ⟨rfl, rfl⟩ | kernel_rfl) | with_reducible refine choT (by assumption) ?_ | with_reducible refine choF (by assumption) ?_ | with_reducible refine choF' (by assumption) ?_ | (with_reducible refine altT ?_ ?_; first | omega | (simp only [List.length_append, List.length_cons, List.length_nil, List.length_map, List.length_take, List.length_drop, List.length_replicate, List.length_set]; omega)) | with_reducible refine altF ?_ | with_reducible refine all fun _ => ?_ | with_reducible refine both ?_ ?_ | (with_reducible refine choT ?_ ?_; omega) | (with_reducible refine choF ?_ ?_; omega) | with_reducible refine cho (fun _ => ?_) (fun _ => ?_))
          exact ⟨_, _, _, rfl, Sub.trans (Sub.app_nil _) (Sub.tuple (Sub.vals (.mk (ptSub _ _ _) (.mk (SubV.refl _) .nl)))), rfl, rfl⟩
        · have h1 : placeN l k = l.length := by omega
          repeat' (first | with_reducible apply Stp.go | with_reducible refine imp fun _ => ?_ | (with_reducible refine hyp ?_ ?_; first | assumption | exact leftT_mem (by assumption)) | (with_reducible refine need ?_ ?_; first | trivial | omega | exact ⟨by assumption, by omega⟩ | (simp only [List.length_append, List.length_cons, List.length_nil, List.length_map, List.length_take, List.length_drop, List.length_replicate, List.length_set]; omega)) | (with_reducible refine fact ?_ ?_; first | trivial | exact ⟨rfl, rfl⟩ | kernel_rfl) | with_reducible refine choT (by assumption) ?_ | with_reducible refine choF (by assumption) ?_ | with_reducible refine choF' (by assumption) ?_ | (with_reducible refine altT ?_ ?_; first | omega | (simp only [List.length_append, List.length_cons, List.length_nil, List.length_map, List.length_take, List.length_drop, List.length_replicate, List.length_set]; omega)) | with_reducible refine altF ?_ | with_reducible refine all fun _ => ?_ | with_reducible refine both ?_ ?_ | (with_reducible refine choT ?_ ?_; omega) | (with_reducible refine choF ?_ ?_; omega) | with_reducible refine cho (fun _ => ?_) (fun _ => ?_))
          exact ⟨_, _, _, rfl, Sub.trans (Sub.app_nil _) (Sub.tuple (Sub.vals (.mk (ptSub _ _ _) (.mk (SubV.refl _) .nl)))), rfl, rfl⟩
      · have e : proveP b l k = (0, true, opnAt b (l.map enB) (placeN l k - 1), opnAt b (l.map enB) (placeN l k)) := by rw [proveP, if_pos hf, if_neg hk, if_neg hz]
        have h0 : ¬ placeN l k = 0 := fun h => hz (.inl h)
        have h1 : ¬ placeN l k = l.length := fun h => hz (.inr h)
        have q1 : placeN l k < (l.map enB).length ∧ (l.map enB).length ≤ 1000000 ∧ ∀ b ∈ l.map enB, b.length ≤ 100000000000000 := ⟨by omega, hL, hb⟩
        have q2 : placeN l k - 1 < (l.map enB).length ∧ (l.map enB).length ≤ 1000000 ∧ ∀ b ∈ l.map enB, b.length ≤ 100000000000000 := ⟨by omega, hL, hb⟩
        rw [e]
        repeat' (first | with_reducible apply Stp.go | with_reducible refine imp fun _ => ?_ | (with_reducible refine hyp ?_ ?_; first | assumption | exact leftT_mem (by assumption)) | (with_reducible refine need ?_ ?_; first | trivial | omega | exact ⟨by assumption, by omega⟩ | (simp only [List.length_append, List.length_cons, List.length_nil, List.length_map, List.length_take, List.length_drop, List.length_replicate, List.length_set]; omega)) | (with_reducible refine fact ?_ ?_; first | trivial | exact ⟨rfl, rfl⟩ | kernel_rfl) | with_reducible refine choT (by assumption) ?_ | with_reducible refine choF (by assumption) ?_ | with_reducible refine choF' (by assumption) ?_ | (with_reducible refine altT ?_ ?_; first | omega | (simp only [List.length_append, List.length_cons, List.length_nil, List.length_map, List.length_take, List.length_drop, List.length_replicate, List.length_set]; omega)) | with_reducible refine altF ?_ | with_reducible refine all fun _ => ?_ | with_reducible refine both ?_ ?_ | (with_reducible refine choT ?_ ?_; omega) | (with_reducible refine choF ?_ ?_; omega) | with_reducible refine cho (fun _ => ?_) (fun _ => ?_))
        refine litFill (cs := [.val (.bool true), I .i64 (placeN l k - 1 : Nat), bl ((l.map enB).getD (placeN l k - 1) default), .lst 32 ((pathD b (l.map enB) (placeN l k - 1)).map dgF) .ro, I .i64 (placeN l k : Nat), bl ((l.map enB).getD (placeN l k) default), .lst 32 ((pathD b (l.map enB) (placeN l k)).map dgF) .ro]) ?_ rfl ?_
        · intro p hp c hc
          simp only [List.mem_cons, List.not_mem_nil, or_false] at hp
          rcases hp with rfl | rfl | rfl
          · rw [List.mem_singleton.1 hc]; rfl
          · simp only [AV.cells, List.mem_cons, List.not_mem_nil, or_false] at hc
            rcases hc with rfl | rfl | rfl <;> rfl
          · simp only [AV.cells, List.mem_cons, List.not_mem_nil, or_false] at hc
            rcases hc with rfl | rfl | rfl <;> rfl
        repeat' (first | with_reducible apply Stp.go | with_reducible refine imp fun _ => ?_ | (with_reducible refine hyp ?_ ?_; first | assumption | exact leftT_mem (by assumption)) | (with_reducible refine need ?_ ?_; first | trivial | omega | exact ⟨by assumption, by omega⟩ | (simp only [List.length_append, List.length_cons, List.length_nil, List.length_map, List.length_take, List.length_drop, List.length_replicate, List.length_set]; omega)) | (with_reducible refine fact ?_ ?_; first | trivial | exact ⟨rfl, rfl⟩ | kernel_rfl) | with_reducible refine choT (by assumption) ?_ | with_reducible refine choF (by assumption) ?_ | with_reducible refine choF' (by assumption) ?_ | (with_reducible refine altT ?_ ?_; first | omega | (simp only [List.length_append, List.length_cons, List.length_nil, List.length_map, List.length_take, List.length_drop, List.length_replicate, List.length_set]; omega)) | with_reducible refine altF ?_ | with_reducible refine all fun _ => ?_ | with_reducible refine both ?_ ?_ | (with_reducible refine choT ?_ ?_; omega) | (with_reducible refine choF ?_ ?_; omega) | with_reducible refine cho (fun _ => ?_) (fun _ => ?_))
        exact ⟨_, _, _, rfl, Sub.app_nil _, rfl, rfl⟩
  · have e : proveP b l k = (1, false, opn0, opn0) := by rw [proveP, if_neg hf]
    rw [e]
    repeat' (first | with_reducible apply Stp.go | with_reducible refine imp fun _ => ?_ | (with_reducible refine hyp ?_ ?_; first | assumption | exact leftT_mem (by assumption)) | (with_reducible refine need ?_ ?_; first | trivial | omega | exact ⟨by assumption, by omega⟩ | (simp only [List.length_append, List.length_cons, List.length_nil, List.length_map, List.length_take, List.length_drop, List.length_replicate, List.length_set]; omega)) | (with_reducible refine fact ?_ ?_; first | trivial | exact ⟨rfl, rfl⟩ | kernel_rfl) | with_reducible refine choT (by assumption) ?_ | with_reducible refine choF (by assumption) ?_ | with_reducible refine choF' (by assumption) ?_ | (with_reducible refine altT ?_ ?_; first | omega | (simp only [List.length_append, List.length_cons, List.length_nil, List.length_map, List.length_take, List.length_drop, List.length_replicate, List.length_set]; omega)) | with_reducible refine altF ?_ | with_reducible refine all fun _ => ?_ | with_reducible refine both ?_ ?_ | (with_reducible refine choT ?_ ?_; omega) | (with_reducible refine choF ?_ ?_; omega) | with_reducible refine cho (fun _ => ?_) (fun _ => ?_))
    exact ⟨_, _, _, rfl, Sub.trans (Sub.app_nil _) (Sub.tuple (Sub.vals (.mk (ptSub _ _ _) (.mk (SubV.refl _) .nl)))), rfl, rfl⟩
instance {a : AV} {l : List En} {m : SM} {b : Int} {k : List UInt8} [h : IsL a En.av 4 l m] : PC Go.Proofs.Try.prog 12 [trA b, a, S k] (l.length ≤ 1000000) (.tuple [ptA (proveP b l k).2.1 (proveP b l k).2.2.1 (proveP b l k).2.2.2, I .i64 ((proveP b l k).1 : Nat)]) := ⟨fun hl => ⟨[trA b, .lst 4 (l.map En.av) m, S k], ⟨SubV.refl _, h.sub, SubV.refl _, trivial⟩, Prove_ok b l m k hl⟩⟩
end Go.Ab
