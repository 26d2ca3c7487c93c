/- Ends, places and openings of a table. -/
import Derived.Test.YtobhbepiaibceaaF47
import Derived.Test.YtobhbepiaibceaaF24a
set_option linter.unusedVariables false
set_option linter.unusedSimpArgs false
namespace Go.Ab
section more
variable {P : Program} {b n : Nat} {t : TypeId} {cs cs' : List AV} {lev cnt : Int} {d f g : List UInt8} {σ rest : Store} {put : Ent → Store} {k : AV → Store → Prop} {K : AV → Prop}
instance (sz : Nat) (l : List AV) (m : SM) : One (.lst sz l m) := ⟨rfl⟩
instance (priority := 50) stWhole [hv : VarAt b σ t cs put rest] [hl : LenC cs n] [hl' : LenC cs' n] [ho : Ones cs'] : Stp (storeA n (ptrAt b 0) (.agg cs') σ k) (k .undef (put (.var b t cs'))) := ⟨fun hK => by
  obtain ⟨σ1, σ2, e, e2, _⟩ := hv.at_
  refine ⟨hl'.eq, fun c hc => ho.ones c hc, rfl, σ1, σ2, t, cs, e, by rw [hl.eq]; show 0 + n ≤ n; omega, ?_⟩
  rw [e2] at hK
  have : splice cs 0 (AV.cells (.agg cs')) = cs' := by
    show splice cs 0 cs' = _
    unfold splice
    rw [List.take_zero, List.nil_append, Nat.zero_add, hl'.eq, List.drop_of_length_le (by rw [hl.eq]; omega), List.append_nil]
  rw [this]
  exact hK⟩
instance (priority := 50) ldWhole [hv : VarAt b σ t cs put rest] [hl : LenC cs n] : Stp (Do (loadA true n (ptrAt b 0) σ) K) (Need (0 < n) (K (.agg cs))) := ⟨fun ⟨h0, hK⟩ => by
  obtain ⟨σ1, σ2, e, _⟩ := hv.at_
  refine ⟨_, ⟨h0, fun h => by (cases h), rfl, t, cs, by rw [e]; simp, by rw [hl.eq]; show 0 + n ≤ n; omega, ?_⟩, hK⟩
  show _ = mkV true ((cs.drop 0).take n)
  rw [List.drop_zero, List.take_of_length_le (by rw [hl.eq]; omega)]
  rfl⟩
instance (priority := 75) faTab0 : Stp (Do (aFieldAddr 0 1 (.rptr (tabCs lev cnt d f g))) K) (K (.rptr [I .i64 lev])) := ⟨fun hK => ⟨_, ⟨by decide, by simp, rfl⟩, hK⟩⟩
instance (priority := 75) faTab1 : Stp (Do (aFieldAddr 1 1 (.rptr (tabCs lev cnt d f g))) K) (K (.rptr [I .i64 cnt])) := ⟨fun hK => ⟨_, ⟨by decide, by simp, rfl⟩, hK⟩⟩
instance (priority := 75) faTab2 [hd : Len32 d] : Stp (Do (aFieldAddr 2 32 (.rptr (tabCs lev cnt d f g))) K) (K (.rptr (d.map byt))) := ⟨fun hK => ⟨_, ⟨by decide, by simp [hd.len], by
  have h : (d.map byt).length = 32 := by simp [hd.len]
  show _ = AV.rptr ((d.map byt ++ [S f, S g]).take 32)
  rw [List.take_left' h]⟩, hK⟩⟩
instance (priority := 75) faTab3 [hd : Len32 d] : Stp (Do (aFieldAddr 34 1 (.rptr (tabCs lev cnt d f g))) K) (K (.rptr [S f])) := ⟨fun hK => ⟨_, ⟨by decide, by simp [hd.len], by
  have h : (d.map byt).length = 32 := by simp [hd.len]
  show _ = AV.rptr (((d.map byt ++ [S f, S g]).drop 32).take 1)
  rw [List.drop_left' h]; rfl⟩, hK⟩⟩
instance (priority := 75) faTab4 [hd : Len32 d] : Stp (Do (aFieldAddr 35 1 (.rptr (tabCs lev cnt d f g))) K) (K (.rptr [S g])) := ⟨fun hK => ⟨_, ⟨by decide, by simp [hd.len], by
  have h : (d.map byt).length = 32 := by simp [hd.len]
  show _ = AV.rptr (((d.map byt ++ [S f, S g]).drop (32 + 1)).take 1)
  rw [← List.drop_drop, List.drop_left' h]; rfl⟩, hK⟩⟩
end more
def seek_Covers.mark : Mark := ⟨fun t => false, fun t => false, fun t => Nat.beq t 2, fun t => Nat.beq t 6 || Nat.beq t 12, fun t => false⟩
def seek_Covers.ann : Ann := ⟨fun n => [], fun n => none, fun n => none⟩
/-- 'marlstone/seek.Covers' -/
def seek_Covers.sh (a0 a1 : AV) (σ : Store) (Q : AEnd → Store → Prop) : Prop :=
  Do (aFreeze ((a0 : AV)).cells) fun t2 =>
  Do (aFieldAddr 34 1 t2) fun t5 =>
  Do (loadF false 1 t5) fun t6 =>
  Do (aBin Go.Proofs.Try.prog .leq 9 t6 a1) fun t8 =>
  Do (aGuard t8 true (aIs a1)) fun t10 =>
  Do (aGuard t8 true (aFieldAddr 35 1 t2)) fun t11 =>
  Do (aGuard t8 true (loadF false 1 t11)) fun t12 =>
  Do (aGuard t8 true (aBin Go.Proofs.Try.prog .leq 9 t10 t12)) fun t13 =>
  Do (aPick t8 t13 (.val (.bool false))) fun t14 =>
  Q (.ret t14) σ
theorem seek_Covers.eq (a0 a1 : AV) (σ : Store) (Q : AEnd → Store → Prop) : vc (semOf Go.Proofs.Try.prog seek_Covers.mark) Go.Proofs.Try.f18.ntmps seek_Covers.ann (bodyOf Go.Proofs.Try.f18) (endK [.tmp 4] Q) (argFr [a0, a1]) σ = seek_Covers.sh a0 a1 σ Q := by kernel_rfl
theorem seek_Covers.go {a0 a1 : AV} {σ : Store} {Q : AEnd → Store → Prop} (h : seek_Covers.sh a0 a1 σ Q) : ACalls Go.Proofs.Try.prog 18 [a0, a1] σ Q :=
  acalls_of_eq [.tmp 4] Go.Proofs.Try.func18 (by kernel_rfl) (by kernel_rfl) (by kernel_rfl) (by kernel_rfl) (seek_Covers.eq a0 a1 σ Q) h
def seek_below.mark : Mark := ⟨fun t => false, fun t => false, fun t => false, fun t => false, fun t => false⟩
def seek_below.ann : Ann := ⟨fun n => [], fun n => none, fun n => none⟩
/-- 'marlstone/seek.below' -/
def seek_below.sh (a0 a1 : AV) (σ : Store) (Q : AEnd → Store → Prop) : Prop :=
  Do (aBin Go.Proofs.Try.prog .eql 9 a1 (.val (.string ⟨#[]⟩))) fun t6 =>
  Do (aGuard t6 false (aIs a0)) fun t8 =>
  Do (aGuard t6 false (aIs a1)) fun t9 =>
  Do (aGuard t6 false (aBin Go.Proofs.Try.prog .lss 9 t8 t9)) fun t10 =>
  Do (aPick t6 (.val (.bool true)) t10) fun t11 =>
  Q (.ret t11) σ
theorem seek_below.eq (a0 a1 : AV) (σ : Store) (Q : AEnd → Store → Prop) : vc (semOf Go.Proofs.Try.prog seek_below.mark) Go.Proofs.Try.f43.ntmps seek_below.ann (bodyOf Go.Proofs.Try.f43) (endK [.tmp 4] Q) (argFr [a0, a1]) σ = seek_below.sh a0 a1 σ Q := by kernel_rfl
theorem seek_below.go {a0 a1 : AV} {σ : Store} {Q : AEnd → Store → Prop} (h : seek_below.sh a0 a1 σ Q) : ACalls Go.Proofs.Try.prog 43 [a0, a1] σ Q :=
  acalls_of_eq [.tmp 4] Go.Proofs.Try.func43 (by kernel_rfl) (by kernel_rfl) (by kernel_rfl) (by kernel_rfl) (seek_below.eq a0 a1 σ Q) h
def seek_Overlaps.mark : Mark := ⟨fun t => Nat.beq t 9 || Nat.beq t 20, fun t => false, fun t => Nat.beq t 3, fun t => Nat.beq t 12 || Nat.beq t 18, fun t => false⟩
def seek_Overlaps.ann : Ann := ⟨fun n => [], fun n => none, fun n => none⟩
/-- 'marlstone/seek.Overlaps' -/
def seek_Overlaps.sh (a0 a1 a2 : AV) (σ : Store) (Q : AEnd → Store → Prop) : Prop :=
  Do (aFreeze ((a0 : AV)).cells) fun t3 =>
  Do (aPureC Go.Proofs.Try.prog 43 [a1, a2]) fun t9 =>
  Do (aGuard t9 true (aFieldAddr 35 1 t3)) fun t11 =>
  Do (aGuard t9 true (loadF false 1 t11)) fun t12 =>
  Do (aGuard t9 true (aIs a1)) fun t13 =>
  Do (aGuard t9 true (aBin Go.Proofs.Try.prog .geq 9 t12 t13)) fun t14 =>
  Do (aPick t9 t14 (.val (.bool false))) fun t15 =>
  Do (aGuard t15 true (aFieldAddr 34 1 t3)) fun t17 =>
  Do (aGuard t15 true (loadF false 1 t17)) fun t18 =>
  Do (aGuard t15 true (aIs a2)) fun t19 =>
  Do (aGuard t15 true (aPureC Go.Proofs.Try.prog 43 [t18, t19])) fun t20 =>
  Do (aPick t15 t20 (.val (.bool false))) fun t21 =>
  Q (.ret t21) σ
theorem seek_Overlaps.eq (a0 a1 a2 : AV) (σ : Store) (Q : AEnd → Store → Prop) : vc (semOf Go.Proofs.Try.prog seek_Overlaps.mark) Go.Proofs.Try.f20.ntmps seek_Overlaps.ann (bodyOf Go.Proofs.Try.f20) (endK [.tmp 6] Q) (argFr [a0, a1, a2]) σ = seek_Overlaps.sh a0 a1 a2 σ Q := by kernel_rfl
theorem seek_Overlaps.go {a0 a1 a2 : AV} {σ : Store} {Q : AEnd → Store → Prop} (h : seek_Overlaps.sh a0 a1 a2 σ Q) : ACalls Go.Proofs.Try.prog 20 [a0, a1, a2] σ Q :=
  acalls_of_eq [.tmp 6] Go.Proofs.Try.func20 (by kernel_rfl) (by kernel_rfl) (by kernel_rfl) (by kernel_rfl) (seek_Overlaps.eq a0 a1 a2 σ Q) h
def seek_place_1.mark : Mark := ⟨fun t => Nat.beq t 8, fun t => false, fun t => Nat.beq t 2, fun t => Nat.beq t 6, fun t => false⟩
def seek_place_1.ann : Ann := ⟨fun n => [], fun n => none, fun n => none⟩
/-- 'marlstone/seek.place$1' -/
def seek_place_1.sh (a0 a1 : AV) (σ : Store) (Q : AEnd → Store → Prop) : Prop :=
  Do (aFreeze ((a0 : AV)).cells) fun t2 =>
  Do (aFieldAddr 0 1 t2) fun t5 =>
  Do (loadF false 1 t5) fun t6 =>
  Do (aPureC Go.Proofs.Try.prog 85 [t6, a1]) fun t8 =>
  Q (.ret t8) σ
theorem seek_place_1.eq (a0 a1 : AV) (σ : Store) (Q : AEnd → Store → Prop) : vc (semOf Go.Proofs.Try.prog seek_place_1.mark) Go.Proofs.Try.f84.ntmps seek_place_1.ann (bodyOf Go.Proofs.Try.f84) (endK [.tmp 4] Q) (argFr [a0, a1]) σ = seek_place_1.sh a0 a1 σ Q := by kernel_rfl
theorem seek_place_1.go {a0 a1 : AV} {σ : Store} {Q : AEnd → Store → Prop} (h : seek_place_1.sh a0 a1 σ Q) : ACalls Go.Proofs.Try.prog 84 [a0, a1] σ Q :=
  acalls_of_eq [.tmp 4] Go.Proofs.Try.func84 (by kernel_rfl) (by kernel_rfl) (by kernel_rfl) (by kernel_rfl) (seek_place_1.eq a0 a1 σ Q) h
def seek_place.mark : Mark := ⟨fun t => Nat.beq t 8, fun t => false, fun t => false, fun t => false, fun t => false⟩
def seek_place.ann : Ann := ⟨fun n => [], fun n => none, fun n => none⟩
/-- 'marlstone/seek.place' -/
def seek_place.sh (a0 a1 : AV) (σ : Store) (Q : AEnd → Store → Prop) : Prop :=
  Do (aPureC Go.Proofs.Try.prog 83 [a0, a1, (.val (.func (.func 84) #[] #[]))]) fun t8 =>
  Do (aExt t8 0) fun t9 =>
  Do (aExt t8 1) fun t10 =>
  Q (.ret (.tuple [t9, t10])) σ
theorem seek_place.eq (a0 a1 : AV) (σ : Store) (Q : AEnd → Store → Prop) : vc (semOf Go.Proofs.Try.prog seek_place.mark) Go.Proofs.Try.f37.ntmps seek_place.ann (bodyOf Go.Proofs.Try.f37) (endK [.tmp 4, .tmp 5] Q) (argFr [a0, a1]) σ = seek_place.sh a0 a1 σ Q := by kernel_rfl
theorem seek_place.go {a0 a1 : AV} {σ : Store} {Q : AEnd → Store → Prop} (h : seek_place.sh a0 a1 σ Q) : ACalls Go.Proofs.Try.prog 37 [a0, a1] σ Q :=
  acalls_of_eq [.tmp 4, .tmp 5] Go.Proofs.Try.func37 (by kernel_rfl) (by kernel_rfl) (by kernel_rfl) (by kernel_rfl) (seek_place.eq a0 a1 σ Q) h
def seek_opens.mark : Mark := ⟨fun t => false, fun t => false, fun t => Nat.beq t 3, fun t => Nat.beq t 10 || Nat.beq t 20, fun t => false⟩
def seek_opens.ann : Ann := ⟨fun n => [], fun n => none, fun n => none⟩
/-- 'marlstone/seek.opens' -/
def seek_opens.sh (a0 a1 a2 : AV) (σ : Store) (Q : AEnd → Store → Prop) : Prop :=
  Do (aFreeze ((a0 : AV)).cells) fun t3 =>
  aNewVar 30 [.val (.int .i64 0), .val (.slice none 0 0), .val (.slice none 0 0)] σ fun t6 σ =>
  Do (loadF true 1 t3) fun t10 =>
  aCall Go.Proofs.Try.prog 86 [t10, a1, a2] σ (fun t13 σ_1 =>
  Do (aExt t13 0) fun t14 =>
  Do (aExt t13 1) fun t15 =>
  Do (aIndexAddr .slice 1 a1 a2) fun t19 =>
  Do (loadF false 1 t19) fun t20 =>
  Do (aLit [.val (.int .i64 0), .val (.slice none 0 0), .val (.slice none 0 0)] [(0, 1), (1, 1), (2, 1)] [(0, a2), (1, t20), (2, t14)]) fun t22 =>
  storeA 3 t6 t22 σ_1 fun u σ_2 =>
  Do (loadA true 3 t6 σ_2) fun r6 => Q (.ret r6) σ_2) (fun e σ_3 => Q (.pan e) σ_3)
theorem seek_opens.eq (a0 a1 a2 : AV) (σ : Store) (Q : AEnd → Store → Prop) : vc (semOf Go.Proofs.Try.prog seek_opens.mark) Go.Proofs.Try.f38.ntmps seek_opens.ann (bodyOf Go.Proofs.Try.f38) (endK [.cell 6 true 3] Q) (argFr [a0, a1, a2]) σ = seek_opens.sh a0 a1 a2 σ Q := by kernel_rfl
theorem seek_opens.go {a0 a1 a2 : AV} {σ : Store} {Q : AEnd → Store → Prop} (h : seek_opens.sh a0 a1 a2 σ Q) : ACalls Go.Proofs.Try.prog 38 [a0, a1, a2] σ Q :=
  acalls_of_eq [.cell 6 true 3] Go.Proofs.Try.func38 (by kernel_rfl) (by kernel_rfl) (by kernel_rfl) (by kernel_rfl) (seek_opens.eq a0 a1 a2 σ Q) h
def belowB (k hi : List UInt8) : Bool := decide (hi = []) || lt k hi
theorem below_ok (k hi : List UInt8) : aPure Go.Proofs.Try.prog 43 [S k, S hi] (B (belowB k hi)) := by
  refine seek_below.go ?_
  unfold seek_below.sh
  repeat' (first | with_reducible apply Stp.go | with_reducible refine imp fun _ => ?_ | (with_reducible refine hyp ?_ ?_; first | assumption | exact leftT_mem (by assumption)) | (with_reducible refine need ?_ ?_; first | trivial | omega | exact ⟨by assumption, by omega⟩ | (simp only [List.length_append, List.length_cons, List.length_nil, List.length_map, List.length_take, List.length_drop, List.length_replicate, List.length_set]; omega)) | (with_reducible refine fact ?_ ?_; first | trivial | exact ⟨rfl, rfl⟩ | kernel_rfl) | with_reducible refine choT (by assumption) ?_ | with_reducible refine choF (by assumption) ?_ | with_reducible refine choF' (by assumption) ?_ | (with_reducible refine altT ?_ ?_; first | omega | (simp only [List.length_append, List.length_cons, List.length_nil, List.length_map, List.length_take, List.length_drop, List.length_replicate, List.length_set]; omega)) | with_reducible refine altF ?_ | with_reducible refine all fun _ => ?_ | with_reducible refine both ?_ ?_ | (with_reducible refine choT ?_ ?_; omega) | (with_reducible refine choF ?_ ?_; omega) | with_reducible refine cho (fun _ => ?_) (fun _ => ?_))
  · rename_i h
    refine ⟨?_, rfl⟩
    rw [belowB, decide_eq_true h]; rfl
  · rename_i h
    refine ⟨?_, rfl⟩
    rw [belowB, decide_eq_false h]; rfl
instance {k hi : List UInt8} : PC Go.Proofs.Try.prog 43 [S k, S hi] True (B (belowB k hi)) := ⟨fun _ => PC.of (below_ok k hi)⟩
def coversB (f g k : List UInt8) : Bool := (lt f k || decide (f = k)) && (lt k g || decide (k = g))
theorem Covers_ok (lev n : Int) (d f g k : List UInt8) [hd : Len32 d] : aPure Go.Proofs.Try.prog 18 [tabA lev n d f g, S k] (B (coversB f g k)) := by
  refine ACalls.fin (seek_Covers.go ?_)
  unfold seek_Covers.sh
  repeat' (first | with_reducible apply Stp.go | with_reducible refine imp fun _ => ?_ | (with_reducible refine hyp ?_ ?_; first | assumption | exact leftT_mem (by assumption)) | (with_reducible refine need ?_ ?_; first | trivial | omega | exact ⟨by assumption, by omega⟩ | (simp only [List.length_append, List.length_cons, List.length_nil, List.length_map, List.length_take, List.length_drop, List.length_replicate, List.length_set]; omega)) | (with_reducible refine fact ?_ ?_; first | trivial | exact ⟨rfl, rfl⟩ | kernel_rfl) | with_reducible refine choT (by assumption) ?_ | with_reducible refine choF (by assumption) ?_ | with_reducible refine choF' (by assumption) ?_ | (with_reducible refine altT ?_ ?_; first | omega | (simp only [List.length_append, List.length_cons, List.length_nil, List.length_map, List.length_take, List.length_drop, List.length_replicate, List.length_set]; omega)) | with_reducible refine altF ?_ | with_reducible refine all fun _ => ?_ | with_reducible refine both ?_ ?_ | (with_reducible refine choT ?_ ?_; omega) | (with_reducible refine choF ?_ ?_; omega) | with_reducible refine cho (fun _ => ?_) (fun _ => ?_))
  · rename_i h
    refine ⟨_, _, _, rfl, Sub.app_nil _, ?_, rfl⟩
    rw [coversB, show (lt f k || decide (f = k)) = true from h, Bool.true_and]
  · rename_i h
    refine ⟨_, _, _, rfl, Sub.app_nil _, ?_, rfl⟩
    rw [coversB, show (lt f k || decide (f = k)) = false from Bool.eq_false_iff.2 h, Bool.false_and]
instance {lev n : Int} {d f g k : List UInt8} [hd : Len32 d] : PC Go.Proofs.Try.prog 18 [tabA lev n d f g, S k] True (B (coversB f g k)) := ⟨fun _ => PC.of (Covers_ok lev n d f g k)⟩
/-- A table has something of a range of keys. -/
def overB (f g lo hi : List UInt8) : Bool := belowB lo hi && (!lt g lo && belowB f hi)
theorem Overlaps_ok (lev n : Int) (d f g lo hi : List UInt8) [hd : Len32 d] : aPure Go.Proofs.Try.prog 20 [tabA lev n d f g, S lo, S hi] (B (overB f g lo hi)) := by
  refine ACalls.fin (seek_Overlaps.go ?_)
  unfold seek_Overlaps.sh
  repeat' (first | with_reducible apply Stp.go | with_reducible refine imp fun _ => ?_ | (with_reducible refine hyp ?_ ?_; first | assumption | exact leftT_mem (by assumption)) | (with_reducible refine need ?_ ?_; first | trivial | omega | exact ⟨by assumption, by omega⟩ | (simp only [List.length_append, List.length_cons, List.length_nil, List.length_map, List.length_take, List.length_drop, List.length_replicate, List.length_set]; omega)) | (with_reducible refine fact ?_ ?_; first | trivial | exact ⟨rfl, rfl⟩ | kernel_rfl) | with_reducible refine choT (by assumption) ?_ | with_reducible refine choF (by assumption) ?_ | with_reducible refine choF' (by assumption) ?_ | (with_reducible refine altT ?_ ?_; first | omega | (simp only [List.length_append, List.length_cons, List.length_nil, List.length_map, List.length_take, List.length_drop, List.length_replicate, List.length_set]; omega)) | with_reducible refine altF ?_ | with_reducible refine all fun _ => ?_ | with_reducible refine both ?_ ?_ | (with_reducible refine choT ?_ ?_; omega) | (with_reducible refine choF ?_ ?_; omega) | with_reducible refine cho (fun _ => ?_) (fun _ => ?_))
  all_goals
    refine ⟨_, _, _, rfl, Sub.app_nil _, ?_, rfl⟩
    simp_all [overB, lt]
instance {lev n : Int} {d f g lo hi : List UInt8} [hd : Len32 d] : PC Go.Proofs.Try.prog 20 [tabA lev n d f g, S lo, S hi] True (B (overB f g lo hi)) := ⟨fun _ => PC.of (Overlaps_ok lev n d f g lo hi)⟩
theorem splace1_ok (e : En) (k : List UInt8) : aPure Go.Proofs.Try.prog 84 [e.av, S k] (I .i64 (cmpK e.key k)) := by
  refine seek_place_1.go ?_
  unfold seek_place_1.sh
  repeat' (first | with_reducible apply Stp.go | with_reducible refine imp fun _ => ?_ | (with_reducible refine hyp ?_ ?_; first | assumption | exact leftT_mem (by assumption)) | (with_reducible refine need ?_ ?_; first | trivial | omega | exact ⟨by assumption, by omega⟩ | (simp only [List.length_append, List.length_cons, List.length_nil, List.length_map, List.length_take, List.length_drop, List.length_replicate, List.length_set]; omega)) | (with_reducible refine fact ?_ ?_; first | trivial | exact ⟨rfl, rfl⟩ | kernel_rfl) | with_reducible refine choT (by assumption) ?_ | with_reducible refine choF (by assumption) ?_ | with_reducible refine choF' (by assumption) ?_ | (with_reducible refine altT ?_ ?_; first | omega | (simp only [List.length_append, List.length_cons, List.length_nil, List.length_map, List.length_take, List.length_drop, List.length_replicate, List.length_set]; omega)) | with_reducible refine altF ?_ | with_reducible refine all fun _ => ?_ | with_reducible refine both ?_ ?_ | (with_reducible refine choT ?_ ?_; omega) | (with_reducible refine choF ?_ ?_; omega) | with_reducible refine cho (fun _ => ?_) (fun _ => ?_))
  exact ⟨rfl, rfl⟩
instance {a : AV} {l : List En} {m : SM} {k : List UInt8} [h : IsL a En.av 4 l m] : PC Go.Proofs.Try.prog 83 [a, S k, .val (.func (.func 84) #[] #[])] (Rises l ∧ l.length ≤ 1000000000000) (.tuple [I .i64 (placeN l k : Nat), B (hasK l k)]) := ⟨fun hl => ⟨[.lst 4 (l.map En.av) m, S k, .val (.func (.func 84) #[] #[])], ⟨h.sub, SubVs.refl _⟩, Search_ok l m k _ (fun e => splace1_ok e k) hl.1 hl.2⟩⟩
theorem splace_ok (l : List En) (m : SM) (k : List UInt8) (hr : Rises l) (hl : l.length ≤ 1000000) : aPure Go.Proofs.Try.prog 37 [.lst 4 (l.map En.av) m, S k] (.tuple [I .i64 (placeN l k : Nat), B (hasK l k)]) := by
  refine seek_place.go ?_
  unfold seek_place.sh
  repeat' (first | with_reducible apply Stp.go | with_reducible refine imp fun _ => ?_ | (with_reducible refine hyp ?_ ?_; first | assumption | exact leftT_mem (by assumption)) | (with_reducible refine need ?_ ?_; first | trivial | omega | exact ⟨by assumption, by omega⟩ | (simp only [List.length_append, List.length_cons, List.length_nil, List.length_map, List.length_take, List.length_drop, List.length_replicate, List.length_set]; omega)) | (with_reducible refine fact ?_ ?_; first | trivial | exact ⟨rfl, rfl⟩ | kernel_rfl) | with_reducible refine choT (by assumption) ?_ | with_reducible refine choF (by assumption) ?_ | with_reducible refine choF' (by assumption) ?_ | (with_reducible refine altT ?_ ?_; first | omega | (simp only [List.length_append, List.length_cons, List.length_nil, List.length_map, List.length_take, List.length_drop, List.length_replicate, List.length_set]; omega)) | with_reducible refine altF ?_ | with_reducible refine all fun _ => ?_ | with_reducible refine both ?_ ?_ | (with_reducible refine choT ?_ ?_; omega) | (with_reducible refine choF ?_ ?_; omega) | with_reducible refine cho (fun _ => ?_) (fun _ => ?_))
  exact ⟨rfl, rfl⟩
instance {a : AV} {l : List En} {m : SM} {k : List UInt8} [h : IsL a En.av 4 l m] : PC Go.Proofs.Try.prog 37 [a, S k] (Rises l ∧ l.length ≤ 1000000) (.tuple [I .i64 (placeN l k : Nat), B (hasK l k)]) := ⟨fun hl => ⟨[.lst 4 (l.map En.av) m, S k], ⟨h.sub, SubVs.refl _⟩, splace_ok l m k hl.1 hl.2⟩⟩
/-- An opening, as a value. -/
abbrev opA (i : Int) (b : List UInt8) (p : List D32) : AV := .agg [I .i64 i, bl b, .lst 32 (p.map dgF) .ro]
theorem opens_ok (b : Int) (L : List (List UInt8)) (m : SM) (i : Nat) (hi : i < L.length) (hL : L.length ≤ 1000000) (hb : ∀ b ∈ L, b.length ≤ 100000000000000) : aPure Go.Proofs.Try.prog 38 [trA b, .lst 1 (L.map bl) m, I .i64 (i : Nat)] (opA i (L.getD i default) (pathD b L i)) := by
  refine ACalls.fin (seek_opens.go ?_)
  unfold seek_opens.sh
  have hp : i < L.length ∧ L.length ≤ 1000000 ∧ ∀ b ∈ L, b.length ≤ 100000000000000 := ⟨hi, hL, hb⟩
  repeat' (first | with_reducible apply Stp.go | with_reducible refine imp fun _ => ?_ | (with_reducible refine hyp ?_ ?_; first | assumption | exact leftT_mem (by assumption)) | (with_reducible refine need ?_ ?_; first | trivial | omega | exact ⟨by assumption, by omega⟩ | (simp only [List.length_append, List.length_cons, List.length_nil, List.length_map, List.length_take, List.length_drop, List.length_replicate, List.length_set]; omega)) | (with_reducible refine fact ?_ ?_; first | trivial | exact ⟨rfl, rfl⟩ | kernel_rfl) | with_reducible refine choT (by assumption) ?_ | with_reducible refine choF (by assumption) ?_ | with_reducible refine choF' (by assumption) ?_ | (with_reducible refine altT ?_ ?_; first | omega | (simp only [List.length_append, List.length_cons, List.length_nil, List.length_map, List.length_take, List.length_drop, List.length_replicate, List.length_set]; omega)) | with_reducible refine altF ?_ | with_reducible refine all fun _ => ?_ | with_reducible refine both ?_ ?_ | (with_reducible refine choT ?_ ?_; omega) | (with_reducible refine choF ?_ ?_; omega) | with_reducible refine cho (fun _ => ?_) (fun _ => ?_))
  exact ⟨_, _, _, rfl, Sub.app_nil _, rfl, rfl⟩
instance {a : AV} {L : List (List UInt8)} {m : SM} {b : Int} {i : Nat} [h : IsL a bl 1 L m] : PC Go.Proofs.Try.prog 38 [trA b, a, I .i64 (i : Nat)] (i < L.length ∧ L.length ≤ 1000000 ∧ ∀ b ∈ L, b.length ≤ 100000000000000) (opA i (L.getD i default) (pathD b L i)) := ⟨fun hl => ⟨[trA b, .lst 1 (L.map bl) m, I .i64 (i : Nat)], ⟨SubV.refl _, h.sub, SubV.refl _, trivial⟩, opens_ok b L m i hl.1 hl.2.1 hl.2.2⟩⟩
end Go.Ab
