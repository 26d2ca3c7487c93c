/- What a table has of some keys, proved. -/
import Derived.Test.YtobhbepiaibceaaF50
import Derived.Test.YtobhbepiaibceaaSp12
set_option linter.unusedVariables false
set_option linter.unusedSimpArgs false
namespace Go.Ab
/-- Some keys may be a table's. -/
def spanOk (l : List En) (lo hi : List UInt8) : Bool := !lt (l.getD (l.length - 1) default).key lo && (belowB (l.getD 0 default).key hi && belowB lo hi)
def spFrom (l : List En) (lo : List UInt8) : Nat := placeN l lo - 1
def spTo (l : List En) (hi : List UInt8) : Nat := min ((if hi = [] then l.length else placeN l hi) + 1) l.length
theorem spanOk_lt {l : List En} {lo hi : List UInt8} (hr : Rises l) (h0 : 0 < l.length) (h : spanOk l lo hi = true) : placeN l lo < l.length ∧ spFrom l lo < spTo l hi ∧ spTo l hi ≤ l.length := by
  unfold spanOk at h
  simp only [Bool.and_eq_true, Bool.not_eq_true'] at h
  obtain ⟨h1, h2, h3⟩ := h
  have hl := placeN_le l lo
  have h4 : placeN l lo < l.length := by
    rcases Nat.lt_or_ge (placeN l lo) l.length with h | h
    · exact h
    · exfalso
      have := (place_at hr lo (show l.length - 1 < l.length by omega)).2 (by omega)
      rw [h1] at this; cases this
  refine ⟨h4, ?_, by unfold spTo; omega⟩
  unfold spFrom spTo
  split
  · omega
  · rename_i hn
    have h5 : lt lo hi = true := by
      unfold belowB at h3
      rw [decide_eq_false hn, Bool.false_or] at h3
      exact h3
    have h6 : placeN l lo ≤ placeN l hi := by
      rcases Nat.lt_or_ge (placeN l hi) (placeN l lo) with h | h
      · have a1 := (place_at hr lo (show placeN l hi < l.length by omega)).2 h
        have a2 := (place_at hr hi (show placeN l hi < l.length by omega)).1 (lt_trans' a1 h5)
        omega
      · exact h
    omega
/-- An opening of some leaves, as a value. -/
abbrev spA (p : Int) (L : List (List UInt8)) (d : List D32) : AV := .agg [I .i64 p, .lst 1 (L.map bl) .ro, .lst 32 (d.map dgF) .ro]
/-- What is proved of some keys. -/
def spanP (b : Int) (l : List En) (lo hi : List UInt8) : Nat × Nat × List (List UInt8) × List D32 :=
  if fit l = true then
    if spanOk l lo hi = true then (0, spFrom l lo, ((l.map enB).take (spTo l hi)).drop (spFrom l lo), bsD b (l.map enB) (spFrom l lo) (spTo l hi))
    else (5, 0, [], [])
  else (1, 0, [], [])
theorem spSub (a : AV) : SubV (.agg [a, nilV, nilV]) (.agg [a, .lst 1 [] .ro, .lst 32 [] .ro]) := SubV.agg (.mk (SubV.refl _) (.mk (subNil 1 (by decide)) (.mk (subNil 32 (by decide)) .nl)))
def seek_ProveSpan.mark : Mark := ⟨fun t => Nat.beq t 17 || Nat.beq t 35 || Nat.beq t 41 || Nat.beq t 48 || Nat.beq t 58 || Nat.beq t 70, fun t => false, fun t => Nat.beq t 4, fun t => Nat.beq t 26 || Nat.beq t 33 || Nat.beq t 72, fun t => false⟩
def seek_ProveSpan.ann : Ann := ⟨fun n => [], fun n => bif Nat.beq n 9 then some [1, 4, 8, 10, 12] else none, fun n => none⟩
/-- 'marlstone/seek.ProveSpan' -/
def seek_ProveSpan.sh (a0 a1 a2 a3 : AV) (σ : Store) (Q : AEnd → Store → Prop) : Prop :=
  Do (aFreeze ((a0 : AV)).cells) fun t4 =>
  aNewVar 39 [.val (.int .i64 0), .val (.slice none 0 0), .val (.slice none 0 0)] σ fun t8 σ =>
  Do (aPureC Go.Proofs.Try.prog 36 [a1]) fun t17 =>
  Do (aUn Go.Proofs.Try.prog .not t17) fun t18 =>
  aCond t18
    (Do (aLit [.val (.int .i64 0), .val (.slice none 0 0), .val (.slice none 0 0)] [(0, 1), (1, 1), (2, 1)] []) fun t19 =>
    storeA 3 t8 t19 σ fun u σ_1 =>
    Do (loadA true 3 t8 σ_1) fun r8 => Q (.ret (.tuple [r8, (.val (.int .i64 1))])) σ_1)
    (Do (aBuiltin Go.Proofs.Try.prog .len #[22] [a1]) fun t22 =>
  Do (aBin Go.Proofs.Try.prog .sub 3 t22 (.val (.int .i64 1))) fun t23 =>
  Do (aIndexAddr .slice 4 a1 t23) fun t24 =>
  Do (aFieldAddr 0 1 t24) fun t25 =>
  Do (loadF false 1 t25) fun t26 =>
  Do (aBin Go.Proofs.Try.prog .lss 9 t26 a2) fun t28 =>
  Do (aGuard t28 false (aIs a1)) fun t30 =>
  Do (aGuard t28 false (aIndexAddr .slice 4 t30 (.val (.int .i64 0)))) fun t31 =>
  Do (aGuard t28 false (aFieldAddr 0 1 t31)) fun t32 =>
  Do (aGuard t28 false (loadF false 1 t32)) fun t33 =>
  Do (aGuard t28 false (aIs a3)) fun t34 =>
  Do (aGuard t28 false (aPureC Go.Proofs.Try.prog 43 [t33, t34])) fun t35 =>
  Do (aGuard t28 false (aUn Go.Proofs.Try.prog .not t35)) fun t36 =>
  Do (aPick t28 (.val (.bool true)) t36) fun t37 =>
  Do (aGuard t37 false (aIs a2)) fun t39 =>
  Do (aGuard t37 false (aIs a3)) fun t40 =>
  Do (aGuard t37 false (aPureC Go.Proofs.Try.prog 43 [t39, t40])) fun t41 =>
  Do (aGuard t37 false (aUn Go.Proofs.Try.prog .not t41)) fun t42 =>
  Do (aPick t37 (.val (.bool true)) t42) fun t43 =>
  aCond t43
    (Do (aLit [.val (.int .i64 0), .val (.slice none 0 0), .val (.slice none 0 0)] [(0, 1), (1, 1), (2, 1)] []) fun t44 =>
    storeA 3 t8 t44 σ fun u_1 σ_2 =>
    Do (loadA true 3 t8 σ_2) fun r8_1 => Q (.ret (.tuple [r8_1, (.val (.int .i64 5))])) σ_2)
    (Do (aPureC Go.Proofs.Try.prog 37 [a1, a2]) fun t48 =>
  Do (aExt t48 0) fun t49 =>
  Do (aExt t48 1) fun t50 =>
  Do (aBuiltin Go.Proofs.Try.prog .len #[22] [a1]) fun t52 =>
  aJoin (fun j =>
    Do (aBin Go.Proofs.Try.prog .neq 9 a3 (.val (.string ⟨#[]⟩))) fun t54 =>
    aCond t54
      (Do (aPureC Go.Proofs.Try.prog 37 [a1, a3]) fun t58 =>
      Do (aExt t58 0) fun t59 =>
      Do (aExt t58 1) fun t60 =>
      j [a1, t4, t8, t49, t59] σ)
      (j [a1, t4, t8, t49, t52] σ)) fun vs σ_3 =>
  At vs 0 fun s1 => At vs 1 fun s4 => At vs 2 fun s8 => At vs 3 fun s10 => At vs 4 fun s12 => Do (aBin Go.Proofs.Try.prog .sub 3 s10 (.val (.int .i64 1))) fun t62 =>
  Do (aBuiltin Go.Proofs.Try.prog .max #[3, 3] [t62, (.val (.int .i64 0))]) fun t63 =>
  Do (aBin Go.Proofs.Try.prog .add 3 s12 (.val (.int .i64 1))) fun t65 =>
  Do (aBuiltin Go.Proofs.Try.prog .len #[22] [s1]) fun t67 =>
  Do (aBuiltin Go.Proofs.Try.prog .min #[3, 3] [t65, t67]) fun t68 =>
  Do (aPureC Go.Proofs.Try.prog 32 [s1]) fun t70 =>
  Do (loadF true 1 s4) fun t72 =>
  aCall Go.Proofs.Try.prog 44 [t72, t70, t63, t68] σ_3 (fun t76 σ_4 =>
  Do (aExt t76 0) fun t77 =>
  Do (aExt t76 1) fun t78 =>
  Do (aSlice .slice 1 t70 (some t63) (some t68) none) fun t83 =>
  Do (aLit [.val (.int .i64 0), .val (.slice none 0 0), .val (.slice none 0 0)] [(0, 1), (1, 1), (2, 1)] [(0, t63), (1, t83), (2, t77)]) fun t85 =>
  storeA 3 s8 t85 σ_4 fun u_2 σ_5 =>
  Do (loadA true 3 s8 σ_5) fun r8_2 => Q (.ret (.tuple [r8_2, (.val (.int .i64 0))])) σ_5) (fun e σ_6 => Q (.pan e) σ_6)))
theorem seek_ProveSpan.eq (a0 a1 a2 a3 : AV) (σ : Store) (Q : AEnd → Store → Prop) : vc (semOf Go.Proofs.Try.prog seek_ProveSpan.mark) Go.Proofs.Try.f14.ntmps seek_ProveSpan.ann (bodyOf Go.Proofs.Try.f14) (endK [.cell 8 true 3, .tmp 9] Q) (argFr [a0, a1, a2, a3]) σ = seek_ProveSpan.sh a0 a1 a2 a3 σ Q := by kernel_rfl
theorem seek_ProveSpan.go {a0 a1 a2 a3 : AV} {σ : Store} {Q : AEnd → Store → Prop} (h : seek_ProveSpan.sh a0 a1 a2 a3 σ Q) : ACalls Go.Proofs.Try.prog 14 [a0, a1, a2, a3] σ Q :=
  acalls_of_eq [.cell 8 true 3, .tmp 9] Go.Proofs.Try.func14 (by kernel_rfl) (by kernel_rfl) (by kernel_rfl) (by kernel_rfl) (seek_ProveSpan.eq a0 a1 a2 a3 σ Q) h
theorem ProveSpan_ok (b : Int) (l : List En) (m : SM) (lo hi : List UInt8) (hl : l.length ≤ 1000000) : aPure Go.Proofs.Try.prog 14 [trA b, .lst 4 (l.map En.av) m, S lo, S hi] (.tuple [spA ((spanP b l lo hi).2.1 : Nat) (spanP b l lo hi).2.2.1 (spanP b l lo hi).2.2.2, I .i64 ((spanP b l lo hi).1 : Nat)]) := by
  refine ACalls.fin (seek_ProveSpan.go ?_)
  unfold seek_ProveSpan.sh
  have hb : ∀ b ∈ l.map enB, b.length ≤ 100000000000000 := fun b h => by
    obtain ⟨e, _, rfl⟩ := List.mem_map.1 h
    have := enB_length e
    omega
  have hml : (l.map enB).length = l.length := by simp
  have hL : (l.map enB).length ≤ 1000000 := by omega
  by_cases hf : fit l = true
  · have hr : Rises l := (sorted_iff l).1 (fit_right hf).2.2.1
    have h0 : 0 < l.length := (fit_right hf).2.1
    by_cases hs : spanOk l lo hi = true
    · obtain ⟨g1, g2, g3⟩ := spanOk_lt hr h0 hs
      have hs' := hs
      unfold spanOk at hs'
      simp only [Bool.and_eq_true, Bool.not_eq_true'] at hs'
      obtain ⟨s1, s2, s3⟩ := hs'
      have e : spanP b l lo hi = (0, spFrom l lo, ((l.map enB).take (spTo l hi)).drop (spFrom l lo), bsD b (l.map enB) (spFrom l lo) (spTo l hi)) := by rw [spanP, if_pos hf, if_pos hs]
      rw [e]
      have q1 : spFrom l lo < spTo l hi ∧ spTo l hi ≤ (l.map enB).length ∧ (l.map enB).length ≤ 1000000 ∧ ∀ b ∈ l.map enB, b.length ≤ 100000000000000 := ⟨g2, by omega, hL, hb⟩
      obtain ⟨z, hz⟩ : ∃ z : Nat, z = if hi = [] then l.length else placeN l hi := ⟨_, rfl⟩
      have hto : min (z + 1) l.length = spTo l hi := by rw [hz]; rfl
      have hpz := placeN_le l hi
      have hzl : z ≤ l.length := by rw [hz]; split <;> omega
      repeat' (first | with_reducible apply Stp.go | with_reducible refine imp fun _ => ?_ | (with_reducible refine hyp ?_ ?_; first | assumption | exact leftT_mem (by assumption)) | (with_reducible refine need ?_ ?_; first | trivial | omega | exact ⟨by assumption, by omega⟩ | (simp only [List.length_append, List.length_cons, List.length_nil, List.length_map, List.length_take, List.length_drop, List.length_replicate, List.length_set]; omega)) | (with_reducible refine fact ?_ ?_; first | trivial | exact ⟨rfl, rfl⟩ | kernel_rfl) | with_reducible refine choT (by assumption) ?_ | with_reducible refine choF (by assumption) ?_ | with_reducible refine choF' (by assumption) ?_ | (with_reducible refine altT ?_ ?_; first | omega | (simp only [List.length_append, List.length_cons, List.length_nil, List.length_map, List.length_take, List.length_drop, List.length_replicate, List.length_set]; omega)) | with_reducible refine altF ?_ | with_reducible refine all fun _ => ?_ | with_reducible refine both ?_ ?_ | (with_reducible refine choT ?_ ?_; omega) | (with_reducible refine choF ?_ ?_; omega) | with_reducible refine cho (fun _ => ?_) (fun _ => ?_))
      rename_i w
      refine joinI (β := Unit) (fun _ => True) (fun _ => [.lst 4 (l.map En.av) m, .rptr [I .i64 b], ptrAt w 0, I .i64 (placeN l lo : Nat), I .i64 (z : Nat)]) (fun _ => [.var w 39 [.val (.int .i64 0), .val (.slice none 0 0), .val (.slice none 0 0)]]) ?_ ?_
      · by_cases hh : hi = []
        · rw [if_pos hh] at hz
          subst hh
          have hnn : ([] : List UInt8) = [] := rfl
          rw [hz]
          repeat' (first | with_reducible apply Stp.go | with_reducible refine imp fun _ => ?_ | (with_reducible refine hyp ?_ ?_; first | assumption | exact leftT_mem (by assumption)) | (with_reducible refine need ?_ ?_; first | trivial | omega | exact ⟨by assumption, by omega⟩ | (simp only [List.length_append, List.length_cons, List.length_nil, List.length_map, List.length_take, List.length_drop, List.length_replicate, List.length_set]; omega)) | (with_reducible refine fact ?_ ?_; first | trivial | exact ⟨rfl, rfl⟩ | kernel_rfl) | with_reducible refine choT (by assumption) ?_ | with_reducible refine choF (by assumption) ?_ | with_reducible refine choF' (by assumption) ?_ | (with_reducible refine altT ?_ ?_; first | omega | (simp only [List.length_append, List.length_cons, List.length_nil, List.length_map, List.length_take, List.length_drop, List.length_replicate, List.length_set]; omega)) | with_reducible refine altF ?_ | with_reducible refine all fun _ => ?_ | with_reducible refine both ?_ ?_ | (with_reducible refine choT ?_ ?_; omega) | (with_reducible refine choF ?_ ?_; omega) | with_reducible refine cho (fun _ => ?_) (fun _ => ?_))
          exact meet () trivial (Sub.refl _ _)
        · rw [if_neg hh] at hz
          rw [hz]
          repeat' (first | with_reducible apply Stp.go | with_reducible refine imp fun _ => ?_ | (with_reducible refine hyp ?_ ?_; first | assumption | exact leftT_mem (by assumption)) | (with_reducible refine need ?_ ?_; first | trivial | omega | exact ⟨by assumption, by omega⟩ | (simp only [List.length_append, List.length_cons, List.length_nil, List.length_map, List.length_take, List.length_drop, List.length_replicate, List.length_set]; omega)) | (with_reducible refine fact ?_ ?_; first | trivial | exact ⟨rfl, rfl⟩ | kernel_rfl) | with_reducible refine choT (by assumption) ?_ | with_reducible refine choF (by assumption) ?_ | with_reducible refine choF' (by assumption) ?_ | (with_reducible refine altT ?_ ?_; first | omega | (simp only [List.length_append, List.length_cons, List.length_nil, List.length_map, List.length_take, List.length_drop, List.length_replicate, List.length_set]; omega)) | with_reducible refine altF ?_ | with_reducible refine all fun _ => ?_ | with_reducible refine both ?_ ?_ | (with_reducible refine choT ?_ ?_; omega) | (with_reducible refine choF ?_ ?_; omega) | with_reducible refine cho (fun _ => ?_) (fun _ => ?_))
          exact meet () trivial (Sub.refl _ _)
      · rintro ⟨⟩ _
        by_cases hp0 : placeN l lo = 0
        · have hfr : max (((placeN l lo : Nat) : Int) - 1) 0 = ((spFrom l lo : Nat) : Int) := by unfold spFrom; omega
          repeat' (first | with_reducible apply Stp.go | with_reducible refine imp fun _ => ?_ | (with_reducible refine hyp ?_ ?_; first | assumption | exact leftT_mem (by assumption)) | (with_reducible refine need ?_ ?_; first | trivial | omega | exact ⟨by assumption, by omega⟩ | (simp only [List.length_append, List.length_cons, List.length_nil, List.length_map, List.length_take, List.length_drop, List.length_replicate, List.length_set]; omega)) | (with_reducible refine fact ?_ ?_; first | trivial | exact ⟨rfl, rfl⟩ | kernel_rfl) | with_reducible refine choT (by assumption) ?_ | with_reducible refine choF (by assumption) ?_ | with_reducible refine choF' (by assumption) ?_ | (with_reducible refine altT ?_ ?_; first | omega | (simp only [List.length_append, List.length_cons, List.length_nil, List.length_map, List.length_take, List.length_drop, List.length_replicate, List.length_set]; omega)) | with_reducible refine altF ?_ | with_reducible refine all fun _ => ?_ | with_reducible refine both ?_ ?_ | (with_reducible refine choT ?_ ?_; omega) | (with_reducible refine choF ?_ ?_; omega) | with_reducible refine cho (fun _ => ?_) (fun _ => ?_))
          rw [hto, hfr]
          repeat' (first | with_reducible apply Stp.go | with_reducible refine imp fun _ => ?_ | (with_reducible refine hyp ?_ ?_; first | assumption | exact leftT_mem (by assumption)) | (with_reducible refine need ?_ ?_; first | trivial | omega | exact ⟨by assumption, by omega⟩ | (simp only [List.length_append, List.length_cons, List.length_nil, List.length_map, List.length_take, List.length_drop, List.length_replicate, List.length_set]; omega)) | (with_reducible refine fact ?_ ?_; first | trivial | exact ⟨rfl, rfl⟩ | kernel_rfl) | with_reducible refine choT (by assumption) ?_ | with_reducible refine choF (by assumption) ?_ | with_reducible refine choF' (by assumption) ?_ | (with_reducible refine altT ?_ ?_; first | omega | (simp only [List.length_append, List.length_cons, List.length_nil, List.length_map, List.length_take, List.length_drop, List.length_replicate, List.length_set]; omega)) | with_reducible refine altF ?_ | with_reducible refine all fun _ => ?_ | with_reducible refine both ?_ ?_ | (with_reducible refine choT ?_ ?_; omega) | (with_reducible refine choF ?_ ?_; omega) | with_reducible refine cho (fun _ => ?_) (fun _ => ?_))
          exact ⟨_, _, _, rfl, Sub.app_nil _, rfl, rfl⟩
        · have hfr : max (placeN l lo - 1) 0 = spFrom l lo := by unfold spFrom; omega
          repeat' (first | with_reducible apply Stp.go | with_reducible refine imp fun _ => ?_ | (with_reducible refine hyp ?_ ?_; first | assumption | exact leftT_mem (by assumption)) | (with_reducible refine need ?_ ?_; first | trivial | omega | exact ⟨by assumption, by omega⟩ | (simp only [List.length_append, List.length_cons, List.length_nil, List.length_map, List.length_take, List.length_drop, List.length_replicate, List.length_set]; omega)) | (with_reducible refine fact ?_ ?_; first | trivial | exact ⟨rfl, rfl⟩ | kernel_rfl) | with_reducible refine choT (by assumption) ?_ | with_reducible refine choF (by assumption) ?_ | with_reducible refine choF' (by assumption) ?_ | (with_reducible refine altT ?_ ?_; first | omega | (simp only [List.length_append, List.length_cons, List.length_nil, List.length_map, List.length_take, List.length_drop, List.length_replicate, List.length_set]; omega)) | with_reducible refine altF ?_ | with_reducible refine all fun _ => ?_ | with_reducible refine both ?_ ?_ | (with_reducible refine choT ?_ ?_; omega) | (with_reducible refine choF ?_ ?_; omega) | with_reducible refine cho (fun _ => ?_) (fun _ => ?_))
          rw [hto, hfr]
          repeat' (first | with_reducible apply Stp.go | with_reducible refine imp fun _ => ?_ | (with_reducible refine hyp ?_ ?_; first | assumption | exact leftT_mem (by assumption)) | (with_reducible refine need ?_ ?_; first | trivial | omega | exact ⟨by assumption, by omega⟩ | (simp only [List.length_append, List.length_cons, List.length_nil, List.length_map, List.length_take, List.length_drop, List.length_replicate, List.length_set]; omega)) | (with_reducible refine fact ?_ ?_; first | trivial | exact ⟨rfl, rfl⟩ | kernel_rfl) | with_reducible refine choT (by assumption) ?_ | with_reducible refine choF (by assumption) ?_ | with_reducible refine choF' (by assumption) ?_ | (with_reducible refine altT ?_ ?_; first | omega | (simp only [List.length_append, List.length_cons, List.length_nil, List.length_map, List.length_take, List.length_drop, List.length_replicate, List.length_set]; omega)) | with_reducible refine altF ?_ | with_reducible refine all fun _ => ?_ | with_reducible refine both ?_ ?_ | (with_reducible refine choT ?_ ?_; omega) | (with_reducible refine choF ?_ ?_; omega) | with_reducible refine cho (fun _ => ?_) (fun _ => ?_))
          exact ⟨_, _, _, rfl, Sub.app_nil _, rfl, rfl⟩
    · have e : spanP b l lo hi = (5, 0, [], []) := by rw [spanP, if_pos hf, if_neg hs]
      rw [e]
      have hs' := hs
      unfold spanOk at hs'
      repeat' (first | with_reducible apply Stp.go | with_reducible refine imp fun _ => ?_ | (with_reducible refine hyp ?_ ?_; first | assumption | exact leftT_mem (by assumption)) | (with_reducible refine need ?_ ?_; first | trivial | omega | exact ⟨by assumption, by omega⟩ | (simp only [List.length_append, List.length_cons, List.length_nil, List.length_map, List.length_take, List.length_drop, List.length_replicate, List.length_set]; omega)) | (with_reducible refine fact ?_ ?_; first | trivial | exact ⟨rfl, rfl⟩ | kernel_rfl) | with_reducible refine choT (by assumption) ?_ | with_reducible refine choF (by assumption) ?_ | with_reducible refine choF' (by assumption) ?_ | (with_reducible refine altT ?_ ?_; first | omega | (simp only [List.length_append, List.length_cons, List.length_nil, List.length_map, List.length_take, List.length_drop, List.length_replicate, List.length_set]; omega)) | with_reducible refine altF ?_ | with_reducible refine all fun _ => ?_ | with_reducible refine both ?_ ?_ | (with_reducible refine choT ?_ ?_; omega) | (with_reducible refine choF ?_ ?_; omega) | with_reducible refine cho (fun _ => ?_) (fun _ => ?_))
      all_goals first
        | exact ⟨_, _, _, rfl, Sub.trans (Sub.app_nil _) (Sub.tuple (Sub.vals (.mk (spSub _) (.mk (SubV.refl _) .nl)))), rfl, rfl⟩
        | (exfalso; simp_all [lt])
  · have e : spanP b l lo hi = (1, 0, [], []) := by rw [spanP, if_neg hf]
    rw [e]
    repeat' (first | with_reducible apply Stp.go | with_reducible refine imp fun _ => ?_ | (with_reducible refine hyp ?_ ?_; first | assumption | exact leftT_mem (by assumption)) | (with_reducible refine need ?_ ?_; first | trivial | omega | exact ⟨by assumption, by omega⟩ | (simp only [List.length_append, List.length_cons, List.length_nil, List.length_map, List.length_take, List.length_drop, List.length_replicate, List.length_set]; omega)) | (with_reducible refine fact ?_ ?_; first | trivial | exact ⟨rfl, rfl⟩ | kernel_rfl) | with_reducible refine choT (by assumption) ?_ | with_reducible refine choF (by assumption) ?_ | with_reducible refine choF' (by assumption) ?_ | (with_reducible refine altT ?_ ?_; first | omega | (simp only [List.length_append, List.length_cons, List.length_nil, List.length_map, List.length_take, List.length_drop, List.length_replicate, List.length_set]; omega)) | with_reducible refine altF ?_ | with_reducible refine all fun _ => ?_ | with_reducible refine both ?_ ?_ | (with_reducible refine choT ?_ ?_; omega) | (with_reducible refine choF ?_ ?_; omega) | with_reducible refine cho (fun _ => ?_) (fun _ => ?_))
    exact ⟨_, _, _, rfl, Sub.trans (Sub.app_nil _) (Sub.tuple (Sub.vals (.mk (spSub _) (.mk (SubV.refl _) .nl)))), rfl, rfl⟩
instance {a : AV} {l : List En} {m : SM} {b : Int} {lo hi : List UInt8} [h : IsL a En.av 4 l m] : PC Go.Proofs.Try.prog 14 [trA b, a, S lo, S hi] (l.length ≤ 1000000) (.tuple [spA ((spanP b l lo hi).2.1 : Nat) (spanP b l lo hi).2.2.1 (spanP b l lo hi).2.2.2, I .i64 ((spanP b l lo hi).1 : Nat)]) := ⟨fun hl => ⟨[trA b, .lst 4 (l.map En.av) m, S lo, S hi], ⟨SubV.refl _, h.sub, SubV.refl _, SubV.refl _, trivial⟩, ProveSpan_ok b l m lo hi hl⟩⟩
end Go.Ab
