/- What a table has of a key, proved. -/
import Derived.Test.YtobhbepiaibceaaF48
set_option linter.unusedVariables false
set_option linter.unusedSimpArgs false
namespace Go.Ab
theorem SubVs.len : ∀ {us us' : List AV}, SubVs us us' → us.length = us'.length
  | [], [], _ => rfl
  | _ :: us, _ :: us', h => by simp [SubVs.len h.2]
theorem SubV.agg {us us' : List AV} (h : SubVs us us') : SubV (.agg us) (.agg us') := fun R v hv => by
  obtain ⟨vs, rfl, hr⟩ := hv.agg_inv
  exact VR.agg' (h.rel hr)
/-- An opening's parts. -/
abbrev Opn := Int × List UInt8 × List D32
def opn0 : Opn := (0, [], [])
def opnAt (b : Int) (L : List (List UInt8)) (i : Nat) : Opn := ((i : Int), L.getD i default, pathD b L i)
abbrev ptA (bt : Bool) (x y : Opn) : AV := .agg [B bt, I .i64 x.1, bl x.2.1, .lst 32 (x.2.2.map dgF) .ro, I .i64 y.1, bl y.2.1, .lst 32 (y.2.2.map dgF) .ro]
/-- What is proved of a key. -/
def proveP (b : Int) (l : List En) (k : List UInt8) : Nat × Bool × Opn × Opn :=
  if fit l = true then
    if hasK l k = true then (0, false, opnAt b (l.map enB) (placeN l k), opn0)
    else if placeN l k = 0 ∨ placeN l k = l.length then (5, false, opn0, opn0)
    else (0, true, opnAt b (l.map enB) (placeN l k - 1), opnAt b (l.map enB) (placeN l k))
  else (1, false, opn0, opn0)
theorem subNil (sz : Nat) (hz : 0 < sz) : SubV (.val (.slice none 0 0)) (.lst sz [] .ro) := fun R v h => SubV.ro sz [] .nil R v (SubV.nil sz hz R v h)
theorem SubVs.mk {u v : AV} {us vs : List AV} (h : SubV u v) (hs : SubVs us vs) : SubVs (u :: us) (v :: vs) := ⟨h, hs⟩
theorem SubVs.nl : SubVs [] [] := trivial
abbrev nilV : AV := .val (.slice none 0 0)
theorem ptSub (a b c : AV) : SubV (.agg [a, b, nilV, nilV, c, nilV, nilV]) (.agg [a, b, .lst 1 [] .ro, .lst 32 [] .ro, c, .lst 1 [] .ro, .lst 32 [] .ro]) :=
  SubV.agg (.mk (SubV.refl _) (.mk (SubV.refl _) (.mk (subNil 1 (by decide)) (.mk (subNil 32 (by decide)) (.mk (SubV.refl _) (.mk (subNil 1 (by decide)) (.mk (subNil 32 (by decide)) .nl)))))))
theorem ptSub1 (a b x y c : AV) : SubV (.agg [a, b, x, y, c, nilV, nilV]) (.agg [a, b, x, y, c, .lst 1 [] .ro, .lst 32 [] .ro]) :=
  SubV.agg (.mk (SubV.refl _) (.mk (SubV.refl _) (.mk (SubV.refl _) (.mk (SubV.refl _) (.mk (SubV.refl _) (.mk (subNil 1 (by decide)) (.mk (subNil 32 (by decide)) .nl)))))))
theorem litFill {zs cs : List AV} {offs : List (Nat × Nat)} {parts : List (Nat × AV)} {K : AV → Prop} (ho : ∀ p ∈ parts, ∀ c ∈ p.2.cells, c.one = true) (hf : fillA (offs[·]?) zs parts = some cs) (hK : K (.agg cs)) : Do (aLit zs offs parts) K := ⟨_, ⟨ho, cs, hf, rfl⟩, hK⟩
def seek_Prove.mark : Mark := ⟨fun t => Nat.beq t 12 || Nat.beq t 18 || Nat.beq t 22, fun t => false, fun t => Nat.beq t 3, fun t => Nat.beq t 25 || Nat.beq t 40 || Nat.beq t 45, fun t => false⟩
def seek_Prove.ann : Ann := ⟨fun n => [], fun n => none, fun n => none⟩
/-- 'marlstone/seek.Prove' -/
def seek_Prove.sh (a0 a1 a2 : AV) (σ : Store) (Q : AEnd → Store → Prop) : Prop :=
  Do (aFreeze ((a0 : AV)).cells) fun t3 =>
  aNewVar 32 [.val (.bool false), .val (.int .i64 0), .val (.slice none 0 0), .val (.slice none 0 0), .val (.int .i64 0), .val (.slice none 0 0), .val (.slice none 0 0)] σ fun t6 σ =>
  Do (aPureC Go.Proofs.Try.prog 36 [a1]) fun t12 =>
  Do (aUn Go.Proofs.Try.prog .not t12) fun t13 =>
  aCond t13
    (Do (aLit [.val (.bool false), .val (.int .i64 0), .val (.slice none 0 0), .val (.slice none 0 0), .val (.int .i64 0), .val (.slice none 0 0), .val (.slice none 0 0)] [(0, 1), (1, 3), (4, 3)] []) fun t14 =>
    storeA 7 t6 t14 σ fun u σ_1 =>
    Do (loadA true 7 t6 σ_1) fun r6 => Q (.ret (.tuple [r6, (.val (.int .i64 1))])) σ_1)
    (Do (aPureC Go.Proofs.Try.prog 37 [a1, a2]) fun t18 =>
  Do (aExt t18 0) fun t19 =>
  Do (aExt t18 1) fun t20 =>
  Do (aPureC Go.Proofs.Try.prog 32 [a1]) fun t22 =>
  aCond t20
    (Do (loadF true 1 t3) fun t25 =>
    aCall Go.Proofs.Try.prog 38 [t25, t22, t19] σ (fun t28 σ_2 =>
    Do (aLit [.val (.bool false), .val (.int .i64 0), .val (.slice none 0 0), .val (.slice none 0 0), .val (.int .i64 0), .val (.slice none 0 0), .val (.slice none 0 0)] [(0, 1), (1, 3), (4, 3)] [(1, t28)]) fun t29 =>
    storeA 7 t6 t29 σ_2 fun u_1 σ_3 =>
    Do (loadA true 7 t6 σ_3) fun r6_1 => Q (.ret (.tuple [r6_1, (.val (.int .i64 0))])) σ_3) (fun e σ_4 => Q (.pan e) σ_4))
    (Do (aBin Go.Proofs.Try.prog .eql 3 t19 (.val (.int .i64 0))) fun t32 =>
    Do (aGuard t32 false (aIs t19)) fun t34 =>
    Do (aGuard t32 false (aIs a1)) fun t35 =>
    Do (aGuard t32 false (aBuiltin Go.Proofs.Try.prog .len #[22] [t35])) fun t36 =>
    Do (aGuard t32 false (aBin Go.Proofs.Try.prog .eql 3 t34 t36)) fun t37 =>
    Do (aPick t32 (.val (.bool true)) t37) fun t38 =>
    aCond t38
      (Do (aLit [.val (.bool false), .val (.int .i64 0), .val (.slice none 0 0), .val (.slice none 0 0), .val (.int .i64 0), .val (.slice none 0 0), .val (.slice none 0 0)] [(0, 1), (1, 3), (4, 3)] []) fun t39 =>
      storeA 7 t6 t39 σ fun u_2 σ_5 =>
      Do (loadA true 7 t6 σ_5) fun r6_2 => Q (.ret (.tuple [r6_2, (.val (.int .i64 5))])) σ_5)
      (Do (loadF true 1 t3) fun t40 =>
  Do (aBin Go.Proofs.Try.prog .sub 3 t19 (.val (.int .i64 1))) fun t43 =>
  Do (loadF true 1 t3) fun t45 =>
  aCall Go.Proofs.Try.prog 38 [t40, t22, t43] σ (fun t44 σ_6 =>
  aCall Go.Proofs.Try.prog 38 [t45, t22, t19] σ_6 (fun t48 σ_7 =>
  Do (aLit [.val (.bool false), .val (.int .i64 0), .val (.slice none 0 0), .val (.slice none 0 0), .val (.int .i64 0), .val (.slice none 0 0), .val (.slice none 0 0)] [(0, 1), (1, 3), (4, 3)] [(0, (.val (.bool true))), (1, t44), (2, t48)]) fun t49 =>
  storeA 7 t6 t49 σ_7 fun u_3 σ_8 =>
  Do (loadA true 7 t6 σ_8) fun r6_3 => Q (.ret (.tuple [r6_3, (.val (.int .i64 0))])) σ_8) (fun e_1 σ_9 => Q (.pan e_1) σ_9)) (fun e_2 σ_10 => Q (.pan e_2) σ_10))))
theorem seek_Prove.eq (a0 a1 a2 : AV) (σ : Store) (Q : AEnd → Store → Prop) : vc (semOf Go.Proofs.Try.prog seek_Prove.mark) Go.Proofs.Try.f12.ntmps seek_Prove.ann (bodyOf Go.Proofs.Try.f12) (endK [.cell 6 true 7, .tmp 7] Q) (argFr [a0, a1, a2]) σ = seek_Prove.sh a0 a1 a2 σ Q := by kernel_rfl
theorem seek_Prove.go {a0 a1 a2 : AV} {σ : Store} {Q : AEnd → Store → Prop} (h : seek_Prove.sh a0 a1 a2 σ Q) : ACalls Go.Proofs.Try.prog 12 [a0, a1, a2] σ Q :=
  acalls_of_eq [.cell 6 true 7, .tmp 7] Go.Proofs.Try.func12 (by kernel_rfl) (by kernel_rfl) (by kernel_rfl) (by kernel_rfl) (seek_Prove.eq a0 a1 a2 σ Q) h
theorem Prove_ok (b : Int) (l : List En) (m : SM) (k : List UInt8) (hl : l.length ≤ 1000000) : aPure Go.Proofs.Try.prog 12 [trA b, .lst 4 (l.map En.av) m, S k] (.tuple [ptA (proveP b l k).2.1 (proveP b l k).2.2.1 (proveP b l k).2.2.2, I .i64 ((proveP b l k).1 : Nat)]) := by
  refine ACalls.fin (seek_Prove.go ?_)
  unfold seek_Prove.sh
  have hb : ∀ b ∈ l.map enB, b.length ≤ 100000000000000 := fun b h => by
    obtain ⟨e, _, rfl⟩ := List.mem_map.1 h
    have := enB_length e
    omega
  have hml : (l.map enB).length = l.length := by simp
  have hL : (l.map enB).length ≤ 1000000 := by omega
  by_cases hf : fit l = true
  · have hr : Rises l := (sorted_iff l).1 (fit_right hf).2.2.1
    have hp := placeN_le l k
    by_cases hk : hasK l k = true
    · have h1 := (place_lt hr hk).1
      have e : proveP b l k = (0, false, opnAt b (l.map enB) (placeN l k), opn0) := by rw [proveP, if_pos hf, if_pos hk]
      have q1 : placeN l k < (l.map enB).length ∧ (l.map enB).length ≤ 1000000 ∧ ∀ b ∈ l.map enB, b.length ≤ 100000000000000 := ⟨by omega, hL, hb⟩
      rw [e]
      repeat' (first | with_reducible apply Stp.go | with_reducible refine imp fun _ => ?_ | (with_reducible refine hyp ?_ ?_; first | assumption | exact leftT_mem (by assumption)) | (with_reducible refine need ?_ ?_; first | trivial | omega | exact ⟨by assumption, by omega⟩ | (simp only [List.length_append, List.length_cons, List.length_nil, List.length_map, List.length_take, List.length_drop, List.length_replicate, List.length_set]; omega)) | (with_reducible refine fact ?_ ?_; first | trivial | exact ⟨rfl, rfl⟩ | kernel_rfl) | with_reducible refine choT (by assumption) ?_ | with_reducible refine choF (by assumption) ?_ | with_reducible refine choF' (by assumption) ?_ | (with_reducible refine altT ?_ ?_; first | omega | (simp only [List.length_append, List.length_cons, List.length_nil, List.length_map, List.length_take, List.length_drop, List.length_replicate, List.length_set]; omega)) | with_reducible refine altF ?_ | with_reducible refine all fun _ => ?_ | with_reducible refine both ?_ ?_ | (with_reducible refine choT ?_ ?_; omega) | (with_reducible refine choF ?_ ?_; omega) | with_reducible refine cho (fun _ => ?_) (fun _ => ?_))
      refine litFill (cs := [.val (.bool false), I .i64 (placeN l k : Nat), bl ((l.map enB).getD (placeN l k) default), .lst 32 ((pathD b (l.map enB) (placeN l k)).map dgF) .ro, .val (.int .i64 0), .val (.slice none 0 0), .val (.slice none 0 0)]) ?_ rfl ?_
      · intro p hp c hc
        rw [List.mem_singleton.1 hp] at hc
        simp only [AV.cells, List.mem_cons, List.not_mem_nil, or_false] at hc
        rcases hc with rfl | rfl | rfl <;> rfl
      repeat' (first | with_reducible apply Stp.go | with_reducible refine imp fun _ => ?_ | (with_reducible refine hyp ?_ ?_; first | assumption | exact leftT_mem (by assumption)) | (with_reducible refine need ?_ ?_; first | trivial | omega | exact ⟨by assumption, by omega⟩ | (simp only [List.length_append, List.length_cons, List.length_nil, List.length_map, List.length_take, List.length_drop, List.length_replicate, List.length_set]; omega)) | (with_reducible refine fact ?_ ?_; first | trivial | exact ⟨rfl, rfl⟩ | kernel_rfl) | with_reducible refine choT (by assumption) ?_ | with_reducible refine choF (by assumption) ?_ | with_reducible refine choF' (by assumption) ?_ | (with_reducible refine altT ?_ ?_; first | omega | (simp only [List.length_append, List.length_cons, List.length_nil, List.length_map, List.length_take, List.length_drop, List.length_replicate, List.length_set]; omega)) | with_reducible refine altF ?_ | with_reducible refine all fun _ => ?_ | with_reducible refine both ?_ ?_ | (with_reducible refine choT ?_ ?_; omega) | (with_reducible refine choF ?_ ?_; omega) | with_reducible refine cho (fun _ => ?_) (fun _ => ?_))
      exact ⟨_, _, _, rfl, Sub.trans (Sub.app_nil _) (Sub.tuple (Sub.vals (.mk (ptSub1 _ _ _ _ _) (.mk (SubV.refl _) .nl)))), rfl, rfl⟩
    · by_cases hz : placeN l k = 0 ∨ placeN l k = l.length
      · have e : proveP b l k = (5, false, opn0, opn0) := by rw [proveP, if_pos hf, if_neg hk, if_pos hz]
        rw [e]
        by_cases h0 : placeN l k = 0
        · repeat' (first | with_reducible apply Stp.go | with_reducible refine imp fun _ => ?_ | (with_reducible refine hyp ?_ ?_; first | assumption | exact leftT_mem (by assumption)) | (with_reducible refine need ?_ ?_; first | trivial | omega | exact ⟨by assumption, by omega⟩ | (simp only [List.length_append, List.length_cons, List.length_nil, List.length_map, List.length_take, List.length_drop, List.length_replicate, List.length_set]; omega)) | (with_reducible refine fact ?_ ?_; first | trivial | exact ⟨rfl, rfl⟩ | kernel_rfl) | with_reducible refine choT (by assumption) ?_ | with_reducible refine choF (by assumption) ?_ | with_reducible refine choF' (by assumption) ?_ | (with_reducible refine altT ?_ ?_; first | omega | (simp only [List.length_append, List.length_cons, List.length_nil, List.length_map, List.length_take, List.length_drop, List.length_replicate, List.length_set]; omega)) | with_reducible refine altF ?_ | with_reducible refine all fun _ => ?_ | with_reducible refine both ?_ ?_ | (with_reducible refine choT ?_ ?_; omega) | (with_reducible refine choF ?_ ?_; omega) | with_reducible refine cho (fun _ => ?_) (fun _ => ?_))
          exact ⟨_, _, _, rfl, Sub.trans (Sub.app_nil _) (Sub.tuple (Sub.vals (.mk (ptSub _ _ _) (.mk (SubV.refl _) .nl)))), rfl, rfl⟩
        · have h1 : placeN l k = l.length := by omega
          repeat' (first | with_reducible apply Stp.go | with_reducible refine imp fun _ => ?_ | (with_reducible refine hyp ?_ ?_; first | assumption | exact leftT_mem (by assumption)) | (with_reducible refine need ?_ ?_; first | trivial | omega | exact ⟨by assumption, by omega⟩ | (simp only [List.length_append, List.length_cons, List.length_nil, List.length_map, List.length_take, List.length_drop, List.length_replicate, List.length_set]; omega)) | (with_reducible refine fact ?_ ?_; first | trivial | exact ⟨rfl, rfl⟩ | kernel_rfl) | with_reducible refine choT (by assumption) ?_ | with_reducible refine choF (by assumption) ?_ | with_reducible refine choF' (by assumption) ?_ | (with_reducible refine altT ?_ ?_; first | omega | (simp only [List.length_append, List.length_cons, List.length_nil, List.length_map, List.length_take, List.length_drop, List.length_replicate, List.length_set]; omega)) | with_reducible refine altF ?_ | with_reducible refine all fun _ => ?_ | with_reducible refine both ?_ ?_ | (with_reducible refine choT ?_ ?_; omega) | (with_reducible refine choF ?_ ?_; omega) | with_reducible refine cho (fun _ => ?_) (fun _ => ?_))
          exact ⟨_, _, _, rfl, Sub.trans (Sub.app_nil _) (Sub.tuple (Sub.vals (.mk (ptSub _ _ _) (.mk (SubV.refl _) .nl)))), rfl, rfl⟩
      · have e : proveP b l k = (0, true, opnAt b (l.map enB) (placeN l k - 1), opnAt b (l.map enB) (placeN l k)) := by rw [proveP, if_pos hf, if_neg hk, if_neg hz]
        have h0 : ¬ placeN l k = 0 := fun h => hz (.inl h)
        have h1 : ¬ placeN l k = l.length := fun h => hz (.inr h)
        have q1 : placeN l k < (l.map enB).length ∧ (l.map enB).length ≤ 1000000 ∧ ∀ b ∈ l.map enB, b.length ≤ 100000000000000 := ⟨by omega, hL, hb⟩
        have q2 : placeN l k - 1 < (l.map enB).length ∧ (l.map enB).length ≤ 1000000 ∧ ∀ b ∈ l.map enB, b.length ≤ 100000000000000 := ⟨by omega, hL, hb⟩
        rw [e]
        repeat' (first | with_reducible apply Stp.go | with_reducible refine imp fun _ => ?_ | (with_reducible refine hyp ?_ ?_; first | assumption | exact leftT_mem (by assumption)) | (with_reducible refine need ?_ ?_; first | trivial | omega | exact ⟨by assumption, by omega⟩ | (simp only [List.length_append, List.length_cons, List.length_nil, List.length_map, List.length_take, List.length_drop, List.length_replicate, List.length_set]; omega)) | (with_reducible refine fact ?_ ?_; first | trivial | exact ⟨rfl, rfl⟩ | kernel_rfl) | with_reducible refine choT (by assumption) ?_ | with_reducible refine choF (by assumption) ?_ | with_reducible refine choF' (by assumption) ?_ | (with_reducible refine altT ?_ ?_; first | omega | (simp only [List.length_append, List.length_cons, List.length_nil, List.length_map, List.length_take, List.length_drop, List.length_replicate, List.length_set]; omega)) | with_reducible refine altF ?_ | with_reducible refine all fun _ => ?_ | with_reducible refine both ?_ ?_ | (with_reducible refine choT ?_ ?_; omega) | (with_reducible refine choF ?_ ?_; omega) | with_reducible refine cho (fun _ => ?_) (fun _ => ?_))
        refine litFill (cs := [.val (.bool true), I .i64 (placeN l k - 1 : Nat), bl ((l.map enB).getD (placeN l k - 1) default), .lst 32 ((pathD b (l.map enB) (placeN l k - 1)).map dgF) .ro, I .i64 (placeN l k : Nat), bl ((l.map enB).getD (placeN l k) default), .lst 32 ((pathD b (l.map enB) (placeN l k)).map dgF) .ro]) ?_ rfl ?_
        · intro p hp c hc
          simp only [List.mem_cons, List.not_mem_nil, or_false] at hp
          rcases hp with rfl | rfl | rfl
          · rw [List.mem_singleton.1 hc]; rfl
          · simp only [AV.cells, List.mem_cons, List.not_mem_nil, or_false] at hc
            rcases hc with rfl | rfl | rfl <;> rfl
          · simp only [AV.cells, List.mem_cons, List.not_mem_nil, or_false] at hc
            rcases hc with rfl | rfl | rfl <;> rfl
        repeat' (first | with_reducible apply Stp.go | with_reducible refine imp fun _ => ?_ | (with_reducible refine hyp ?_ ?_; first | assumption | exact leftT_mem (by assumption)) | (with_reducible refine need ?_ ?_; first | trivial | omega | exact ⟨by assumption, by omega⟩ | (simp only [List.length_append, List.length_cons, List.length_nil, List.length_map, List.length_take, List.length_drop, List.length_replicate, List.length_set]; omega)) | (with_reducible refine fact ?_ ?_; first | trivial | exact ⟨rfl, rfl⟩ | kernel_rfl) | with_reducible refine choT (by assumption) ?_ | with_reducible refine choF (by assumption) ?_ | with_reducible refine choF' (by assumption) ?_ | (with_reducible refine altT ?_ ?_; first | omega | (simp only [List.length_append, List.length_cons, List.length_nil, List.length_map, List.length_take, List.length_drop, List.length_replicate, List.length_set]; omega)) | with_reducible refine altF ?_ | with_reducible refine all fun _ => ?_ | with_reducible refine both ?_ ?_ | (with_reducible refine choT ?_ ?_; omega) | (with_reducible refine choF ?_ ?_; omega) | with_reducible refine cho (fun _ => ?_) (fun _ => ?_))
        exact ⟨_, _, _, rfl, Sub.app_nil _, rfl, rfl⟩
  · have e : proveP b l k = (1, false, opn0, opn0) := by rw [proveP, if_neg hf]
    rw [e]
    repeat' (first | with_reducible apply Stp.go | with_reducible refine imp fun _ => ?_ | (with_reducible refine hyp ?_ ?_; first | assumption | exact leftT_mem (by assumption)) | (with_reducible refine need ?_ ?_; first | trivial | omega | exact ⟨by assumption, by omega⟩ | (simp only [List.length_append, List.length_cons, List.length_nil, List.length_map, List.length_take, List.length_drop, List.length_replicate, List.length_set]; omega)) | (with_reducible refine fact ?_ ?_; first | trivial | exact ⟨rfl, rfl⟩ | kernel_rfl) | with_reducible refine choT (by assumption) ?_ | with_reducible refine choF (by assumption) ?_ | with_reducible refine choF' (by assumption) ?_ | (with_reducible refine altT ?_ ?_; first | omega | (simp only [List.length_append, List.length_cons, List.length_nil, List.length_map, List.length_take, List.length_drop, List.length_replicate, List.length_set]; omega)) | with_reducible refine altF ?_ | with_reducible refine all fun _ => ?_ | with_reducible refine both ?_ ?_ | (with_reducible refine choT ?_ ?_; omega) | (with_reducible refine choF ?_ ?_; omega) | with_reducible refine cho (fun _ => ?_) (fun _ => ?_))
    exact ⟨_, _, _, rfl, Sub.trans (Sub.app_nil _) (Sub.tuple (Sub.vals (.mk (ptSub _ _ _) (.mk (SubV.refl _) .nl)))), rfl, rfl⟩
instance {a : AV} {l : List En} {m : SM} {b : Int} {k : List UInt8} [h : IsL a En.av 4 l m] : PC Go.Proofs.Try.prog 12 [trA b, a, S k] (l.length ≤ 1000000) (.tuple [ptA (proveP b l k).2.1 (proveP b l k).2.2.1 (proveP b l k).2.2.2, I .i64 ((proveP b l k).1 : Nat)]) := ⟨fun hl => ⟨[trA b, .lst 4 (l.map En.av) m, S k], ⟨SubV.refl _, h.sub, SubV.refl _, trivial⟩, Prove_ok b l m k hl⟩⟩
end Go.Ab
