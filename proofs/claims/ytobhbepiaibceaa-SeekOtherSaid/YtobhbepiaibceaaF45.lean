/- What stands beside a leaf. -/
import Derived.Test.YtobhbepiaibceaaF44
set_option linter.unusedVariables false
set_option linter.unusedSimpArgs false
namespace Go.Ab
/-- Thirty-two bytes. -/
structure D32 where
  val : List UInt8
  len : val.length = 32
instance : Inhabited D32 := ⟨⟨List.replicate 32 0, by simp⟩⟩
instance (d : D32) : Len32 d.val := ⟨d.len⟩
abbrev DgT : TypeId := 46
abbrev dgF (d : D32) : AV := dgA d.val
instance : Enc dgF 32 := ⟨fun d => ⟨by simp [AV.cells, d.len], fun c hc => by
  obtain ⟨y, _, rfl⟩ := List.mem_map.1 (show c ∈ d.val.map byt from hc)
  rfl⟩, by decide, fun d => by
  show mkE (d.val.map byt) = .agg (d.val.map byt)
  have h := d.len
  unfold mkE
  split
  · rename_i c e
    have := congrArg List.length e
    simp [h] at this
  · rfl⟩
instance (d : List UInt8) [h : Len32 d] : AsF dgF (.agg (d.map byt)) ⟨d, h.len⟩ := ⟨rfl⟩
instance : ElemF [.val (.int .u8 0), .val (.int .u8 0), .val (.int .u8 0), .val (.int .u8 0), .val (.int .u8 0), .val (.int .u8 0), .val (.int .u8 0), .val (.int .u8 0), .val (.int .u8 0), .val (.int .u8 0), .val (.int .u8 0), .val (.int .u8 0), .val (.int .u8 0), .val (.int .u8 0), .val (.int .u8 0), .val (.int .u8 0), .val (.int .u8 0), .val (.int .u8 0), .val (.int .u8 0), .val (.int .u8 0), .val (.int .u8 0), .val (.int .u8 0), .val (.int .u8 0), .val (.int .u8 0), .val (.int .u8 0), .val (.int .u8 0), .val (.int .u8 0), .val (.int .u8 0), .val (.int .u8 0), .val (.int .u8 0), .val (.int .u8 0), .val (.int .u8 0)] D32 dgF := ⟨trivial⟩
/-- A root, as thirty-two bytes. -/
abbrev rootF (b : Int) (L : List (List UInt8)) : D32 := ⟨rootD b L, Len32.len⟩
/-- What stands beside a leaf. -/
def pathD (b : Int) (L : List (List UInt8)) (i : Nat) : List D32 :=
  if h : L.length ≤ 1 then []
  else if i < halfN L.length then pathD b (L.take (halfN L.length)) i ++ [rootF b (L.drop (halfN L.length))]
  else pathD b (L.drop (halfN L.length)) (i - halfN L.length) ++ [rootF b (L.take (halfN L.length))]
termination_by L.length
decreasing_by
  · have := halfN_lt (n := L.length) (by omega); simp only [List.length_take]; omega
  · have := halfN_lt (n := L.length) (by omega); simp only [List.length_drop]; omega
theorem pathD_le (b : Int) : ∀ (n : Nat) (L : List (List UInt8)) (i : Nat), L.length = n → (pathD b L i).length ≤ n := by
  intro n
  induction n using Nat.strongRecOn with
  | _ n ih =>
    intro L i hn
    unfold pathD
    split
    · simp
    · rename_i h
      have hh := halfN_lt (n := L.length) (by omega)
      split
      · have := ih (L.take (halfN L.length)).length (by simp; omega) _ i rfl
        simp at this ⊢; omega
      · have := ih (L.drop (halfN L.length)).length (by simp; omega) _ (i - halfN L.length) rfl
        simp at this ⊢; omega
def tree_Tree_path.mark : Mark := ⟨fun t => false, fun t => false, fun t => Nat.beq t 3, fun t => Nat.beq t 17 || Nat.beq t 23 || Nat.beq t 30 || Nat.beq t 38, fun t => false⟩
def tree_Tree_path.ann : Ann := ⟨fun n => [], fun n => none, fun n => none⟩
/-- '(marlstone/tree.Tree).path' -/
def tree_Tree_path.sh (a0 a1 a2 : AV) (σ : Store) (Q : AEnd → Store → Prop) : Prop :=
  Do (aFreeze ((a0 : AV)).cells) fun t3 =>
  Do (aBuiltin Go.Proofs.Try.prog .len #[37] [a1]) fun t9 =>
  Do (aBin Go.Proofs.Try.prog .eql 3 t9 (.val (.int .i64 1))) fun t10 =>
  aCond t10
    (Q (.ret (.val (.slice none 0 0))) σ)
    (Do (aBuiltin Go.Proofs.Try.prog .len #[37] [a1]) fun t12 =>
  aCall Go.Proofs.Try.prog 100 [t12] σ (fun t13 σ =>
  Do (aBin Go.Proofs.Try.prog .lss 3 a2 t13) fun t16 =>
  aCond t16
    (Do (loadF true 1 t3) fun t17 =>
    Do (aSlice .slice 1 a1 none (some t13) none) fun t20 =>
    Do (loadF true 1 t3) fun t23 =>
    Do (aSlice .slice 1 a1 (some t13) none none) fun t26 =>
    aCall Go.Proofs.Try.prog 108 [t17, t20, a2] σ (fun t22 σ_1 =>
    aCall Go.Proofs.Try.prog 62 [t23, t26] σ_1 (fun t27 σ_2 =>
    Do (aSlLit (mkE [.val (.int .u8 0), .val (.int .u8 0), .val (.int .u8 0), .val (.int .u8 0), .val (.int .u8 0), .val (.int .u8 0), .val (.int .u8 0), .val (.int .u8 0), .val (.int .u8 0), .val (.int .u8 0), .val (.int .u8 0), .val (.int .u8 0), .val (.int .u8 0), .val (.int .u8 0), .val (.int .u8 0), .val (.int .u8 0), .val (.int .u8 0), .val (.int .u8 0), .val (.int .u8 0), .val (.int .u8 0), .val (.int .u8 0), .val (.int .u8 0), .val (.int .u8 0), .val (.int .u8 0), .val (.int .u8 0), .val (.int .u8 0), .val (.int .u8 0), .val (.int .u8 0), .val (.int .u8 0), .val (.int .u8 0), .val (.int .u8 0), .val (.int .u8 0)]) 32 1 [(0, t27)]) fun t28 =>
    aAppend 46 32 32 t22 t28 σ_2 (subK fun t29 σ_3 =>
    Q (.ret t29) σ_3)) (fun e σ_4 => Q (.pan e) σ_4)) (fun e_1 σ_5 => Q (.pan e_1) σ_5))
    (Do (loadF true 1 t3) fun t30 =>
  Do (aSlice .slice 1 a1 (some t13) none none) fun t33 =>
  Do (aBin Go.Proofs.Try.prog .sub 3 a2 t13) fun t36 =>
  Do (loadF true 1 t3) fun t38 =>
  Do (aSlice .slice 1 a1 none (some t13) none) fun t41 =>
  aCall Go.Proofs.Try.prog 108 [t30, t33, t36] σ (fun t37 σ_6 =>
  aCall Go.Proofs.Try.prog 62 [t38, t41] σ_6 (fun t42 σ_7 =>
  Do (aSlLit (mkE [.val (.int .u8 0), .val (.int .u8 0), .val (.int .u8 0), .val (.int .u8 0), .val (.int .u8 0), .val (.int .u8 0), .val (.int .u8 0), .val (.int .u8 0), .val (.int .u8 0), .val (.int .u8 0), .val (.int .u8 0), .val (.int .u8 0), .val (.int .u8 0), .val (.int .u8 0), .val (.int .u8 0), .val (.int .u8 0), .val (.int .u8 0), .val (.int .u8 0), .val (.int .u8 0), .val (.int .u8 0), .val (.int .u8 0), .val (.int .u8 0), .val (.int .u8 0), .val (.int .u8 0), .val (.int .u8 0), .val (.int .u8 0), .val (.int .u8 0), .val (.int .u8 0), .val (.int .u8 0), .val (.int .u8 0), .val (.int .u8 0), .val (.int .u8 0)]) 32 1 [(0, t42)]) fun t43 =>
  aAppend 46 32 32 t37 t43 σ_7 (subK fun t44 σ_8 =>
  Q (.ret t44) σ_8)) (fun e_2 σ_9 => Q (.pan e_2) σ_9)) (fun e_3 σ_10 => Q (.pan e_3) σ_10))) (fun e_4 σ_11 => Q (.pan e_4) σ_11))
theorem tree_Tree_path.eq (a0 a1 a2 : AV) (σ : Store) (Q : AEnd → Store → Prop) : vc (semOf Go.Proofs.Try.prog tree_Tree_path.mark) Go.Proofs.Try.f108.ntmps tree_Tree_path.ann (bodyOf Go.Proofs.Try.f108) (endK [.tmp 6] Q) (argFr [a0, a1, a2]) σ = tree_Tree_path.sh a0 a1 a2 σ Q := by kernel_rfl
theorem tree_Tree_path.go {a0 a1 a2 : AV} {σ : Store} {Q : AEnd → Store → Prop} (h : tree_Tree_path.sh a0 a1 a2 σ Q) : ACalls Go.Proofs.Try.prog 108 [a0, a1, a2] σ Q :=
  acalls_of_eq [.tmp 6] Go.Proofs.Try.func108 (by kernel_rfl) (by kernel_rfl) (by kernel_rfl) (by kernel_rfl) (tree_Tree_path.eq a0 a1 a2 σ Q) h
def tree_Tree_Path.mark : Mark := ⟨fun t => false, fun t => false, fun t => Nat.beq t 3, fun t => Nat.beq t 16, fun t => false⟩
def tree_Tree_Path.ann : Ann := ⟨fun n => [], fun n => none, fun n => none⟩
/-- '(marlstone/tree.Tree).Path' -/
def tree_Tree_Path.sh (a0 a1 a2 : AV) (σ : Store) (Q : AEnd → Store → Prop) : Prop :=
  Do (aFreeze ((a0 : AV)).cells) fun t3 =>
  Do (aBin Go.Proofs.Try.prog .lss 3 a2 (.val (.int .i64 0))) fun t9 =>
  Do (aGuard t9 false (aIs a2)) fun t11 =>
  Do (aGuard t9 false (aIs a1)) fun t12 =>
  Do (aGuard t9 false (aBuiltin Go.Proofs.Try.prog .len #[37] [t12])) fun t13 =>
  Do (aGuard t9 false (aBin Go.Proofs.Try.prog .geq 3 t11 t13)) fun t14 =>
  Do (aPick t9 (.val (.bool true)) t14) fun t15 =>
  aCond t15
    (Q (.ret (.tuple [(.val (.slice none 0 0)), (.val (.int .i64 1))])) σ)
    (Do (loadF true 1 t3) fun t16 =>
  aCall Go.Proofs.Try.prog 108 [t16, a1, a2] σ (fun t19 σ =>
  Q (.ret (.tuple [t19, (.val (.int .i64 0))])) σ) (fun e σ_1 => Q (.pan e) σ_1))
theorem tree_Tree_Path.eq (a0 a1 a2 : AV) (σ : Store) (Q : AEnd → Store → Prop) : vc (semOf Go.Proofs.Try.prog tree_Tree_Path.mark) Go.Proofs.Try.f86.ntmps tree_Tree_Path.ann (bodyOf Go.Proofs.Try.f86) (endK [.tmp 6, .tmp 7] Q) (argFr [a0, a1, a2]) σ = tree_Tree_Path.sh a0 a1 a2 σ Q := by kernel_rfl
theorem tree_Tree_Path.go {a0 a1 a2 : AV} {σ : Store} {Q : AEnd → Store → Prop} (h : tree_Tree_Path.sh a0 a1 a2 σ Q) : ACalls Go.Proofs.Try.prog 86 [a0, a1, a2] σ Q :=
  acalls_of_eq [.tmp 6, .tmp 7] Go.Proofs.Try.func86 (by kernel_rfl) (by kernel_rfl) (by kernel_rfl) (by kernel_rfl) (tree_Tree_Path.eq a0 a1 a2 σ Q) h
theorem path_ok (bits : Int) : ∀ (n : Nat) (L : List (List UInt8)) (m : SM) (i : Nat), L.length = n → i < L.length → L.length ≤ 1000000 → (∀ b ∈ L, b.length ≤ 100000000000000) →
    ACalls Go.Proofs.Try.prog 108 [trA bits, .lst 1 (L.map bl) m, I .i64 (i : Nat)] [] fun x σ' => ∃ v, x = .ret (.own v (pathD bits L i).length) ∧ σ' = [.row v DgT 32 ((pathD bits L i).map dgF) 0] := by
  intro n
  induction n using Nat.strongRecOn with
  | _ n ih =>
    intro L m i hn hi hL hb
    refine ACalls.fin (tree_Tree_path.go ?_)
    unfold tree_Tree_path.sh
    have inst : ∀ (L' : List (List UInt8)) (m' : SM) (i' : Nat) (σ : Store), EC Go.Proofs.Try.prog 108 [trA bits, .lst 1 (L'.map bl) m', I .i64 (i' : Nat)] σ (L'.length < n ∧ i' < L'.length ∧ L'.length ≤ 1000000 ∧ ∀ b ∈ L', b.length ≤ 100000000000000) Value (fun v => .own v (pathD bits L' i').length) (fun v => .row v DgT 32 ((pathD bits L' i').map dgF) 0 :: σ) := fun L' m' i' σ => ⟨fun h => ((ih L'.length h.1 L' m' i' rfl h.2.1 h.2.2.1 h.2.2.2).frame σ).mono fun x τ ⟨σ1, e1, _, v, e2, e3⟩ => ⟨v, e2, by rw [e1, e3]; rfl⟩⟩
    by_cases h1 : L.length = 1
    · have e : pathD bits L i = [] := by unfold pathD; rw [dif_pos (by omega)]
      rw [e]
      repeat' (first | with_reducible apply Stp.go | with_reducible refine imp fun _ => ?_ | (with_reducible refine hyp ?_ ?_; first | assumption | exact leftT_mem (by assumption)) | (with_reducible refine need ?_ ?_; first | trivial | omega | exact ⟨by assumption, by omega⟩ | (simp only [List.length_append, List.length_cons, List.length_nil, List.length_map, List.length_take, List.length_drop, List.length_replicate, List.length_set]; omega)) | (with_reducible refine fact ?_ ?_; first | trivial | exact ⟨rfl, rfl⟩ | kernel_rfl) | with_reducible refine choT (by assumption) ?_ | with_reducible refine choF (by assumption) ?_ | with_reducible refine choF' (by assumption) ?_ | (with_reducible refine altT ?_ ?_; first | omega | (simp only [List.length_append, List.length_cons, List.length_nil, List.length_map, List.length_take, List.length_drop, List.length_replicate, List.length_set]; omega)) | with_reducible refine altF ?_ | with_reducible refine all fun _ => ?_ | with_reducible refine both ?_ ?_ | (with_reducible refine choT ?_ ?_; omega) | (with_reducible refine choF ?_ ?_; omega) | with_reducible refine cho (fun _ => ?_) (fun _ => ?_))
      exact ⟨_, _, _, rfl, Sub.nil_own DgT (sz := 32) (by decide) [] [] [], _, rfl, rfl⟩
    · have hh := halfN_lt (n := L.length) (by omega)
      have b1 : ∀ b ∈ L.take (halfN L.length), b.length ≤ 100000000000000 := fun b h => hb b (List.mem_of_mem_take h)
      have b2 : ∀ b ∈ L.drop (halfN L.length), b.length ≤ 100000000000000 := fun b h => hb b (List.mem_of_mem_drop h)
      have l1 : (L.take (halfN L.length)).length = halfN L.length := by rw [List.length_take]; omega
      have l2 : (L.drop (halfN L.length)).length = L.length - halfN L.length := by rw [List.length_drop]
      have r1 : (L.take (halfN L.length)).length ≤ 1000000 ∧ ∀ b ∈ L.take (halfN L.length), b.length ≤ 100000000000000 := ⟨by omega, b1⟩
      have r2 : (L.drop (halfN L.length)).length ≤ 1000000 ∧ ∀ b ∈ L.drop (halfN L.length), b.length ≤ 100000000000000 := ⟨by omega, b2⟩
      by_cases h2 : i < halfN L.length
      · have e : pathD bits L i = pathD bits (L.take (halfN L.length)) i ++ [rootF bits (L.drop (halfN L.length))] := by
          conv => lhs; unfold pathD
          rw [dif_neg (by omega), if_pos h2]
        have p1 : (L.take (halfN L.length)).length < n ∧ i < (L.take (halfN L.length)).length ∧ (L.take (halfN L.length)).length ≤ 1000000 ∧ ∀ b ∈ L.take (halfN L.length), b.length ≤ 100000000000000 := ⟨by omega, by omega, by omega, b1⟩
        have q1 := pathD_le bits _ (L.take (halfN L.length)) i rfl
        rw [e]
        repeat' (first | with_reducible apply Stp.go | with_reducible refine imp fun _ => ?_ | (with_reducible refine hyp ?_ ?_; first | assumption | exact leftT_mem (by assumption)) | (with_reducible refine need ?_ ?_; first | trivial | omega | exact ⟨by assumption, by omega⟩ | (simp only [List.length_append, List.length_cons, List.length_nil, List.length_map, List.length_take, List.length_drop, List.length_replicate, List.length_set]; omega)) | (with_reducible refine fact ?_ ?_; first | trivial | exact ⟨rfl, rfl⟩ | kernel_rfl) | with_reducible refine choT (by assumption) ?_ | with_reducible refine choF (by assumption) ?_ | with_reducible refine choF' (by assumption) ?_ | (with_reducible refine altT ?_ ?_; first | omega | (simp only [List.length_append, List.length_cons, List.length_nil, List.length_map, List.length_take, List.length_drop, List.length_replicate, List.length_set]; omega)) | with_reducible refine altF ?_ | with_reducible refine all fun _ => ?_ | with_reducible refine both ?_ ?_ | (with_reducible refine choT ?_ ?_; omega) | (with_reducible refine choF ?_ ?_; omega) | with_reducible refine cho (fun _ => ?_) (fun _ => ?_))
        exact ⟨_, _, _, rfl, Sub.refl _ _, _, rfl, rfl⟩
      · have e : pathD bits L i = pathD bits (L.drop (halfN L.length)) (i - halfN L.length) ++ [rootF bits (L.take (halfN L.length))] := by
          conv => lhs; unfold pathD
          rw [dif_neg (by omega), if_neg h2]
        have p1 : (L.drop (halfN L.length)).length < n ∧ i - halfN L.length < (L.drop (halfN L.length)).length ∧ (L.drop (halfN L.length)).length ≤ 1000000 ∧ ∀ b ∈ L.drop (halfN L.length), b.length ≤ 100000000000000 := ⟨by omega, by omega, by omega, b2⟩
        have q1 := pathD_le bits _ (L.drop (halfN L.length)) (i - halfN L.length) rfl
        rw [e]
        repeat' (first | with_reducible apply Stp.go | with_reducible refine imp fun _ => ?_ | (with_reducible refine hyp ?_ ?_; first | assumption | exact leftT_mem (by assumption)) | (with_reducible refine need ?_ ?_; first | trivial | omega | exact ⟨by assumption, by omega⟩ | (simp only [List.length_append, List.length_cons, List.length_nil, List.length_map, List.length_take, List.length_drop, List.length_replicate, List.length_set]; omega)) | (with_reducible refine fact ?_ ?_; first | trivial | exact ⟨rfl, rfl⟩ | kernel_rfl) | with_reducible refine choT (by assumption) ?_ | with_reducible refine choF (by assumption) ?_ | with_reducible refine choF' (by assumption) ?_ | (with_reducible refine altT ?_ ?_; first | omega | (simp only [List.length_append, List.length_cons, List.length_nil, List.length_map, List.length_take, List.length_drop, List.length_replicate, List.length_set]; omega)) | with_reducible refine altF ?_ | with_reducible refine all fun _ => ?_ | with_reducible refine both ?_ ?_ | (with_reducible refine choT ?_ ?_; omega) | (with_reducible refine choF ?_ ?_; omega) | with_reducible refine cho (fun _ => ?_) (fun _ => ?_))
        exact ⟨_, _, _, rfl, Sub.refl _ _, _, rfl, rfl⟩
theorem Path_ok (bits : Int) (L : List (List UInt8)) (m : SM) (i : Nat) (hi : i < L.length) (hL : L.length ≤ 1000000) (hb : ∀ b ∈ L, b.length ≤ 100000000000000) :
    aPure Go.Proofs.Try.prog 86 [trA bits, .lst 1 (L.map bl) m, I .i64 (i : Nat)] (.tuple [.lst 32 ((pathD bits L i).map dgF) .ro, I .i64 0]) := by
  refine ACalls.fin (tree_Tree_Path.go ?_)
  unfold tree_Tree_Path.sh
  have inst : ∀ σ : Store, EC Go.Proofs.Try.prog 108 [trA bits, .lst 1 (L.map bl) m, I .i64 (i : Nat)] σ True Value (fun v => .own v (pathD bits L i).length) (fun v => .row v DgT 32 ((pathD bits L i).map dgF) 0 :: σ) := fun σ => ⟨fun h => ((path_ok bits _ L m i rfl hi hL hb).frame σ).mono fun x τ ⟨σ1, e1, _, v, e2, e3⟩ => ⟨v, e2, by rw [e1, e3]; rfl⟩⟩
  repeat' (first | with_reducible apply Stp.go | with_reducible refine imp fun _ => ?_ | (with_reducible refine hyp ?_ ?_; first | assumption | exact leftT_mem (by assumption)) | (with_reducible refine need ?_ ?_; first | trivial | omega | exact ⟨by assumption, by omega⟩ | (simp only [List.length_append, List.length_cons, List.length_nil, List.length_map, List.length_take, List.length_drop, List.length_replicate, List.length_set]; omega)) | (with_reducible refine fact ?_ ?_; first | trivial | exact ⟨rfl, rfl⟩ | kernel_rfl) | with_reducible refine choT (by assumption) ?_ | with_reducible refine choF (by assumption) ?_ | with_reducible refine choF' (by assumption) ?_ | (with_reducible refine altT ?_ ?_; first | omega | (simp only [List.length_append, List.length_cons, List.length_nil, List.length_map, List.length_take, List.length_drop, List.length_replicate, List.length_set]; omega)) | with_reducible refine altF ?_ | with_reducible refine all fun _ => ?_ | with_reducible refine both ?_ ?_ | (with_reducible refine choT ?_ ?_; omega) | (with_reducible refine choF ?_ ?_; omega) | with_reducible refine cho (fun _ => ?_) (fun _ => ?_))
  exact ⟨_, _, _, rfl, Sub.tuple (retOwn (Sub.refl _ _)), rfl, rfl⟩
instance {a : AV} {L : List (List UInt8)} {m : SM} {b : Int} {i : Nat} [h : IsL a bl 1 L m] : PC Go.Proofs.Try.prog 86 [trA b, a, I .i64 (i : Nat)] (i < L.length ∧ L.length ≤ 1000000 ∧ ∀ b ∈ L, b.length ≤ 100000000000000) (.tuple [.lst 32 ((pathD b L i).map dgF) .ro, I .i64 0]) := ⟨fun hl => ⟨[trA b, .lst 1 (L.map bl) m, I .i64 (i : Nat)], ⟨SubV.refl _, h.sub, SubV.refl _, trivial⟩, Path_ok b L m i hl.1 hl.2.1 hl.2.2⟩⟩
/-- What stands beside some leaves. -/
def bsD (b : Int) (L : List (List UInt8)) (p q : Int) : List D32 :=
  if q ≤ 0 ∨ (L.length : Int) ≤ p then [rootF b L]
  else if h : L.length ≤ 1 then []
  else bsD b (L.take (halfN L.length)) p q ++ bsD b (L.drop (halfN L.length)) (p - (halfN L.length : Nat)) (q - (halfN L.length : Nat))
termination_by L.length
decreasing_by
  · have := halfN_lt (n := L.length) (by omega); simp only [List.length_take]; omega
  · have := halfN_lt (n := L.length) (by omega); simp only [List.length_drop]; omega
theorem bsD_le (b : Int) : ∀ (n : Nat) (L : List (List UInt8)) (p q : Int), L.length = n → 0 < n → (bsD b L p q).length ≤ n := by
  intro n
  induction n using Nat.strongRecOn with
  | _ n ih =>
    intro L p q hn h0
    unfold bsD
    split
    · simp; omega
    · split
      · simp
      · rename_i h
        have hh := halfN_lt (n := L.length) (by omega)
        have l1 : (L.take (halfN L.length)).length = halfN L.length := by rw [List.length_take]; omega
        have l2 : (L.drop (halfN L.length)).length = L.length - halfN L.length := by rw [List.length_drop]
        have i1 := ih _ (by omega) (L.take (halfN L.length)) p q rfl (by omega)
        have i2 := ih _ (by omega) (L.drop (halfN L.length)) (p - (halfN L.length : Nat)) (q - (halfN L.length : Nat)) rfl (by omega)
        rw [List.length_append]
        omega
def tree_Tree_beside.mark : Mark := ⟨fun t => false, fun t => false, fun t => Nat.beq t 5, fun t => Nat.beq t 22 || Nat.beq t 35 || Nat.beq t 43, fun t => false⟩
def tree_Tree_beside.ann : Ann := ⟨fun n => [], fun n => none, fun n => none⟩
/-- '(marlstone/tree.Tree).beside' -/
def tree_Tree_beside.sh (a0 a1 a2 a3 a4 : AV) (σ : Store) (Q : AEnd → Store → Prop) : Prop :=
  Do (aFreeze ((a0 : AV)).cells) fun t5 =>
  Do (aBin Go.Proofs.Try.prog .leq 3 a4 (.val (.int .i64 0))) fun t14 =>
  Do (aGuard t14 false (aIs a3)) fun t16 =>
  Do (aGuard t14 false (aIs a2)) fun t17 =>
  Do (aGuard t14 false (aBuiltin Go.Proofs.Try.prog .len #[37] [t17])) fun t18 =>
  Do (aGuard t14 false (aBin Go.Proofs.Try.prog .geq 3 t16 t18)) fun t19 =>
  Do (aPick t14 (.val (.bool true)) t19) fun t20 =>
  aCond t20
    (Do (loadF true 1 t5) fun t22 =>
    aCall Go.Proofs.Try.prog 62 [t22, a2] σ (fun t24 σ =>
    Do (aSlLit (mkE [.val (.int .u8 0), .val (.int .u8 0), .val (.int .u8 0), .val (.int .u8 0), .val (.int .u8 0), .val (.int .u8 0), .val (.int .u8 0), .val (.int .u8 0), .val (.int .u8 0), .val (.int .u8 0), .val (.int .u8 0), .val (.int .u8 0), .val (.int .u8 0), .val (.int .u8 0), .val (.int .u8 0), .val (.int .u8 0), .val (.int .u8 0), .val (.int .u8 0), .val (.int .u8 0), .val (.int .u8 0), .val (.int .u8 0), .val (.int .u8 0), .val (.int .u8 0), .val (.int .u8 0), .val (.int .u8 0), .val (.int .u8 0), .val (.int .u8 0), .val (.int .u8 0), .val (.int .u8 0), .val (.int .u8 0), .val (.int .u8 0), .val (.int .u8 0)]) 32 1 [(0, t24)]) fun t25 =>
    aAppend 46 32 32 a1 t25 σ (subK fun t26 σ_1 =>
    Q (.ret t26) σ_1)) (fun e σ_2 => Q (.pan e) σ_2))
    (Do (aBuiltin Go.Proofs.Try.prog .len #[37] [a2]) fun t29 =>
    Do (aBin Go.Proofs.Try.prog .eql 3 t29 (.val (.int .i64 1))) fun t30 =>
    aCond t30
      (Q (.ret a1) σ)
      (Do (aBuiltin Go.Proofs.Try.prog .len #[37] [a2]) fun t33 =>
  aCall Go.Proofs.Try.prog 100 [t33] σ (fun t34 σ_3 =>
  Do (loadF true 1 t5) fun t35 =>
  Do (aSlice .slice 1 a2 none (some t34) none) fun t39 =>
  aCall Go.Proofs.Try.prog 90 [t35, a1, t39, a3, a4] σ_3 (fun t42 σ_4 =>
  Do (loadF true 1 t5) fun t43 =>
  Do (aSlice .slice 1 a2 (some t34) none none) fun t47 =>
  Do (aBin Go.Proofs.Try.prog .sub 3 a3 t34) fun t50 =>
  Do (aBin Go.Proofs.Try.prog .sub 3 a4 t34) fun t53 =>
  aCall Go.Proofs.Try.prog 90 [t43, t42, t47, t50, t53] σ_4 (fun t54 σ_5 =>
  Q (.ret t54) σ_5) (fun e_1 σ_6 => Q (.pan e_1) σ_6)) (fun e_2 σ_7 => Q (.pan e_2) σ_7)) (fun e_3 σ_8 => Q (.pan e_3) σ_8)))
theorem tree_Tree_beside.eq (a0 a1 a2 a3 a4 : AV) (σ : Store) (Q : AEnd → Store → Prop) : vc (semOf Go.Proofs.Try.prog tree_Tree_beside.mark) Go.Proofs.Try.f90.ntmps tree_Tree_beside.ann (bodyOf Go.Proofs.Try.f90) (endK [.tmp 10] Q) (argFr [a0, a1, a2, a3, a4]) σ = tree_Tree_beside.sh a0 a1 a2 a3 a4 σ Q := by kernel_rfl
theorem tree_Tree_beside.go {a0 a1 a2 a3 a4 : AV} {σ : Store} {Q : AEnd → Store → Prop} (h : tree_Tree_beside.sh a0 a1 a2 a3 a4 σ Q) : ACalls Go.Proofs.Try.prog 90 [a0, a1, a2, a3, a4] σ Q :=
  acalls_of_eq [.tmp 10] Go.Proofs.Try.func90 (by kernel_rfl) (by kernel_rfl) (by kernel_rfl) (by kernel_rfl) (tree_Tree_beside.eq a0 a1 a2 a3 a4 σ Q) h
def tree_Tree_Range.mark : Mark := ⟨fun t => false, fun t => false, fun t => Nat.beq t 4, fun t => Nat.beq t 23, fun t => false⟩
def tree_Tree_Range.ann : Ann := ⟨fun n => [], fun n => none, fun n => none⟩
/-- '(marlstone/tree.Tree).Range' -/
def tree_Tree_Range.sh (a0 a1 a2 a3 : AV) (σ : Store) (Q : AEnd → Store → Prop) : Prop :=
  Do (aFreeze ((a0 : AV)).cells) fun t4 =>
  Do (aBin Go.Proofs.Try.prog .lss 3 a2 (.val (.int .i64 0))) fun t11 =>
  Do (aGuard t11 false (aIs a2)) fun t13 =>
  Do (aGuard t11 false (aIs a3)) fun t14 =>
  Do (aGuard t11 false (aBin Go.Proofs.Try.prog .geq 3 t13 t14)) fun t15 =>
  Do (aPick t11 (.val (.bool true)) t15) fun t16 =>
  Do (aGuard t16 false (aIs a3)) fun t18 =>
  Do (aGuard t16 false (aIs a1)) fun t19 =>
  Do (aGuard t16 false (aBuiltin Go.Proofs.Try.prog .len #[37] [t19])) fun t20 =>
  Do (aGuard t16 false (aBin Go.Proofs.Try.prog .gtr 3 t18 t20)) fun t21 =>
  Do (aPick t16 (.val (.bool true)) t21) fun t22 =>
  aCond t22
    (Q (.ret (.tuple [(.val (.slice none 0 0)), (.val (.int .i64 1))])) σ)
    (Do (loadF true 1 t4) fun t23 =>
  aCall Go.Proofs.Try.prog 90 [t23, (.val (.slice none 0 0)), a1, a2, a3] σ (fun t27 σ =>
  Q (.ret (.tuple [t27, (.val (.int .i64 0))])) σ) (fun e σ_1 => Q (.pan e) σ_1))
theorem tree_Tree_Range.eq (a0 a1 a2 a3 : AV) (σ : Store) (Q : AEnd → Store → Prop) : vc (semOf Go.Proofs.Try.prog tree_Tree_Range.mark) Go.Proofs.Try.f44.ntmps tree_Tree_Range.ann (bodyOf Go.Proofs.Try.f44) (endK [.tmp 8, .tmp 9] Q) (argFr [a0, a1, a2, a3]) σ = tree_Tree_Range.sh a0 a1 a2 a3 σ Q := by kernel_rfl
theorem tree_Tree_Range.go {a0 a1 a2 a3 : AV} {σ : Store} {Q : AEnd → Store → Prop} (h : tree_Tree_Range.sh a0 a1 a2 a3 σ Q) : ACalls Go.Proofs.Try.prog 44 [a0, a1, a2, a3] σ Q :=
  acalls_of_eq [.tmp 8, .tmp 9] Go.Proofs.Try.func44 (by kernel_rfl) (by kernel_rfl) (by kernel_rfl) (by kernel_rfl) (tree_Tree_Range.eq a0 a1 a2 a3 σ Q) h
theorem beside_ok (bits : Int) : ∀ (n : Nat) (L : List (List UInt8)) (m : SM) (p q : Int) (v : Value) (out : List D32), L.length = n → 0 < L.length → L.length ≤ 1000000 → (∀ b ∈ L, b.length ≤ 100000000000000) → out.length + L.length ≤ 10000000 → -10000000 ≤ p - L.length → p ≤ 10000000 → -10000000 ≤ q - L.length → q ≤ 10000000 →
    ACalls Go.Proofs.Try.prog 90 [trA bits, .own v out.length, .lst 1 (L.map bl) m, I .i64 p, I .i64 q] [.row v DgT 32 (out.map dgF) 0] fun x σ' => ∃ v', x = .ret (.own v' (out ++ bsD bits L p q).length) ∧ σ' = [.row v' DgT 32 ((out ++ bsD bits L p q).map dgF) 0] := by
  intro n
  induction n using Nat.strongRecOn with
  | _ n ih =>
    intro L m p q v out hn hi hL hb ho g1 g2 g3 g4
    refine ACalls.fin (tree_Tree_beside.go ?_)
    unfold tree_Tree_beside.sh
    have inst : ∀ (L' : List (List UInt8)) (m' : SM) (p' q' : Int) (v' : Value) (out' : List D32), EC Go.Proofs.Try.prog 90 [trA bits, .own v' out'.length, .lst 1 (L'.map bl) m', I .i64 p', I .i64 q'] [.row v' DgT 32 (out'.map dgF) 0] (L'.length < n ∧ 0 < L'.length ∧ L'.length ≤ 1000000 ∧ (∀ b ∈ L', b.length ≤ 100000000000000) ∧ out'.length + L'.length ≤ 10000000 ∧ -10000000 ≤ p' - L'.length ∧ p' ≤ 10000000 ∧ -10000000 ≤ q' - L'.length ∧ q' ≤ 10000000) Value (fun w => .own w (out' ++ bsD bits L' p' q').length) (fun w => [.row w DgT 32 ((out' ++ bsD bits L' p' q').map dgF) 0]) := fun L' m' p' q' v' out' => ⟨fun h => ih L'.length h.1 L' m' p' q' v' out' rfl h.2.1 h.2.2.1 h.2.2.2.1 h.2.2.2.2.1 h.2.2.2.2.2.1 h.2.2.2.2.2.2.1 h.2.2.2.2.2.2.2.1 h.2.2.2.2.2.2.2.2⟩
    have hLb : L.length ≤ 1000000 ∧ ∀ b ∈ L, b.length ≤ 100000000000000 := ⟨hL, hb⟩
    by_cases h0 : q ≤ 0 ∨ (L.length : Int) ≤ p
    · have e : bsD bits L p q = [rootF bits L] := by unfold bsD; rw [if_pos h0]
      rw [e]
      by_cases hq : q ≤ 0
      · repeat' (first | with_reducible apply Stp.go | with_reducible refine imp fun _ => ?_ | (with_reducible refine hyp ?_ ?_; first | assumption | exact leftT_mem (by assumption)) | (with_reducible refine need ?_ ?_; first | trivial | omega | exact ⟨by assumption, by omega⟩ | (simp only [List.length_append, List.length_cons, List.length_nil, List.length_map, List.length_take, List.length_drop, List.length_replicate, List.length_set]; omega)) | (with_reducible refine fact ?_ ?_; first | trivial | exact ⟨rfl, rfl⟩ | kernel_rfl) | with_reducible refine choT (by assumption) ?_ | with_reducible refine choF (by assumption) ?_ | with_reducible refine choF' (by assumption) ?_ | (with_reducible refine altT ?_ ?_; first | omega | (simp only [List.length_append, List.length_cons, List.length_nil, List.length_map, List.length_take, List.length_drop, List.length_replicate, List.length_set]; omega)) | with_reducible refine altF ?_ | with_reducible refine all fun _ => ?_ | with_reducible refine both ?_ ?_ | (with_reducible refine choT ?_ ?_; omega) | (with_reducible refine choF ?_ ?_; omega) | with_reducible refine cho (fun _ => ?_) (fun _ => ?_))
        exact ⟨_, _, _, rfl, Sub.refl _ _, _, rfl, rfl⟩
      · have hp : (L.length : Int) ≤ p := by omega
        repeat' (first | with_reducible apply Stp.go | with_reducible refine imp fun _ => ?_ | (with_reducible refine hyp ?_ ?_; first | assumption | exact leftT_mem (by assumption)) | (with_reducible refine need ?_ ?_; first | trivial | omega | exact ⟨by assumption, by omega⟩ | (simp only [List.length_append, List.length_cons, List.length_nil, List.length_map, List.length_take, List.length_drop, List.length_replicate, List.length_set]; omega)) | (with_reducible refine fact ?_ ?_; first | trivial | exact ⟨rfl, rfl⟩ | kernel_rfl) | with_reducible refine choT (by assumption) ?_ | with_reducible refine choF (by assumption) ?_ | with_reducible refine choF' (by assumption) ?_ | (with_reducible refine altT ?_ ?_; first | omega | (simp only [List.length_append, List.length_cons, List.length_nil, List.length_map, List.length_take, List.length_drop, List.length_replicate, List.length_set]; omega)) | with_reducible refine altF ?_ | with_reducible refine all fun _ => ?_ | with_reducible refine both ?_ ?_ | (with_reducible refine choT ?_ ?_; omega) | (with_reducible refine choF ?_ ?_; omega) | with_reducible refine cho (fun _ => ?_) (fun _ => ?_))
        exact ⟨_, _, _, rfl, Sub.refl _ _, _, rfl, rfl⟩
    · have hq : ¬ q ≤ 0 := by omega
      have hp : ¬ (L.length : Int) ≤ p := by omega
      by_cases h1 : L.length = 1
      · have e : bsD bits L p q = [] := by unfold bsD; rw [if_neg h0, dif_pos (by omega)]
        rw [e, List.append_nil]
        repeat' (first | with_reducible apply Stp.go | with_reducible refine imp fun _ => ?_ | (with_reducible refine hyp ?_ ?_; first | assumption | exact leftT_mem (by assumption)) | (with_reducible refine need ?_ ?_; first | trivial | omega | exact ⟨by assumption, by omega⟩ | (simp only [List.length_append, List.length_cons, List.length_nil, List.length_map, List.length_take, List.length_drop, List.length_replicate, List.length_set]; omega)) | (with_reducible refine fact ?_ ?_; first | trivial | exact ⟨rfl, rfl⟩ | kernel_rfl) | with_reducible refine choT (by assumption) ?_ | with_reducible refine choF (by assumption) ?_ | with_reducible refine choF' (by assumption) ?_ | (with_reducible refine altT ?_ ?_; first | omega | (simp only [List.length_append, List.length_cons, List.length_nil, List.length_map, List.length_take, List.length_drop, List.length_replicate, List.length_set]; omega)) | with_reducible refine altF ?_ | with_reducible refine all fun _ => ?_ | with_reducible refine both ?_ ?_ | (with_reducible refine choT ?_ ?_; omega) | (with_reducible refine choF ?_ ?_; omega) | with_reducible refine cho (fun _ => ?_) (fun _ => ?_))
        exact ⟨_, _, _, rfl, Sub.refl _ _, _, rfl, rfl⟩
      · have hh := halfN_lt (n := L.length) (by omega)
        have e : bsD bits L p q = bsD bits (L.take (halfN L.length)) p q ++ bsD bits (L.drop (halfN L.length)) (p - (halfN L.length : Nat)) (q - (halfN L.length : Nat)) := by
          conv => lhs; unfold bsD
          rw [if_neg h0, dif_neg (by omega)]
        have b1 : ∀ b ∈ L.take (halfN L.length), b.length ≤ 100000000000000 := fun b h => hb b (List.mem_of_mem_take h)
        have b2 : ∀ b ∈ L.drop (halfN L.length), b.length ≤ 100000000000000 := fun b h => hb b (List.mem_of_mem_drop h)
        have l1 : (L.take (halfN L.length)).length = halfN L.length := by rw [List.length_take]; omega
        have l2 : (L.drop (halfN L.length)).length = L.length - halfN L.length := by rw [List.length_drop]
        have i1 := bsD_le bits _ (L.take (halfN L.length)) p q rfl (by omega)
        have p1 : (L.take (halfN L.length)).length < n ∧ 0 < (L.take (halfN L.length)).length ∧ (L.take (halfN L.length)).length ≤ 1000000 ∧ (∀ b ∈ L.take (halfN L.length), b.length ≤ 100000000000000) ∧ out.length + (L.take (halfN L.length)).length ≤ 10000000 ∧ -10000000 ≤ p - (L.take (halfN L.length)).length ∧ p ≤ 10000000 ∧ -10000000 ≤ q - (L.take (halfN L.length)).length ∧ q ≤ 10000000 := ⟨by omega, by omega, by omega, b1, by omega, by omega, by omega, by omega, by omega⟩
        have p2 : (L.drop (halfN L.length)).length < n ∧ 0 < (L.drop (halfN L.length)).length ∧ (L.drop (halfN L.length)).length ≤ 1000000 ∧ (∀ b ∈ L.drop (halfN L.length), b.length ≤ 100000000000000) ∧ (out ++ bsD bits (L.take (halfN L.length)) p q).length + (L.drop (halfN L.length)).length ≤ 10000000 ∧ -10000000 ≤ (p - (halfN L.length : Nat)) - (L.drop (halfN L.length)).length ∧ (p - (halfN L.length : Nat)) ≤ 10000000 ∧ -10000000 ≤ (q - (halfN L.length : Nat)) - (L.drop (halfN L.length)).length ∧ (q - (halfN L.length : Nat)) ≤ 10000000 := ⟨by omega, by omega, by omega, b2, by rw [List.length_append]; omega, by omega, by omega, by omega, by omega⟩
        rw [e, ← List.append_assoc]
        repeat' (first | with_reducible apply Stp.go | with_reducible refine imp fun _ => ?_ | (with_reducible refine hyp ?_ ?_; first | assumption | exact leftT_mem (by assumption)) | (with_reducible refine need ?_ ?_; first | trivial | omega | exact ⟨by assumption, by omega⟩ | (simp only [List.length_append, List.length_cons, List.length_nil, List.length_map, List.length_take, List.length_drop, List.length_replicate, List.length_set]; omega)) | (with_reducible refine fact ?_ ?_; first | trivial | exact ⟨rfl, rfl⟩ | kernel_rfl) | with_reducible refine choT (by assumption) ?_ | with_reducible refine choF (by assumption) ?_ | with_reducible refine choF' (by assumption) ?_ | (with_reducible refine altT ?_ ?_; first | omega | (simp only [List.length_append, List.length_cons, List.length_nil, List.length_map, List.length_take, List.length_drop, List.length_replicate, List.length_set]; omega)) | with_reducible refine altF ?_ | with_reducible refine all fun _ => ?_ | with_reducible refine both ?_ ?_ | (with_reducible refine choT ?_ ?_; omega) | (with_reducible refine choF ?_ ?_; omega) | with_reducible refine cho (fun _ => ?_) (fun _ => ?_))
        exact ⟨_, _, _, rfl, Sub.refl _ _, _, rfl, rfl⟩
theorem beside_nil (bits : Int) (L : List (List UInt8)) (m : SM) (p q : Int) (hi : 0 < L.length) (hL : L.length ≤ 1000000) (hb : ∀ b ∈ L, b.length ≤ 100000000000000) (g1 : -10000000 ≤ p - L.length) (g2 : p ≤ 10000000) (g3 : -10000000 ≤ q - L.length) (g4 : q ≤ 10000000) :
    ACalls Go.Proofs.Try.prog 90 [trA bits, .val (.slice none 0 0), .lst 1 (L.map bl) m, I .i64 p, I .i64 q] [] fun x σ' => ∃ v', x = .ret (.own v' (bsD bits L p q).length) ∧ σ' = [.row v' DgT 32 ((bsD bits L p q).map dgF) 0] := by
  have h := beside_ok bits _ L m p q (.slice none 0 0) [] rfl hi hL hb (by simp; omega) g1 g2 g3 g4
  rw [List.nil_append] at h
  refine ⟨h.1, fun R w vs hv hst => ?_⟩
  obtain ⟨R1, h1, h2, h3⟩ := Sub.nil_own DgT (sz := 32) (by decide) [] [trA bits] [.lst 1 (L.map bl) m, I .i64 p, I .i64 q] R w vs hv hst
  refine (h.2 R1 w vs h1 h2).mono ?_
  rintro en w' ⟨x, R', τ, e1, e2, e3, e4⟩
  exact ⟨x, R', τ, e1, e2, e3, h3.trans e4⟩
theorem Range_ok (bits : Int) (L : List (List UInt8)) (m : SM) (p q : Nat) (hp : p < q) (hq : q ≤ L.length) (hL : L.length ≤ 1000000) (hb : ∀ b ∈ L, b.length ≤ 100000000000000) :
    aPure Go.Proofs.Try.prog 44 [trA bits, .lst 1 (L.map bl) m, I .i64 (p : Nat), I .i64 (q : Nat)] (.tuple [.lst 32 ((bsD bits L p q).map dgF) .ro, I .i64 0]) := by
  refine ACalls.fin (tree_Tree_Range.go ?_)
  unfold tree_Tree_Range.sh
  have inst : ∀ σ : Store, EC Go.Proofs.Try.prog 90 [trA bits, .val (.slice none 0 0), .lst 1 (L.map bl) m, I .i64 (p : Nat), I .i64 (q : Nat)] σ True Value (fun v => .own v (bsD bits L p q).length) (fun v => .row v DgT 32 ((bsD bits L p q).map dgF) 0 :: σ) := fun σ => ⟨fun h => ((beside_nil bits L m p q (by omega) hL hb (by omega) (by omega) (by omega) (by omega)).frame σ).mono fun x τ ⟨σ1, e1, _, v, e2, e3⟩ => ⟨v, e2, by rw [e1, e3]; rfl⟩⟩
  repeat' (first | with_reducible apply Stp.go | with_reducible refine imp fun _ => ?_ | (with_reducible refine hyp ?_ ?_; first | assumption | exact leftT_mem (by assumption)) | (with_reducible refine need ?_ ?_; first | trivial | omega | exact ⟨by assumption, by omega⟩ | (simp only [List.length_append, List.length_cons, List.length_nil, List.length_map, List.length_take, List.length_drop, List.length_replicate, List.length_set]; omega)) | (with_reducible refine fact ?_ ?_; first | trivial | exact ⟨rfl, rfl⟩ | kernel_rfl) | with_reducible refine choT (by assumption) ?_ | with_reducible refine choF (by assumption) ?_ | with_reducible refine choF' (by assumption) ?_ | (with_reducible refine altT ?_ ?_; first | omega | (simp only [List.length_append, List.length_cons, List.length_nil, List.length_map, List.length_take, List.length_drop, List.length_replicate, List.length_set]; omega)) | with_reducible refine altF ?_ | with_reducible refine all fun _ => ?_ | with_reducible refine both ?_ ?_ | (with_reducible refine choT ?_ ?_; omega) | (with_reducible refine choF ?_ ?_; omega) | with_reducible refine cho (fun _ => ?_) (fun _ => ?_))
  exact ⟨_, _, _, rfl, Sub.tuple (retOwn (Sub.refl _ _)), rfl, rfl⟩
instance {a : AV} {L : List (List UInt8)} {m : SM} {b : Int} {p q : Nat} [h : IsL a bl 1 L m] : PC Go.Proofs.Try.prog 44 [trA b, a, I .i64 (p : Nat), I .i64 (q : Nat)] (p < q ∧ q ≤ L.length ∧ L.length ≤ 1000000 ∧ ∀ b ∈ L, b.length ≤ 100000000000000) (.tuple [.lst 32 ((bsD b L p q).map dgF) .ro, I .i64 0]) := ⟨fun hl => ⟨[trA b, .lst 1 (L.map bl) m, I .i64 (p : Nat), I .i64 (q : Nat)], ⟨SubV.refl _, h.sub, SubV.refl _, SubV.refl _, trivial⟩, Range_ok b L m p q hl.1 hl.2.1 hl.2.2.1 hl.2.2.2⟩⟩
end Go.Ab
