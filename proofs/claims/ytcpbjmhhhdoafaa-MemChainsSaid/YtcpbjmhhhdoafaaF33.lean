/- slices.Insert at entries, walked. -/
import Derived.Test.YtcpbjmhhhdoafaaF32
set_option linter.unusedVariables false
set_option linter.unusedSimpArgs false
namespace Go.Ab
def slices_Insert.mark : Mark := ⟨fun t => false, fun t => false, fun t => false, fun t => false, fun t => false⟩
def slices_Insert.ann : Ann := ⟨fun n => [], fun n => none, fun n => none⟩
/-- 'slices.Insert[[]marlstone/api.Entry,marlstone/api.Entry]' -/
def slices_Insert.sh (a0 a1 a2 : AV) (σ : Store) (Q : AEnd → Store → Prop) : Prop :=
  Do (aSlice .slice 4 a0 (some a1) none none) fun t12 =>
  Do (aBuiltin Go.Proofs.Try.prog .len #[39] [a2]) fun t14 =>
  Do (aBin Go.Proofs.Try.prog .eql 3 t14 (.val (.int .i64 0))) fun t16 =>
  aCond t16
    (Q (.ret a0) σ)
    (Do (aBuiltin Go.Proofs.Try.prog .len #[39] [a0]) fun t19 =>
  Do (aBin Go.Proofs.Try.prog .eql 3 a1 t19) fun t22 =>
  aCond t22
    (aAppend 29 4 48 a0 a2 σ (subK fun t25 σ =>
    Q (.ret t25) σ))
    (Do (aBin Go.Proofs.Try.prog .add 3 t19 t14) fun t28 =>
  Do (aBuiltin Go.Proofs.Try.prog .cap #[39] [a0]) fun t30 =>
  Do (aBin Go.Proofs.Try.prog .gtr 3 t28 t30) fun t31 =>
  aCond t31
    (Do (aSlice .slice 4 a0 none (some a1) none) fun t34 =>
    Do (aBin Go.Proofs.Try.prog .add 3 t19 t14) fun t37 =>
    Do (aBin Go.Proofs.Try.prog .sub 3 t37 a1) fun t39 =>
    rawB Go.Proofs.Try.prog .append #[39, 3] [t34, t39] σ fun t40 σ_1 =>
    Do (aSlice .slice 4 t40 (some a1) none none) fun t43 =>
    aHook (eCopy Go.Proofs.Try.prog 39 39 t43 a2 σ_1) fun t45 σ_2 =>
    Do (aBin Go.Proofs.Try.prog .add 3 a1 t14) fun t49 =>
    Do (aSlice .slice 4 t40 (some t49) none none) fun t50 =>
    Do (aSlice .slice 4 a0 (some a1) none none) fun t53 =>
    aHook (eCopy Go.Proofs.Try.prog 39 39 t50 t53 σ_2) fun t54 σ_3 =>
    Q (.ret t40) σ_3)
    (Do (aBin Go.Proofs.Try.prog .add 3 t19 t14) fun t59 =>
  Do (aSlice .slice 4 a0 none (some t59) none) fun t60 =>
  Do (aBin Go.Proofs.Try.prog .add 3 a1 t14) fun t65 =>
  Do (aSlice .slice 4 t60 (some t65) none none) fun t66 =>
  aCall Go.Proofs.Try.prog 47 [a2, t66] σ (fun t67 σ_4 =>
  Do (aUn Go.Proofs.Try.prog .not t67) fun t68 =>
  aCond t68
    (Do (aBin Go.Proofs.Try.prog .add 3 a1 t14) fun t72 =>
    Do (aSlice .slice 4 t60 (some t72) none none) fun t73 =>
    Do (aSlice .slice 4 t60 (some a1) none none) fun t76 =>
    aHook (eCopy Go.Proofs.Try.prog 39 39 t73 t76 σ_4) fun t77 σ_5 =>
    Do (aSlice .slice 4 t60 (some a1) none none) fun t80 =>
    aHook (eCopy Go.Proofs.Try.prog 39 39 t80 a2 σ_5) fun t82 σ_6 =>
    Q (.ret t60) σ_6)
    (Do (aSlice .slice 4 t60 (some t19) none none) fun t86 =>
  aHook (eCopy Go.Proofs.Try.prog 39 39 t86 a2 σ_4) fun t88 σ_7 =>
  Do (aSlice .slice 4 t60 (some a1) none none) fun t91 =>
  aCall Go.Proofs.Try.prog 48 [t91, t14] σ_7 (fun t93 σ_8 =>
  Q (.ret t60) σ_8) (fun e σ_9 => Q (.pan e) σ_9))) (fun e_1 σ_10 => Q (.pan e_1) σ_10))))
theorem slices_Insert.eq (a0 a1 a2 : AV) (σ : Store) (Q : AEnd → Store → Prop) : vc (semOf Go.Proofs.Try.prog slices_Insert.mark) Go.Proofs.Try.f31.ntmps slices_Insert.ann (bodyOf Go.Proofs.Try.f31) (endK [.tmp 6] Q) (argFr [a0, a1, a2]) σ = slices_Insert.sh a0 a1 a2 σ Q := by kernel_rfl
theorem slices_Insert.go {a0 a1 a2 : AV} {σ : Store} {Q : AEnd → Store → Prop} (h : slices_Insert.sh a0 a1 a2 σ Q) : ACalls Go.Proofs.Try.prog 31 [a0, a1, a2] σ Q :=
  acalls_of_eq [.tmp 6] Go.Proofs.Try.func31 (by kernel_rfl) (by kernel_rfl) (by kernel_rfl) (by kernel_rfl) (slices_Insert.eq a0 a1 a2 σ Q) h
theorem Insert_end (v y : Value) (l : List En) (e : En) (hl : l.length ≤ 1000000) : ACalls Go.Proofs.Try.prog 31 [.own v l.length, I .i64 (l.length : Nat), .own y ([e] : List En).length] [.row y 29 4 ([e].map En.av) 0, .row v 29 4 (l.map En.av) 0]
    fun x σ' => ∃ v', x = .ret (.own v' (l.length + 1)) ∧ σ' = [.row v' 29 4 ((l ++ [e]).map En.av) 0] := by
  refine ACalls.fin (slices_Insert.go ?_)
  unfold slices_Insert.sh
  have h0 : ¬ ([e] : List En).length = 0 := by simp
  repeat' (first | with_reducible apply Stp.go | with_reducible refine imp fun _ => ?_ | (with_reducible refine hyp ?_ ?_; first | assumption | exact leftT_mem (by assumption)) | (with_reducible refine need ?_ ?_; first | trivial | omega | exact ⟨by assumption, by omega⟩ | (simp only [List.length_append, List.length_cons, List.length_nil, List.length_map, List.length_take, List.length_drop, List.length_replicate, List.length_set]; omega)) | (with_reducible refine fact ?_ ?_; first | trivial | exact ⟨rfl, rfl⟩ | kernel_rfl) | with_reducible refine choT (by assumption) ?_ | with_reducible refine choF (by assumption) ?_ | with_reducible refine choF' (by assumption) ?_ | (with_reducible refine altT ?_ ?_; first | omega | (simp only [List.length_append, List.length_cons, List.length_nil, List.length_map, List.length_take, List.length_drop, List.length_replicate, List.length_set]; omega)) | with_reducible refine altF ?_ | with_reducible refine all fun _ => ?_ | with_reducible refine both ?_ ?_ | (with_reducible refine choT ?_ ?_; omega) | (with_reducible refine choF ?_ ?_; omega) | with_reducible refine cho (fun _ => ?_) (fun _ => ?_))
  rename_i v'
  refine ⟨_, _, _, rfl, subS (τ := [.row v' 29 4 ((l ++ [e]).map En.av) 0]) _, v', ?_, rfl⟩
  rw [List.length_append]; rfl
theorem rowEn : rowOf Go.Proofs.Try.prog 39 = some (29, [.string ⟨#[]⟩, .string ⟨#[]⟩, .bool false, .int .i64 0], 4, 48) := by kernel_rfl
theorem szEn : szOf Go.Proofs.Try.prog 39 = some (29, 4) := by kernel_rfl
theorem lay_grow {α : Type} (l ys A es : List α) (e z : α) (i j m n q : Nat) (hi : i ≤ l.length) (hm : i + m = l.length + 1) (hn : n = 1) (hy : ys = l.drop i) (hq : q = ys.length) (hA : A = l.take i ++ List.replicate m z) (hes : es = [e]) (hj : j = i + 1) :
    (A.take i ++ es.take n ++ A.drop (i + n)).take j ++ ys.take q ++ (A.take i ++ es.take n ++ A.drop (i + n)).drop (j + q) = l.take i ++ e :: l.drop i := by
  subst hn; subst hA; subst hes; subst hj
  have h1 : (l.take i).length = i := by rw [List.length_take]; omega
  have e1 : (l.take i ++ List.replicate m z).take i = l.take i := List.take_left' h1
  have e2 : (l.take i ++ List.replicate m z).drop (i + 1) = List.replicate (m - 1) z := by
    rw [List.drop_append, h1, List.drop_of_length_le (by omega)]
    simp
  rw [e1, e2]
  have h2 : (l.take i ++ [e].take 1).length = i + 1 := by rw [List.length_append, h1]; rfl
  have e3 : (l.take i ++ [e].take 1 ++ List.replicate (m - 1) z).take (i + 1) = l.take i ++ [e] := List.take_left' h2
  have hyl : ys.length = l.length - i := by rw [hy, List.length_drop]
  have e4 : (l.take i ++ [e].take 1 ++ List.replicate (m - 1) z).drop (i + 1 + q) = [] := List.drop_of_length_le (by rw [List.length_append, h2, List.length_replicate]; omega)
  rw [e3, e4, hq, List.take_length, hy, List.append_nil, List.append_assoc]
  rfl
theorem Insert_grow (v y : Value) (l : List En) (e : En) (i : Nat) (hi : i < l.length) (hc : capV v < l.length + 1) (hn : y.ownBlock ≠ v.ownBlock) (hl : l.length ≤ 1000000) : ACalls Go.Proofs.Try.prog 31 [.own v l.length, I .i64 (i : Nat), .own y ([e] : List En).length] [.row y 29 4 ([e].map En.av) 0, .row v 29 4 (l.map En.av) 0]
    fun x σ' => ∃ v', x = .ret (.own v' (l.length + 1)) ∧ σ' = [.row v' 29 4 ((l.take i ++ e :: l.drop i).map En.av) 0] := by
  refine ACalls.fin (slices_Insert.go ?_)
  unfold slices_Insert.sh
  have h0 : ¬ ([e] : List En).length = 0 := by simp
  have h1 : ¬ i = l.length := by omega
  repeat' (first | with_reducible apply Stp.go | with_reducible refine imp fun _ => ?_ | (with_reducible refine hyp ?_ ?_; first | assumption | exact leftT_mem (by assumption)) | (with_reducible refine need ?_ ?_; first | trivial | omega | exact ⟨by assumption, by omega⟩ | (simp only [List.length_append, List.length_cons, List.length_nil, List.length_map, List.length_take, List.length_drop, List.length_replicate, List.length_set]; omega)) | (with_reducible refine fact ?_ ?_; first | trivial | exact ⟨rfl, rfl⟩ | kernel_rfl) | with_reducible refine choT (by assumption) ?_ | with_reducible refine choF (by assumption) ?_ | with_reducible refine choF' (by assumption) ?_ | (with_reducible refine altT ?_ ?_; first | omega | (simp only [List.length_append, List.length_cons, List.length_nil, List.length_map, List.length_take, List.length_drop, List.length_replicate, List.length_set]; omega)) | with_reducible refine altF ?_ | with_reducible refine all fun _ => ?_ | with_reducible refine both ?_ ?_ | (with_reducible refine choT ?_ ?_; omega) | (with_reducible refine choF ?_ ?_; omega) | with_reducible refine cho (fun _ => ?_) (fun _ => ?_))
  refine rawB_appendZ (l := l.map En.av) (fl := 0) rowEn (by kernel_rfl) (by simp) (by simpa using hi) (by simp; omega) (by simp; omega) (by decide) (by simp; omega) (by simp [maxLen]; omega) fun v2 hb2 hd2 => ?_
  have n1 : y ≠ v2 := fun e => hd2 _ List.mem_cons_self (by rw [e]; rfl)
  have n2 : v ≠ v2 := fun e => hd2 _ (List.mem_cons_of_mem _ List.mem_cons_self) (by rw [e]; rfl)
  have hm : i + (l.length + [e].length - i) = l.length + 1 := by simp; omega
  have eL : (l.map En.av).take i ++ List.replicate (l.length + [e].length - i) (mkE (List.map AV.val [.string ⟨#[]⟩, .string ⟨#[]⟩, .bool false, .int .i64 0])) = (l.take i ++ List.replicate (l.length + [e].length - i) En.zero).map En.av := by
    rw [List.map_append, List.map_take, List.map_replicate]; rfl
  rw [eL, hm]
  repeat' (first | with_reducible apply Stp.go | with_reducible refine imp fun _ => ?_ | (with_reducible refine hyp ?_ ?_; first | assumption | exact leftT_mem (by assumption)) | (with_reducible refine need ?_ ?_; first | trivial | omega | exact ⟨by assumption, by omega⟩ | (simp only [List.length_append, List.length_cons, List.length_nil, List.length_map, List.length_take, List.length_drop, List.length_replicate, List.length_set]; omega)) | (with_reducible refine fact ?_ ?_; first | trivial | exact ⟨rfl, rfl⟩ | kernel_rfl) | with_reducible refine choT (by assumption) ?_ | with_reducible refine choF (by assumption) ?_ | with_reducible refine choF' (by assumption) ?_ | (with_reducible refine altT ?_ ?_; first | omega | (simp only [List.length_append, List.length_cons, List.length_nil, List.length_map, List.length_take, List.length_drop, List.length_replicate, List.length_set]; omega)) | with_reducible refine altF ?_ | with_reducible refine all fun _ => ?_ | with_reducible refine both ?_ ?_ | (with_reducible refine choT ?_ ?_; omega) | (with_reducible refine choF ?_ ?_; omega) | with_reducible refine cho (fun _ => ?_) (fun _ => ?_))
  refine cpSub (σ1 := []) (ys := [e].map En.av) szEn ⟨_, _, _, List.mem_cons_of_mem _ List.mem_cons_self, rfl⟩ ?_ (by simp; omega) ?_
  · intro e' he E' s' l' f' h
    subst h
    simp only [List.nil_append, List.mem_cons, Ent.row.injEq, List.not_mem_nil, or_false] at he
    rcases he with he | he
    · exact n1 he.1.symm
    · exact n2 he.1.symm
  repeat' (first | with_reducible apply Stp.go | with_reducible refine imp fun _ => ?_ | (with_reducible refine hyp ?_ ?_; first | assumption | exact leftT_mem (by assumption)) | (with_reducible refine need ?_ ?_; first | trivial | omega | exact ⟨by assumption, by omega⟩ | (simp only [List.length_append, List.length_cons, List.length_nil, List.length_map, List.length_take, List.length_drop, List.length_replicate, List.length_set]; omega)) | (with_reducible refine fact ?_ ?_; first | trivial | exact ⟨rfl, rfl⟩ | kernel_rfl) | with_reducible refine choT (by assumption) ?_ | with_reducible refine choF (by assumption) ?_ | with_reducible refine choF' (by assumption) ?_ | (with_reducible refine altT ?_ ?_; first | omega | (simp only [List.length_append, List.length_cons, List.length_nil, List.length_map, List.length_take, List.length_drop, List.length_replicate, List.length_set]; omega)) | with_reducible refine altF ?_ | with_reducible refine all fun _ => ?_ | with_reducible refine both ?_ ?_ | (with_reducible refine choT ?_ ?_; omega) | (with_reducible refine choF ?_ ?_; omega) | with_reducible refine cho (fun _ => ?_) (fun _ => ?_))
  refine cpSub (σ1 := []) (ys := ((l.map En.av).drop i).take (l.length - i)) szEn ⟨rfl, _, _, _, List.mem_cons_of_mem _ (List.mem_cons_of_mem _ List.mem_cons_self), by simp; omega, rfl⟩ ?_ (by simp; omega) ?_
  · intro e' he E' s' l' f' h
    subst h
    simp only [List.nil_append, List.mem_cons, Ent.row.injEq, List.not_mem_nil, or_false] at he
    rcases he with he | he
    · exact n1 he.1.symm
    · exact n2 he.1.symm
  rw [lay_grow (l.map En.av) (((l.map En.av).drop i).take (l.length - i)) ((l.take i ++ List.replicate (l.length + [e].length - i) En.zero).map En.av) ([e].map En.av) e.av En.zero.av i (i + [e].length) (l.length + [e].length - i) (min ([e].map En.av).length (l.length + 1 - i)) (min (((l.map En.av).drop i).take (l.length - i)).length (l.length + 1 - (i + [e].length))) (by simp; omega) (by simp; omega) (by simp; omega) (by rw [List.take_of_length_le]; simp) (by simp) (by simp) rfl rfl]
  have e9 : (l.map En.av).take i ++ e.av :: (l.map En.av).drop i = (l.take i ++ e :: l.drop i).map En.av := by simp
  rw [e9, List.nil_append]
  exact ⟨_, _, _, rfl, subS (τ := [.row v2 29 4 ((l.take i ++ e :: l.drop i).map En.av) 0]) _, v2, rfl, rfl⟩
theorem Insert_in (v y : Value) (l : List En) (e : En) (i : Nat) (hi : i < l.length) (hc : l.length + 1 ≤ capV v) (hn : y.ownBlock ≠ v.ownBlock) (hl : l.length ≤ 1000000) : ACalls Go.Proofs.Try.prog 31 [.sub (reV v (l.length + 1)) 4 0 l.length, I .i64 (i : Nat), .own y ([e] : List En).length] [.row y 29 4 ([e].map En.av) 0, .row v 29 4 (l.map En.av) 0]
    fun x σ' => ∃ v', x = .ret (.own v' (l.length + 1)) ∧ σ' = [.row v' 29 4 ((l.take i ++ e :: l.drop i).map En.av) 0] := by
  have hcv : capV (reV v (l.length + 1)) = capV v := by cases v <;> rfl
  refine ACalls.fin (slices_Insert.go ?_)
  unfold slices_Insert.sh
  have h0 : ¬ ([e] : List En).length = 0 := by simp
  have h1 : ¬ i = l.length := by omega
  have h2 : ¬ capV (reV v (l.length + 1)) - 0 < l.length + [e].length := by simp; omega
  repeat' (first | with_reducible apply Stp.go | with_reducible refine imp fun _ => ?_ | (with_reducible refine hyp ?_ ?_; first | assumption | exact leftT_mem (by assumption)) | (with_reducible refine need ?_ ?_; first | trivial | omega | exact ⟨by assumption, by omega⟩ | (simp only [List.length_append, List.length_cons, List.length_nil, List.length_map, List.length_take, List.length_drop, List.length_replicate, List.length_set]; omega)) | (with_reducible refine fact ?_ ?_; first | trivial | exact ⟨rfl, rfl⟩ | kernel_rfl) | with_reducible refine choT (by assumption) ?_ | with_reducible refine choF (by assumption) ?_ | with_reducible refine choF' (by assumption) ?_ | (with_reducible refine altT ?_ ?_; first | omega | (simp only [List.length_append, List.length_cons, List.length_nil, List.length_map, List.length_take, List.length_drop, List.length_replicate, List.length_set]; omega)) | with_reducible refine altF ?_ | with_reducible refine all fun _ => ?_ | with_reducible refine both ?_ ?_ | (with_reducible refine choT ?_ ?_; omega) | (with_reducible refine choF ?_ ?_; omega) | with_reducible refine cho (fun _ => ?_) (fun _ => ?_))
  refine .inr (rawC_overlaps Go.Proofs.Try.func47 (by kernel_rfl) (by kernel_rfl) (by kernel_rfl) (tS := 39) (tR := 4) (by kernel_rfl) szEn ?_ ?_ ?_ ?_)
  · simp
  · simp; omega
  · simp; omega
  have hff : ¬ (false = true) := by decide
  have hml : (l.map En.av).length = l.length := by simp
  repeat' (first | with_reducible apply Stp.go | with_reducible refine imp fun _ => ?_ | (with_reducible refine hyp ?_ ?_; first | assumption | exact leftT_mem (by assumption)) | (with_reducible refine need ?_ ?_; first | trivial | omega | exact ⟨by assumption, by omega⟩ | (simp only [List.length_append, List.length_cons, List.length_nil, List.length_map, List.length_take, List.length_drop, List.length_replicate, List.length_set]; omega)) | (with_reducible refine fact ?_ ?_; first | trivial | exact ⟨rfl, rfl⟩ | kernel_rfl) | with_reducible refine choT (by assumption) ?_ | with_reducible refine choF (by assumption) ?_ | with_reducible refine choF' (by assumption) ?_ | (with_reducible refine altT ?_ ?_; first | omega | (simp only [List.length_append, List.length_cons, List.length_nil, List.length_map, List.length_take, List.length_drop, List.length_replicate, List.length_set]; omega)) | with_reducible refine altF ?_ | with_reducible refine all fun _ => ?_ | with_reducible refine both ?_ ?_ | (with_reducible refine choT ?_ ?_; omega) | (with_reducible refine choF ?_ ?_; omega) | with_reducible refine cho (fun _ => ?_) (fun _ => ?_))
  have q1 : AV.sub (reV v (l.length + 1)) 4 (0 + (i + [e].length)) (l.length + [e].length - (i + [e].length)) = .sub (reV v ((l.map En.av).length + 1)) 4 (i + 1) (l.length - i) := by
    rw [hml, show 0 + (i + [e].length) = i + 1 by simp, show l.length + [e].length - (i + [e].length) = l.length - i by simp]
  have q2 : AV.sub (reV v (l.length + 1)) 4 (0 + i) (l.length + [e].length - i) = .sub (reV v ((l.map En.av).length + 1)) 4 i (l.length - i + 1) := by
    rw [hml, show 0 + i = i by omega, show l.length + [e].length - i = l.length - i + 1 by simp; omega]
  rw [q1, q2]
  refine ⟨_, Or.inr (rawB_shift (σ1 := [.row y 29 4 ([e].map En.av) 0]) (σ2 := []) szEn (by rw [hml]; omega) (by omega) (by rw [hml]; omega) (by rw [hml]; simp only [maxLen]; omega) ?_), fun _ _ h => h⟩
  rw [hml]
  repeat' (first | with_reducible apply Stp.go | with_reducible refine imp fun _ => ?_ | (with_reducible refine hyp ?_ ?_; first | assumption | exact leftT_mem (by assumption)) | (with_reducible refine need ?_ ?_; first | trivial | omega | exact ⟨by assumption, by omega⟩ | (simp only [List.length_append, List.length_cons, List.length_nil, List.length_map, List.length_take, List.length_drop, List.length_replicate, List.length_set]; omega)) | (with_reducible refine fact ?_ ?_; first | trivial | exact ⟨rfl, rfl⟩ | kernel_rfl) | with_reducible refine choT (by assumption) ?_ | with_reducible refine choF (by assumption) ?_ | with_reducible refine choF' (by assumption) ?_ | (with_reducible refine altT ?_ ?_; first | omega | (simp only [List.length_append, List.length_cons, List.length_nil, List.length_map, List.length_take, List.length_drop, List.length_replicate, List.length_set]; omega)) | with_reducible refine altF ?_ | with_reducible refine all fun _ => ?_ | with_reducible refine both ?_ ?_ | (with_reducible refine choT ?_ ?_; omega) | (with_reducible refine choF ?_ ?_; omega) | with_reducible refine cho (fun _ => ?_) (fun _ => ?_))
  have hlx : ((l.map En.av).take (i + 1) ++ (l.map En.av).drop i).length = l.length + 1 := by simp; omega
  refine cpSub (σ1 := [.row y 29 4 ([e].map En.av) 0]) (σ2 := []) (ys := [e].map En.av) szEn ⟨_, _, _, List.mem_cons_self, rfl⟩ ?_ (by rw [hlx]; simp; omega) ?_
  · intro e' he E' s' l' f' h
    subst h
    simp only [List.append_nil, List.mem_cons, Ent.row.injEq, List.not_mem_nil, or_false] at he
    exact hn (by rw [← he.1, reV_block])
  have e9 : ((l.map En.av).take (i + 1) ++ (l.map En.av).drop i).take (0 + i) ++ ([e].map En.av).take (min ([e].map En.av).length (l.length + [e].length - i)) ++ ((l.map En.av).take (i + 1) ++ (l.map En.av).drop i).drop (0 + i + min ([e].map En.av).length (l.length + [e].length - i)) = (l.take i ++ e :: l.drop i).map En.av := by
    have h4 : ((l.map En.av).take (i + 1)).length = i + 1 := by rw [List.length_take]; omega
    have h3 : min ([e].map En.av).length (l.length + [e].length - i) = 1 := by simp; omega
    rw [h3, show 0 + i = i by omega, List.take_append_of_le_length (by omega), List.take_take, show min i (i + 1) = i by omega, List.drop_append_of_le_length (by omega), List.drop_of_length_le (by omega)]
    simp
  rw [e9, List.singleton_append]
  exact ⟨_, _, _, rfl, (Sub.whole (n := l.length + [e].length) (List.mem_cons_of_mem _ List.mem_cons_self) (by simp) (by simp; omega) []).trans (subS (τ := [.row (reV v (l.length + 1)) 29 4 ((l.take i ++ e :: l.drop i).map En.av) 0]) _), _, rfl, rfl⟩
/-- A contract for which something of the store may be known. -/
theorem ACalls.assume {P : Program} {f : FuncId} {args : List AV} {σ : Store} {Q : AEnd → Store → Prop} (hb : HasBody P f) (p : Prop) (h : ∀ R w vs, VRs R vs args → St R w σ → p) (hp : p → ACalls P f args σ Q) : ACalls P f args σ Q :=
  ⟨hb, fun R w vs hv hs => (hp (h R w vs hv hs)).2 R w vs hv hs⟩
theorem ACalls.preA {P : Program} {f : FuncId} {args args' : List AV} {σ σ' : Store} {Q : AEnd → Store → Prop} (h : ACalls P f args' σ' Q) (hs : Sub σ args σ' args') : ACalls P f args σ Q :=
  ⟨h.1, fun R w vs hv hst => by
    obtain ⟨R1, h1, h2, h3⟩ := hs R w vs hv hst
    refine (h.2 R1 w vs h1 h2).mono ?_
    rintro en w' ⟨x, R', τ, e1, e2, e3, e4⟩
    exact ⟨x, R', τ, e1, e2, e3, h3.trans e4⟩⟩
theorem Insert_ok (v y : Value) (l : List En) (e : En) (i : Nat) (hi : i ≤ l.length) (hl : l.length ≤ 1000000) : ACalls Go.Proofs.Try.prog 31 [.own v l.length, I .i64 (i : Nat), .own y ([e] : List En).length] [.row y 29 4 ([e].map En.av) 0, .row v 29 4 (l.map En.av) 0]
    fun x σ' => ∃ v', x = .ret (.own v' (l.length + 1)) ∧ σ' = [.row v' 29 4 ((l.take i ++ e :: l.drop i).map En.av) 0] := by
  by_cases h : i = l.length
  · subst h
    have := Insert_end v y l e hl
    rwa [show l ++ [e] = l.take l.length ++ e :: l.drop l.length by simp] at this
  · have hlt : i < l.length := by omega
    refine ACalls.assume (Insert_end v y l e hl).1 (y.ownBlock ≠ v.ownBlock) (fun R w vs hv hs => hs.two (by simp; omega)) fun hn => ?_
    by_cases hc : capV v < l.length + 1
    · exact Insert_grow v y l e i hlt hc hn hl
    · exact (Insert_in v y l e i hlt (by omega) hn hl).preA (Sub.part (List.mem_cons_of_mem _ List.mem_cons_self) (by simp; omega) _ _)
end Go.Ab
