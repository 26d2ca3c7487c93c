/- The texts that this claim needs, part 7: a logic over abstract values, its steps, what the functions do. No condition of its own. -/
import Derived.Test.YtapkomfnbfbceaaMoveFlushesK6
/- What is known of a table. -/
set_option linter.unusedVariables false
set_option linter.unusedSimpArgs false
namespace Go.Ab
section tab
variable {b : Nat} {t : TypeId} {cs : List AV} {lev n : Int} {d f g : List UInt8} {σ rest : Store} {put : Ent → Store} {k : AV → Store → Prop} {K : AV → Prop}
abbrev tabCs (lev n : Int) (d f g : List UInt8) : List AV := I .i64 lev :: I .i64 n :: (d.map byt ++ [S f, S g])
theorem tabCs_len [hc : Len32 d] : (tabCs lev n d f g).length = 36 := by simp [hc.len]
instance (priority := 75) stTab [hc : Len32 d] [hv : VarAt b σ t cs put rest] [hl : LenA cs 36] : Stp (storeA 36 (ptrAt b 0) (tabA lev n d f g) σ k) (k .undef (put (.var b t (tabCs lev n d f g)))) := ⟨fun hK => by
  obtain ⟨σ1, σ2, e, e2, _⟩ := hv.at_
  have h36 := tabCs_len (lev := lev) (n := n) (d := d) (f := f) (g := g)
  refine ⟨h36, fun c hc => ?_, rfl, σ1, σ2, t, cs, e, by rw [hl.eq]; show 0 + 36 ≤ 36; omega, ?_⟩
  · have hc : c ∈ tabCs lev n d f g := hc
    simp only [List.mem_cons, List.mem_append, List.mem_map, List.not_mem_nil, or_false] at hc
    rcases hc with rfl | rfl | ⟨y, _, rfl⟩ | rfl | rfl <;> rfl
  · rw [e2] at hK
    have : splice cs 0 (AV.cells (tabA lev n d f g)) = tabCs lev n d f g := by
      show splice cs 0 (tabCs lev n d f g) = _
      unfold splice
      rw [List.take_zero, List.nil_append, Nat.zero_add, h36, List.drop_of_length_le (by rw [hl.eq]; decide), List.append_nil]
    rw [this]
    exact hK⟩
instance (priority := 75) ldTab [hc : Len32 d] [hv : VarAt b σ t (tabCs lev n d f g) put rest] : Stp (Do (loadA true 36 (ptrAt b 0) σ) K) (K (tabA lev n d f g)) := ⟨fun hK => by
  obtain ⟨σ1, σ2, e, _⟩ := hv.at_
  have h36 := tabCs_len (lev := lev) (n := n) (d := d) (f := f) (g := g)
  refine ⟨_, ⟨by decide, fun h => by (cases h), rfl, t, _, by rw [e]; exact List.mem_append.2 (.inr (List.mem_cons_self ..)), by rw [h36]; show 0 + 36 ≤ 36; omega, ?_⟩, hK⟩
  show _ = mkV true (((tabCs lev n d f g).drop 0).take 36)
  rw [List.drop_zero, List.take_of_length_le (by omega)]
  rfl⟩
end tab
def table_Describe.mark : Mark := ⟨fun t => Nat.beq t 9 || Nat.beq t 25, fun t => false, fun t => Nat.beq t 3, fun t => Nat.beq t 23 || Nat.beq t 30 || Nat.beq t 37, fun t => false⟩
def table_Describe.ann : Ann := ⟨fun n => [], fun n => none, fun n => none⟩
/-- 'marlstone/table.Describe' -/
def table_Describe.sh (a0 a1 a2 : AV) (σ : Store) (Q : AEnd → Store → Prop) : Prop :=
  Do (aFreeze ((a0 : AV)).cells) fun t3 =>
  aNewVar 39 [.val (.int .i64 0), .val (.int .i64 0), .val (.int .u8 0), .val (.int .u8 0), .val (.int .u8 0), .val (.int .u8 0), .val (.int .u8 0), .val (.int .u8 0), .val (.int .u8 0), .val (.int .u8 0), .val (.int .u8 0), .val (.int .u8 0), .val (.int .u8 0), .val (.int .u8 0), .val (.int .u8 0), .val (.int .u8 0), .val (.int .u8 0), .val (.int .u8 0), .val (.int .u8 0), .val (.int .u8 0), .val (.int .u8 0), .val (.int .u8 0), .val (.int .u8 0), .val (.int .u8 0), .val (.int .u8 0), .val (.int .u8 0), .val (.int .u8 0), .val (.int .u8 0), .val (.int .u8 0), .val (.int .u8 0), .val (.int .u8 0), .val (.int .u8 0), .val (.int .u8 0), .val (.int .u8 0), .val (.string ⟨#[]⟩), .val (.string ⟨#[]⟩)] σ fun t6 σ =>
  Do (aPureC Go.Proofs.Try.prog 19 [a2]) fun t9 =>
  Do (aUn Go.Proofs.Try.prog .not t9) fun t10 =>
  Do (aGuard t10 false (aIs a1)) fun t12 =>
  Do (aGuard t10 false (aBin Go.Proofs.Try.prog .lss 3 t12 (.val (.int .i64 0)))) fun t13 =>
  Do (aPick t10 (.val (.bool true)) t13) fun t14 =>
  Do (aGuard t14 false (aIs a1)) fun t16 =>
  Do (aGuard t14 false (aBin Go.Proofs.Try.prog .geq 3 t16 (.val (.int .i64 4)))) fun t17 =>
  Do (aPick t14 (.val (.bool true)) t17) fun t18 =>
  aCond t18
    (Do (aLit [.val (.int .i64 0), .val (.int .i64 0), .val (.int .u8 0), .val (.int .u8 0), .val (.int .u8 0), .val (.int .u8 0), .val (.int .u8 0), .val (.int .u8 0), .val (.int .u8 0), .val (.int .u8 0), .val (.int .u8 0), .val (.int .u8 0), .val (.int .u8 0), .val (.int .u8 0), .val (.int .u8 0), .val (.int .u8 0), .val (.int .u8 0), .val (.int .u8 0), .val (.int .u8 0), .val (.int .u8 0), .val (.int .u8 0), .val (.int .u8 0), .val (.int .u8 0), .val (.int .u8 0), .val (.int .u8 0), .val (.int .u8 0), .val (.int .u8 0), .val (.int .u8 0), .val (.int .u8 0), .val (.int .u8 0), .val (.int .u8 0), .val (.int .u8 0), .val (.int .u8 0), .val (.int .u8 0), .val (.string ⟨#[]⟩), .val (.string ⟨#[]⟩)] [(0, 1), (1, 1), (2, 32), (34, 1), (35, 1)] []) fun t19 =>
    storeA 36 t6 t19 σ fun u σ_1 =>
    Do (loadA true 36 t6 σ_1) fun r6 => Q (.ret (.tuple [r6, (.val (.int .i64 1))])) σ_1)
    (Do (aBuiltin Go.Proofs.Try.prog .len #[23] [a2]) fun t22 =>
  Do (loadF true 1 t3) fun t23 =>
  Do (aPureC Go.Proofs.Try.prog 42 [a2]) fun t25 =>
  Do (aIndexAddr .slice 4 a2 (.val (.int .i64 0))) fun t28 =>
  Do (aFieldAddr 0 1 t28) fun t29 =>
  Do (loadF false 1 t29) fun t30 =>
  Do (aBuiltin Go.Proofs.Try.prog .len #[23] [a2]) fun t33 =>
  Do (aBin Go.Proofs.Try.prog .sub 3 t33 (.val (.int .i64 1))) fun t34 =>
  Do (aIndexAddr .slice 4 a2 t34) fun t35 =>
  Do (aFieldAddr 0 1 t35) fun t36 =>
  Do (loadF false 1 t36) fun t37 =>
  aCall Go.Proofs.Try.prog 41 [t23, t25] σ (fun t26 σ_2 =>
  Do (aLit [.val (.int .i64 0), .val (.int .i64 0), .val (.int .u8 0), .val (.int .u8 0), .val (.int .u8 0), .val (.int .u8 0), .val (.int .u8 0), .val (.int .u8 0), .val (.int .u8 0), .val (.int .u8 0), .val (.int .u8 0), .val (.int .u8 0), .val (.int .u8 0), .val (.int .u8 0), .val (.int .u8 0), .val (.int .u8 0), .val (.int .u8 0), .val (.int .u8 0), .val (.int .u8 0), .val (.int .u8 0), .val (.int .u8 0), .val (.int .u8 0), .val (.int .u8 0), .val (.int .u8 0), .val (.int .u8 0), .val (.int .u8 0), .val (.int .u8 0), .val (.int .u8 0), .val (.int .u8 0), .val (.int .u8 0), .val (.int .u8 0), .val (.int .u8 0), .val (.int .u8 0), .val (.int .u8 0), .val (.string ⟨#[]⟩), .val (.string ⟨#[]⟩)] [(0, 1), (1, 1), (2, 32), (34, 1), (35, 1)] [(0, a1), (1, t22), (2, t26), (3, t30), (4, t37)]) fun t38 =>
  storeA 36 t6 t38 σ_2 fun u_1 σ_3 =>
  Do (loadA true 36 t6 σ_3) fun r6_1 => Q (.ret (.tuple [r6_1, (.val (.int .i64 0))])) σ_3) (fun e σ_4 => Q (.pan e) σ_4))
theorem table_Describe.eq (a0 a1 a2 : AV) (σ : Store) (Q : AEnd → Store → Prop) : vc (semOf Go.Proofs.Try.prog table_Describe.mark) Go.Proofs.Try.f20.ntmps table_Describe.ann (bodyOf Go.Proofs.Try.f20) (endK [.cell 6 true 36, .tmp 7] Q) (argFr [a0, a1, a2]) σ = table_Describe.sh a0 a1 a2 σ Q := by kernel_rfl
theorem table_Describe.go {a0 a1 a2 : AV} {σ : Store} {Q : AEnd → Store → Prop} (h : table_Describe.sh a0 a1 a2 σ Q) : ACalls Go.Proofs.Try.prog 20 [a0, a1, a2] σ Q :=
  acalls_of_eq [.cell 6 true 36, .tmp 7] Go.Proofs.Try.func20 (by kernel_rfl) (by kernel_rfl) (by kernel_rfl) (by kernel_rfl) (table_Describe.eq a0 a1 a2 σ Q) h
/-- What is known of a table, part by part. -/
def dFit (lev : Nat) (l : List En) : Bool := fit l && decide (lev < 4)
def dErr (lev : Nat) (l : List En) : Nat := if dFit lev l = true then 0 else 1
def dLev (lev : Nat) (l : List En) : Nat := if dFit lev l = true then lev else 0
def dCnt (lev : Nat) (l : List En) : Nat := if dFit lev l = true then l.length else 0
def dRoot (b : Int) (lev : Nat) (l : List En) : List UInt8 := if dFit lev l = true then rootD b (l.map enB) else zeroD
def dFst (lev : Nat) (l : List En) : List UInt8 := if dFit lev l = true then (l.getD 0 default).key else []
def dLst (lev : Nat) (l : List En) : List UInt8 := if dFit lev l = true then (l.getD (l.length - 1) default).key else []
theorem Describe_ok (b : Int) (lev : Nat) (l : List En) (m : SM) (hl : l.length ≤ 1000000) (hv : lev ≤ 1000) : aPure Go.Proofs.Try.prog 20 [trA b, I .i64 (lev : Nat), .lst 4 (l.map En.av) m] (.tuple [tabA (dLev lev l : Nat) (dCnt lev l : Nat) (dRoot b lev l) (dFst lev l) (dLst lev l), I .i64 (dErr lev l : Nat)]) := by
  refine ACalls.fin (table_Describe.go ?_)
  unfold table_Describe.sh
  have hb : (l.map enB).length ≤ 1000000 ∧ ∀ b ∈ l.map enB, b.length ≤ 100000000000000 := ⟨by simpa using hl, fun b h => by
    obtain ⟨e, _, rfl⟩ := List.mem_map.1 h
    have := enB_length e
    omega⟩
  by_cases hf : dFit lev l = true
  · have h1 := hf
    unfold dFit at h1
    simp only [Bool.and_eq_true, decide_eq_true_eq] at h1
    obtain ⟨hfit, h4⟩ := h1
    have h0 : 0 < l.length := (fit_right hfit).2.1
    unfold dLev dCnt dRoot dFst dLst dErr
    simp only [if_pos hf]
    repeat' (first | with_reducible apply Stp.go | with_reducible refine imp fun _ => ?_ | (with_reducible refine hyp ?_ ?_; first | assumption | exact leftT_mem (by assumption)) | (with_reducible refine need ?_ ?_; first | trivial | omega | exact ⟨by assumption, by omega⟩ | (simp only [List.length_append, List.length_cons, List.length_nil, List.length_map, List.length_take, List.length_drop, List.length_replicate, List.length_set]; omega)) | (with_reducible refine fact ?_ ?_; first | trivial | exact ⟨rfl, rfl⟩ | kernel_rfl) | with_reducible refine choT (by assumption) ?_ | with_reducible refine choF (by assumption) ?_ | with_reducible refine choF' (by assumption) ?_ | (with_reducible refine altT ?_ ?_; first | omega | (simp only [List.length_append, List.length_cons, List.length_nil, List.length_map, List.length_take, List.length_drop, List.length_replicate, List.length_set]; omega)) | with_reducible refine altF ?_ | with_reducible refine all fun _ => ?_ | with_reducible refine both ?_ ?_ | (with_reducible refine choT ?_ ?_; omega) | (with_reducible refine choF ?_ ?_; omega) | with_reducible refine cho (fun _ => ?_) (fun _ => ?_))
    refine litTab rfl rfl ?_
    repeat' (first | with_reducible apply Stp.go | with_reducible refine imp fun _ => ?_ | (with_reducible refine hyp ?_ ?_; first | assumption | exact leftT_mem (by assumption)) | (with_reducible refine need ?_ ?_; first | trivial | omega | exact ⟨by assumption, by omega⟩ | (simp only [List.length_append, List.length_cons, List.length_nil, List.length_map, List.length_take, List.length_drop, List.length_replicate, List.length_set]; omega)) | (with_reducible refine fact ?_ ?_; first | trivial | exact ⟨rfl, rfl⟩ | kernel_rfl) | with_reducible refine choT (by assumption) ?_ | with_reducible refine choF (by assumption) ?_ | with_reducible refine choF' (by assumption) ?_ | (with_reducible refine altT ?_ ?_; first | omega | (simp only [List.length_append, List.length_cons, List.length_nil, List.length_map, List.length_take, List.length_drop, List.length_replicate, List.length_set]; omega)) | with_reducible refine altF ?_ | with_reducible refine all fun _ => ?_ | with_reducible refine both ?_ ?_ | (with_reducible refine choT ?_ ?_; omega) | (with_reducible refine choF ?_ ?_; omega) | with_reducible refine cho (fun _ => ?_) (fun _ => ?_))
    exact ⟨_, _, _, rfl, Sub.app_nil _, rfl, rfl⟩
  · unfold dLev dCnt dRoot dFst dLst dErr
    simp only [if_neg hf]
    have hcon : ¬ (fit l = true ∧ lev < 4) := by
      intro h
      apply hf
      unfold dFit
      rw [h.1, decide_eq_true h.2]; rfl
    repeat' (first | with_reducible apply Stp.go | with_reducible refine imp fun _ => ?_ | (with_reducible refine hyp ?_ ?_; first | assumption | exact leftT_mem (by assumption)) | (with_reducible refine need ?_ ?_; first | trivial | omega | exact ⟨by assumption, by omega⟩ | (simp only [List.length_append, List.length_cons, List.length_nil, List.length_map, List.length_take, List.length_drop, List.length_replicate, List.length_set]; omega)) | (with_reducible refine fact ?_ ?_; first | trivial | exact ⟨rfl, rfl⟩ | kernel_rfl) | with_reducible refine choT (by assumption) ?_ | with_reducible refine choF (by assumption) ?_ | with_reducible refine choF' (by assumption) ?_ | (with_reducible refine altT ?_ ?_; first | omega | (simp only [List.length_append, List.length_cons, List.length_nil, List.length_map, List.length_take, List.length_drop, List.length_replicate, List.length_set]; omega)) | with_reducible refine altF ?_ | with_reducible refine all fun _ => ?_ | with_reducible refine both ?_ ?_ | (with_reducible refine choT ?_ ?_; omega) | (with_reducible refine choF ?_ ?_; omega) | with_reducible refine cho (fun _ => ?_) (fun _ => ?_))
    all_goals first
      | (exfalso; apply hcon; refine ⟨?_, ?_⟩ <;> first | assumption | omega)
      | (refine (stTab (lev := 0) (n := 0) (d := zeroD) (f := []) (g := [])).go ?_
         repeat' (first | with_reducible apply Stp.go | with_reducible refine imp fun _ => ?_ | (with_reducible refine hyp ?_ ?_; first | assumption | exact leftT_mem (by assumption)) | (with_reducible refine need ?_ ?_; first | trivial | omega | exact ⟨by assumption, by omega⟩ | (simp only [List.length_append, List.length_cons, List.length_nil, List.length_map, List.length_take, List.length_drop, List.length_replicate, List.length_set]; omega)) | (with_reducible refine fact ?_ ?_; first | trivial | exact ⟨rfl, rfl⟩ | kernel_rfl) | with_reducible refine choT (by assumption) ?_ | with_reducible refine choF (by assumption) ?_ | with_reducible refine choF' (by assumption) ?_ | (with_reducible refine altT ?_ ?_; first | omega | (simp only [List.length_append, List.length_cons, List.length_nil, List.length_map, List.length_take, List.length_drop, List.length_replicate, List.length_set]; omega)) | with_reducible refine altF ?_ | with_reducible refine all fun _ => ?_ | with_reducible refine both ?_ ?_ | (with_reducible refine choT ?_ ?_; omega) | (with_reducible refine choF ?_ ?_; omega) | with_reducible refine cho (fun _ => ?_) (fun _ => ?_))
         exact ⟨_, _, _, rfl, Sub.app_nil _, rfl, rfl⟩)
      | trace_state
instance {a : AV} {l : List En} {m : SM} {b : Int} {lev : Nat} {x : Int} [h : IsL a En.av 4 l m] [hx : NatOf x lev] : PC Go.Proofs.Try.prog 20 [trA b, .val (.int .i64 x), a] (l.length ≤ 1000000 ∧ lev ≤ 1000) (.tuple [tabA (dLev lev l : Nat) (dCnt lev l : Nat) (dRoot b lev l) (dFst lev l) (dLst lev l), I .i64 (dErr lev l : Nat)]) := ⟨fun hl => by
  rw [hx.eq]
  exact ⟨[trA b, I .i64 (lev : Nat), .lst 4 (l.map En.av) m], ⟨SubV.refl _, SubV.refl _, h.sub, trivial⟩, Describe_ok b lev l m hl.1 hl.2⟩⟩
end Go.Ab

/- Ends, places and openings of a table. -/
set_option linter.unusedVariables false
set_option linter.unusedSimpArgs false
namespace Go.Ab
section more
variable {P : Program} {b n : Nat} {t : TypeId} {cs cs' : List AV} {lev cnt : Int} {d f g : List UInt8} {σ rest : Store} {put : Ent → Store} {k : AV → Store → Prop} {K : AV → Prop}
instance (priority := 75) faTab3 [hd : Len32 d] : Stp (Do (aFieldAddr 34 1 (.rptr (tabCs lev cnt d f g))) K) (K (.rptr [S f])) := ⟨fun hK => ⟨_, ⟨by decide, by simp [hd.len], by
  have h : (d.map byt).length = 32 := by simp [hd.len]
  show _ = AV.rptr (((d.map byt ++ [S f, S g]).drop 32).take 1)
  rw [List.drop_left' h]; rfl⟩, hK⟩⟩
instance (priority := 75) faTab4 [hd : Len32 d] : Stp (Do (aFieldAddr 35 1 (.rptr (tabCs lev cnt d f g))) K) (K (.rptr [S g])) := ⟨fun hK => ⟨_, ⟨by decide, by simp [hd.len], by
  have h : (d.map byt).length = 32 := by simp [hd.len]
  show _ = AV.rptr (((d.map byt ++ [S f, S g]).drop (32 + 1)).take 1)
  rw [← List.drop_drop, List.drop_left' h]; rfl⟩, hK⟩⟩
end more
end Go.Ab
