/- A logic over abstract states (part 12): the meaning of all operations, proved. -/
import Derived.Test.YtopmpooglnfalaaAb11b
set_option linter.unusedVariables false
set_option linter.unusedSimpArgs false
namespace Go.Ab
variable {P : Program}

theorem zOk_run {n s : Nat} {zs : List Value} (h : zOk n s zs = true) : n * s ≤ 16777216 ∧ ∀ v ∈ zs, v.oneCell' = true := by
  simp only [zOk, Bool.and_eq_true, List.all_eq_true] at h
  exact ⟨Nat.le_of_ble_eq_true h.1, h.2⟩
theorem mkE_vals {zs : List Value} (h : ∀ v ∈ zs, v.oneCell' = true) : (mkE (zs.map AV.val)).cells = zs.map .val := mkE_cells fun c hc => by
  simp only [List.mem_map] at hc
  obtain ⟨v, hv, rfl⟩ := hc
  exact h v hv

theorem freeze_at {R : RO} {w : World} {σ : Store} (hs : St R w σ) {vs : List Value} {cs : List AV} (hr : VRs R vs cs) (t : TypeId) :
    ∃ R', VR R' (.pointer (some ⟨w.heap.size, 0, none⟩)) (.rptr cs) ∧ St R' (w.alloc (.cells (List.toArray vs) t)) σ ∧ Ext R w σ R' (w.alloc (.cells (List.toArray vs) t)) σ := by
  obtain ⟨g1, g2⟩ := st_roNew hs (World.grownBy_alloc w (.cells (List.toArray vs) t) none)
  refine ⟨_, ?_, g1, g2⟩
  refine .rptr vs hr.1 (hr.mono g2.ro).2 fun j v hj => ?_
  rw [addr_lit_add, Nat.zero_add]
  unfold roNew
  rw [if_neg (by simp)]
  have := heap_alloc_new w (.cells (List.toArray vs) t)
  simp only [World.cell?, this]
  simpa using hj
theorem semPure_ok (o : Oper) (ρ : Operand → AV) (u : AV) (σ : Store) (k kp : AV → Store → Prop) (h : semPure P o ρ u) (hk : k u σ) : AOp P o ρ σ k kp := by
  unfold semPure at h
  have conv : ∀ {s : (Operand → Value) → Sem Next}, PRun P s ρ u → (∀ ev, execOp ev o = s ev) → AOp P o ρ σ k kp := fun hp he => PRun.aop (by
    intro R w ev σ ha hs
    obtain ⟨v, w', R', h1, h2⟩ := hp R w ev σ ha hs
    exact ⟨v, w', R', by simp only [he]; exact h1, h2⟩) hk
  cases hop : o.op with
  | move x => rw [hop] at h; subst h; exact conv (pr_move x) (fun ev => by unfold execOp; rw [hop])
  | assign x => rw [hop] at h; subst h; exact conv (pr_move x) (fun ev => by unfold execOp; rw [hop])
  | pick c a b => rw [hop] at h; exact conv (pr_pick h) (fun ev => by unfold execOp; rw [hop])
  | nilCheck x => rw [hop] at h; exact PRun.aop (pr_nil hop h) hk
  | extract x i => rw [hop] at h; exact conv (pr_ext h) (fun ev => by unfold execOp; rw [hop])
  | field t x i =>
    rw [hop] at h; simp only at h
    split at h
    · rename_i off ag s hf; exact conv (pr_field hf h) (fun ev => by unfold execOp; rw [hop])
    · exact h.elim
  | fieldAddr t x i =>
    rw [hop] at h; simp only at h
    split at h
    · rename_i off ag s hf; exact conv (pr_fieldAddr hf h) (fun ev => by unfold execOp; rw [hop])
    · exact h.elim
  | indexAddr t x i =>
    rw [hop] at h; simp only at h
    split at h
    · rename_i c ag s hf; exact conv (pr_indexAddr hf h) (fun ev => by unfold execOp; rw [hop])
    · exact h.elim
  | index t x i =>
    rw [hop] at h; simp only at h
    split at h
    · rename_i c ag s hf; exact conv (pr_index hf h) (fun ev => by unfold execOp; rw [hop])
    · exact h.elim
  | slice t x lo hi mx =>
    rw [hop] at h; simp only at h
    split at h
    · rename_i c ag s hf; exact conv (pr_slice hf h) (fun ev => by unfold execOp; rw [hop])
    · exact h.elim
  | build t parts =>
    rw [hop] at h; simp only at h
    split at h
    · rename_i zs pl hf; exact conv (pr_build hf h.1 h.2) (fun ev => by unfold execOp; rw [hop])
    · exact h.elim
  | buildSlice t n parts =>
    rw [hop] at h; simp only at h
    split at h
    · rename_i e zs s hf
      cases hz : zOk n s zs with
      | false => rw [hz] at h; exact h.elim
      | true =>
        rw [hz] at h
        obtain ⟨z1, z2⟩ := zOk_run hz
        exact conv (pr_buildSl hf z1 (mkE_vals z2) h.1 h.2.1 z2 h.2.2) (fun ev => by unfold execOp; rw [hop])
    · exact h.elim
  | box t x =>
    rw [hop] at h; simp only at h
    obtain ⟨h1, rfl⟩ := h
    refine AOp.ofRun fun R w ev ha hs => ?_
    have hr := cells_rel (ha x) h1
    obtain ⟨R', q1, q2, q3⟩ := freeze_at hs hr t
    exact ⟨_, _, _, R', σ, by simp [execOp, hop, Instr.box, newVar, newRow], hk, q1, q2, q3⟩
  | alloc t =>
    rw [hop] at h; simp only at h
    split at h
    · rename_i zs hz
      obtain ⟨h1, rfl⟩ := h
      refine AOp.ofRun fun R w ev ha hs => ?_
      unfold zeroCells at hz
      cases hi : P.info? t with
      | none => rw [hi] at hz; cases hz
      | some i =>
        rw [hi] at hz
        cases hiz : i.zero with
        | none => simp only [hiz] at hz; cases hz
        | some z =>
          simp only [hiz, Option.some.injEq] at hz
          obtain ⟨R', q1, q2, q3⟩ := freeze_at hs (VRs.ofVals R zs) t
          have hzc : z.cells = zs.toArray := by rw [← hz]
          exact ⟨_, _, _, R', σ, by simp [execOp, hop, Instr.alloc, zeroValue, typeInfo, hi, hiz, newVar, newRow, hzc], hk, q1, q2, q3⟩
    · exact h.elim
  | binOp op t x y ty => rw [hop] at h; exact PRun.aop (pr_bin hop h) hk
  | unOp op t x => rw [hop] at h; exact conv (pr_un (t := t) h) (fun ev => by unfold execOp; rw [hop])
  | makeInterface t x =>
    rw [hop] at h; simp only at h
    cases hc : P.concrete t with
    | false => rw [hc] at h; exact h.elim
    | true => rw [hc] at h; simp only [cond_true] at h; subst h; exact conv (pr_iface hc) (fun ev => by unfold execOp; rw [hop])
  | makeFunc f a b => rw [hop] at h; simp only at h; subst h; exact conv pr_func (fun ev => by unfold execOp; rw [hop])
  | convert s d x => rw [hop] at h; exact conv (pr_conv h) (fun ev => by unfold execOp; rw [hop])
  | call c =>
    rw [hop] at h; simp only at h
    obtain ⟨callee, args, ts⟩ := c
    cases callee with
    | builtin b => exact PRun.aop (pr_builtin hop h) hk
    | value x =>
      simp only at h
      split at h
      · rename_i f a b hc; exact pr_call hop hc hk h
      · exact h.elim
    | invoke r m => exact h.elim
  | load t x =>
    rw [hop] at h; simp only at h
    split at h
    · rename_i ag s hf
      refine rd_load hf ?_ hop hk
      unfold loadF at h
      split at h
      · rename_i cs e
        obtain ⟨h1, h2, h3, h4⟩ := h
        rw [e]
        exact ⟨h1, h2, h3, h4⟩
      · exact h.elim
    · exact h.elim
  | _ => exact pureN_ok o ρ u σ k kp (by rw [hop] at h ⊢; exact h) hk

theorem semRead_ok (o : Oper) (ρ : Operand → AV) (u : AV) (σ : Store) (k kp : AV → Store → Prop) (h : semRead P o ρ σ u) (hk : k u σ) : AOp P o ρ σ k kp := by
  unfold semRead at h
  split at h
  · rename_i t x hop
    split at h
    · rename_i ag s hf; exact rd_load hf h hop hk
    · exact h.elim
  · exact readN_ok o ρ u σ k kp h hk

theorem semEff_ok (o : Oper) (ρ : Operand → AV) (σ : Store) (k kp : AV → Store → Prop) (h : semEff P o ρ σ k kp) : AOp P o ρ σ k kp := by
  unfold semEff at h
  cases hop : o.op with
  | alloc t =>
    rw [hop] at h; simp only at h
    split at h
    · rename_i zs hf; exact ef_alloc hf hop h
    · exact h.elim
  | box t x => rw [hop] at h; exact ef_box hop h
  | store t x y =>
    rw [hop] at h; simp only at h
    split at h
    · rename_i ag s hf; exact ef_store hf hop h
    · exact h.elim
  | makeSlice t n c =>
    rw [hop] at h; simp only at h
    split at h
    · rename_i e zs s b hf; exact ef_make hf hop h
    · exact h.elim
  | buildSlice t n parts =>
    rw [hop] at h; simp only at h
    split at h
    · rename_i e zs s hf
      cases hz : zOk n s zs with
      | false => rw [hz] at h; exact h.elim
      | true =>
        rw [hz] at h
        obtain ⟨z1, z2⟩ := zOk_run hz
        exact ef_rowLit hf z1 (mkE_vals z2) h.1 hop h.2
    · exact h.elim
  | panic x => rw [hop] at h; exact ef_panic hop h.2 h.1
  | call c =>
    rw [hop] at h; simp only at h
    obtain ⟨callee, args, ts⟩ := c
    cases callee with
    | builtin b =>
      simp only at h
      split at h
      · rename_i d x t xt h1 h2
        have e1 : args = #[d, x] := by apply Array.ext'; simp [h1]
        have e2 : ts = #[t, xt] := by apply Array.ext'; simp [h2]
        subst e1; subst e2
        split at h
        · rename_i e zs s b hf
          cases hx : isStringOrSlice P xt with
          | false => rw [hx] at h; exact h.elim
          | true => rw [hx] at h; exact AOp.sub (ef_append hf hx hop h)
        · exact h.elim
      · exact hookE_ok o ρ σ k kp (by rw [hop]; exact h)
    | value x =>
      simp only at h
      split at h
      · rename_i f a b hc; exact ef_call hop hc h
      · exact h.elim
    | invoke r m => exact hookE_ok o ρ σ k kp (by rw [hop]; exact h)
  | _ => exact hookE_ok o ρ σ k kp (by rw [hop] at h ⊢; exact h)

theorem semEff_mono (o : Oper) (ρ : Operand → AV) (σ : Store) (k k' kp : AV → Store → Prop) (hk : ∀ u σ', k u σ' → k' u σ') (h : semEff P o ρ σ k kp) : semEff P o ρ σ k' kp := by
  have nv : ∀ {t : TypeId} {cs : List AV}, aNewVar t cs σ k → aNewVar t cs σ k' := fun h => ⟨h.1, fun b hb => hk _ _ (h.2 b hb)⟩
  unfold semEff at h ⊢
  cases hop : o.op with
  | alloc t =>
    rw [hop] at h; simp only at h ⊢
    split at h
    · exact nv h
    · exact h.elim
  | box t x => rw [hop] at h; exact nv h
  | store t x y =>
    rw [hop] at h; simp only at h ⊢
    split at h
    · rename_i ag s hf
      unfold storeA at h ⊢
      obtain ⟨h1, h2, h3⟩ := h
      refine ⟨h1, h2, ?_⟩
      split at h3
      · obtain ⟨g1, σ1, σ2, t, cs, g2, g3, g4⟩ := h3; exact ⟨g1, σ1, σ2, t, cs, g2, g3, hk _ _ g4⟩
      · obtain ⟨σ1, σ2, E, l, fl, g1, g2, g3, g4, g5, g6⟩ := h3; exact ⟨σ1, σ2, E, l, fl, g1, g2, g3, g4, g5, hk _ _ g6⟩
      · exact h3.elim
    · exact h.elim
  | makeSlice t n c =>
    rw [hop] at h; simp only at h ⊢
    split at h
    · unfold aMake at h ⊢
      split at h
      · obtain ⟨g1, g2, g3, g4, g5, g6⟩ := h; exact ⟨g1, g2, g3, g4, g5, fun v => hk _ _ (g6 v)⟩
      · exact h.elim
    · exact h.elim
  | buildSlice t n parts =>
    rw [hop] at h; simp only at h ⊢
    split at h
    · rename_i e zs s hf
      cases hz : zOk n s zs with
      | false => rw [hz] at h; exact h.elim
      | true =>
        rw [hz] at h
        obtain ⟨h0, l, g1, g2, g3, g4, g5⟩ := h
        exact ⟨h0, l, g1, g2, g3, g4, fun v => hk _ _ (g5 v)⟩
    · exact h.elim
  | panic x => rw [hop] at h; exact h
  | call c =>
    rw [hop] at h; simp only at h ⊢
    obtain ⟨callee, args, ts⟩ := c
    cases callee with
    | builtin b =>
      simp only at h ⊢
      split at h
      · rename_i d x t xt h1 h2
        split at h
        · rename_i e zs s b hf
          cases hx : isStringOrSlice P xt with
          | false => rw [hx] at h; exact h.elim
          | true =>
            rw [hx] at h
            obtain ⟨ys, h1, h2, h3⟩ := h
            have hk := subK.mono hk
            refine ⟨ys, h1, h2, ?_⟩
            rcases h3 with ⟨z, l, m, g1, g2, g3⟩ | h3
            · exact .inl ⟨z, l, m, g1, g2, hk _ _ g3⟩
            refine .inr ?_
            split at h3
            · obtain ⟨σ1, σ2, l, fl, g1, g2, g3, g4⟩ := h3; exact ⟨σ1, σ2, l, fl, g1, g2, g3, fun v => hk _ _ (g4 v)⟩
            · obtain ⟨g1, g2, g3⟩ := h3; exact ⟨g1, g2, fun v => hk _ _ (g3 v)⟩
            · obtain ⟨g1, g2, g3⟩ := h3; exact ⟨g1, g2, fun v => hk _ _ (g3 v)⟩
            · obtain ⟨g0, g1, g2, g3, g4⟩ := h3; exact ⟨g0, g1, g2, g3, fun v => hk _ _ (g4 v)⟩
            · exact h3.elim
        · exact h.elim
      · exact hookE_mono hk h
    | value x =>
      simp only at h ⊢
      split at h
      · obtain ⟨σ1, args1, g1, g2⟩ := h
        exact ⟨σ1, args1, g1, g2.mono fun x σ' hx => by cases x with | ret u => exact hk _ _ hx | pan u => exact hx⟩
      · exact h.elim
    | invoke r m => exact hookE_mono hk h
  | _ => rw [hop] at h; exact hookE_mono hk h

theorem map_on {ρ ρ' : Operand → AV} (l : List Operand) (h : ∀ x ∈ l, ρ x = ρ' x) : l.map ρ = l.map ρ' := List.map_congr_left h
theorem parts_on {ρ ρ' : Operand → AV} (l : List (Nat × Operand)) (h : ∀ x ∈ l.map (·.2), ρ x = ρ' x) : (l.map fun p => (p.1, ρ p.2)) = l.map fun p => (p.1, ρ' p.2) :=
  List.map_congr_left fun p hp => by rw [h p.2 (List.mem_map.2 ⟨p, hp, rfl⟩)]
theorem opt_on {ρ ρ' : Operand → AV} (l : Option Operand) (h : ∀ x, l = some x → ρ x = ρ' x) : l.map ρ = l.map ρ' := by
  cases l with
  | none => rfl
  | some x => simp [h x rfl]

theorem semPure_on (o : Oper) (ρ ρ' : Operand → AV) (u : AV) (h : ∀ x ∈ o.op.operands, ρ x = ρ' x) (hp : semPure P o ρ u) : semPure P o ρ' u := by
  unfold semPure at hp ⊢
  cases hop : o.op with
  | call c =>
    rw [hop] at h hp
    simp only at hp ⊢
    obtain ⟨callee, args, ts⟩ := c
    have ha : args.toList.map ρ = args.toList.map ρ' := map_on _ fun x hx => h x (by simp [Op.operands, Call.operands]; exact .inr (Array.mem_toList_iff.1 hx))
    cases callee with
    | builtin b => simp only at hp ⊢; rw [← ha]; exact hp
    | value x =>
      have hx : ρ x = ρ' x := h x (by simp [Op.operands, Call.operands])
      simp only at hp ⊢; rw [← ha, ← hx]; exact hp
    | invoke r m => exact hp
  | build t parts =>
    rw [hop] at h hp
    have := parts_on parts.toList fun x hx => h x (by simpa [Op.operands] using hx)
    simp only at hp ⊢; rw [← this]; exact hp
  | buildSlice t n parts =>
    rw [hop] at h hp
    have := parts_on parts.toList fun x hx => h x (by simpa [Op.operands] using hx)
    simp only at hp ⊢; rw [← this]; exact hp
  | makeFunc f a b =>
    rw [hop] at h hp
    have h1 := map_on a.toList fun x hx => h x (by simp [Op.operands]; exact .inl (Array.mem_toList_iff.1 hx))
    have h2 := map_on b.toList fun x hx => h x (by simp [Op.operands]; exact .inr (Array.mem_toList_iff.1 hx))
    simp only at hp ⊢; rw [← h1, ← h2]; exact hp
  | slice t x lo hi mx =>
    rw [hop] at h hp
    have h0 := h x (by simp [Op.operands])
    have h1 := opt_on lo fun y hy => h y (by simp [Op.operands, hy])
    have h2 := opt_on hi fun y hy => h y (by simp [Op.operands, hy])
    have h3 := opt_on mx fun y hy => h y (by simp [Op.operands, hy])
    simp only at hp ⊢; rw [← h0, ← h1, ← h2, ← h3]; exact hp
  | typeAssert x xt T ok =>
    rw [hop] at h hp
    have hm := map_on (Op.typeAssert x xt T ok).operands.toList fun x hx => h x (Array.mem_toList_iff.1 hx)
    simp only at hp ⊢
    rw [← hm]; exact hp
  | _ =>
    rw [hop] at h hp
    first
    | exact hp
    | (simp only [Op.operands, List.mem_cons, List.not_mem_nil, or_false, forall_eq_or_imp, forall_eq, List.mem_toArray] at h
       first
       | (obtain ⟨h1, h2, h3⟩ := h; simp only at hp ⊢; rw [← h1, ← h2, ← h3]; exact hp)
       | (obtain ⟨h1, h2⟩ := h; simp only at hp ⊢; rw [← h1, ← h2]; exact hp)
       | (simp only at hp ⊢; rw [← h]; exact hp))

theorem semRead_on (o : Oper) (ρ ρ' : Operand → AV) (σ : Store) (u : AV) (h : ∀ x ∈ o.op.operands, ρ x = ρ' x) (hp : semRead P o ρ σ u) : semRead P o ρ' σ u := by
  unfold semRead at hp ⊢
  cases hop : o.op with
  | load t x =>
    rw [hop] at h hp
    have h0 := h x (by simp [Op.operands])
    simp only at hp ⊢; rw [← h0]; exact hp
  | _ =>
    rw [hop] at h hp
    simp only at hp ⊢
    rw [← map_on _ fun x hx => h x (Array.mem_toList_iff.1 hx)]; exact hp

theorem semEff_on (o : Oper) (ρ ρ' : Operand → AV) (σ : Store) (k kp : AV → Store → Prop) (h : ∀ x ∈ o.op.operands, ρ x = ρ' x) (hp : semEff P o ρ σ k kp) : semEff P o ρ' σ k kp := by
  unfold semEff at hp ⊢
  cases hop : o.op with
  | call c =>
    rw [hop] at h hp
    simp only at hp ⊢
    obtain ⟨callee, args, ts⟩ := c
    have ha : args.toList.map ρ = args.toList.map ρ' := map_on _ fun x hx => h x (by simp [Op.operands, Call.operands]; exact .inr (Array.mem_toList_iff.1 hx))
    cases callee with
    | builtin b =>
      simp only at hp ⊢
      split at hp
      · rename_i d x t xt h1 h2
        have hd : ρ d = ρ' d := h d (by simp [Op.operands, Call.operands]; exact Array.mem_toList_iff.1 (by rw [h1]; simp))
        have hx : ρ x = ρ' x := h x (by simp [Op.operands, Call.operands]; exact Array.mem_toList_iff.1 (by rw [h1]; simp))
        rw [← hd, ← hx]; exact hp
      · rw [← map_on _ fun x hx => h x (Array.mem_toList_iff.1 hx)]; exact hp
    | value x =>
      have hx : ρ x = ρ' x := h x (by simp [Op.operands, Call.operands])
      simp only at hp ⊢; rw [← ha, ← hx]; exact hp
    | invoke r m =>
      simp only at hp ⊢
      rw [← map_on _ fun x hx => h x (Array.mem_toList_iff.1 hx)]; exact hp
  | buildSlice t n parts =>
    rw [hop] at h hp
    have := parts_on parts.toList fun x hx => h x (by simpa [Op.operands] using hx)
    simp only at hp ⊢; rw [← this]; exact hp
  | _ =>
    rw [hop] at h hp
    first
    | exact hp
    | (simp only [Op.operands, List.mem_cons, List.not_mem_nil, or_false, forall_eq_or_imp, forall_eq, List.mem_toArray] at h
       first
       | (obtain ⟨h1, h2⟩ := h; simp only at hp ⊢; rw [← h1, ← h2]; exact hp)
       | (simp only at hp ⊢; rw [← h]; exact hp))
    | (simp only at hp ⊢; rw [← map_on _ fun x hx => h x (Array.mem_toList_iff.1 hx)]; exact hp)

/-- What is told at once. -/
def semFn (P : Program) (o : Oper) (ρ : Operand → AV) : Option AV := match o.op with
  | .move x => some (ρ x)
  | .assign x => some (ρ x)
  | .makeFunc f a b => some (.fn f (a.toList.map ρ) (b.toList.map ρ))
  | .makeInterface t x => bif P.concrete t then some (.ifc t (ρ x)) else none
  | _ => none
theorem semFn_ok (M : Mark) (o : Oper) (ρ : Operand → AV) (u : AV) (h : semFn P o ρ = some u) : semCls M o = .pure ∧ semPure P o ρ u := by
  unfold semFn at h
  unfold semCls semPure
  split at h
  · rename_i x hop; rw [hop]; exact ⟨rfl, (Option.some.inj h).symm⟩
  · rename_i x hop; rw [hop]; exact ⟨rfl, (Option.some.inj h).symm⟩
  · rename_i f a b hop; rw [hop]; exact ⟨rfl, (Option.some.inj h).symm⟩
  · rename_i t x hop
    rw [hop]
    cases hc : P.concrete t with
    | false => rw [hc] at h; cases h
    | true => rw [hc] at h; simp only [hc, cond_true]; exact ⟨trivial, (Option.some.inj h).symm⟩
  · cases h
/-- The meaning of operations. -/
def semOf (P : Program) (M : Mark) : Sem' P where
  cls := semCls M
  pure := semPure P
  read := semRead P
  eff := semEff P
  pureOk := semPure_ok
  readOk := semRead_ok
  effOk := semEff_ok
  mono := semEff_mono
  pureOn := semPure_on
  readOn := semRead_on
  effOn := semEff_on
  fn := semFn P
  fnOk := semFn_ok M

end Go.Ab
