/- The texts that this claim needs, part 14: a logic over abstract values, its steps, what the functions do. No condition of its own. -/
import Derived.Test.YtghihffhjpchpaaGreatMoveKeepsK13
/- A merge, walked. -/
set_option linter.unusedVariables false
set_option linter.unusedSimpArgs false
namespace Go.Ab
instance (l : List En) : IsL (enL l) En.av 4 l .ro := by
  first | exact ⟨rfl⟩ | exact ⟨⟨rfl⟩⟩ | (constructor; rfl) | (constructor; exact SubV.refl _)
theorem totL_le' {n : Nat} : ∀ {ls : List (List En)}, (∀ l ∈ ls, l.length ≤ n) → totL ls ≤ n * ls.length
  | [], _ => Nat.zero_le _
  | r :: ls, h => by
    have h1 := h r List.mem_cons_self
    have h2 := totL_le' (ls := ls) fun r hr => h r (List.mem_cons_of_mem _ hr)
    show r.length + totL ls ≤ n * (ls.length + 1)
    rw [Nat.mul_add]
    omega
theorem Merge_ok (ls : List (List En)) (b : Bool) (m : SM) (hl : ls.length ≤ 1000) (hs : ∀ l ∈ ls, l.length ≤ 1000) : aPure Go.Proofs.Tryz.prog 35 [.lst 1 (ls.map enL) m, B b] (.lst 4 ((mergeL b ls).map En.av) .ro) := by
  refine ACalls.fin (merge_Merge.go ?_)
  unfold merge_Merge.sh
  repeat' (first|with_reducible (first|apply Stp.go|refine imp fun _=>?_|(refine need ?_ ?_;first|trivial|omega|exact ⟨by assumption,by omega⟩|(simp only [zL,zM];omega))|refine choT (by assumption) ?_|refine choF (by assumption) ?_|refine choF' (by assumption) ?_|(refine altT ?_ ?_;first|omega|(simp only [zL,zM];omega))|refine altF ?_|refine all fun _=>?_|refine both ?_ ?_|(refine choT ?_ ?_;omega)|(refine choF ?_ ?_;omega)|refine cho (fun _=>?_) fun _=>?_)|(with_reducible refine fact ?_ ?_;first|trivial|exact ⟨rfl,rfl⟩|kernel_rfl))
  rename_i bh
  refine loopI (β := Nat × Value × List Cur) (fun x => x.1 ≤ ls.length ∧ Made ls x.1 x.2.2) (fun x => [B b, ptrAt bh 0, .lst 1 (ls.map enL) m, I .i64 (ls.length : Nat), I .i64 (x.1 : Nat)]) (fun x => hS bh x.2.1 x.2.2 (x.2.2.reverse.map curE)) (fun x => ls.length - x.1) (0, .slice none 0 0, []) ⟨Nat.zero_le _, made_zero ls⟩ (Sub.nilIn2 (pre := []) PtT (sz := 1) (by decide) _) ?_
  rintro ⟨i, v, C⟩ ⟨h1, h2⟩
  dsimp only at h1 h2 ⊢
  by_cases hi : i < ls.length
  · have hget : ls[i]? = some (ls.getD i default) := by
      rw [List.getD_eq_getElem?_getD, List.getElem?_eq_getElem hi]; rfl
    have hll : (ls.getD i default).length ≤ 1000 := hs _ (getD_memT hi)
    have hC := h2.le
    repeat' (first|with_reducible (first|apply Stp.go|refine imp fun _=>?_|(refine need ?_ ?_;first|trivial|omega|exact ⟨by assumption,by omega⟩|(simp only [zL,zM];omega))|refine choT (by assumption) ?_|refine choF (by assumption) ?_|refine choF' (by assumption) ?_|(refine altT ?_ ?_;first|omega|(simp only [zL,zM];omega))|refine altF ?_|refine all fun _=>?_|refine both ?_ ?_|(refine choT ?_ ?_;omega)|(refine choF ?_ ?_;omega)|refine cho (fun _=>?_) fun _=>?_)|(with_reducible refine fact ?_ ?_;first|trivial|exact ⟨rfl,rfl⟩|kernel_rfl))
    generalize ls.getD i default = l at *
    rw [show enL l = .lst 4 (l.map En.av) .ro from rfl]
    by_cases h0 : 0 < l.length
    · repeat' (first|with_reducible (first|apply Stp.go|refine imp fun _=>?_|(refine need ?_ ?_;first|trivial|omega|exact ⟨by assumption,by omega⟩|(simp only [zL,zM];omega))|refine choT (by assumption) ?_|refine choF (by assumption) ?_|refine choF' (by assumption) ?_|(refine altT ?_ ?_;first|omega|(simp only [zL,zM];omega))|refine altF ?_|refine all fun _=>?_|refine both ?_ ?_|(refine choT ?_ ?_;omega)|(refine choF ?_ ?_;omega)|refine cho (fun _=>?_) fun _=>?_)|(with_reducible refine fact ?_ ?_;first|trivial|exact ⟨rfl,rfl⟩|kernel_rfl))
      rename_i x
      rw [show ptrAt x 0 = cuP ⟨x, l, 0, i⟩ from rfl]
      repeat' (first|with_reducible (first|apply Stp.go|refine imp fun _=>?_|(refine need ?_ ?_;first|trivial|omega|exact ⟨by assumption,by omega⟩|(simp only [zL,zM];omega))|refine choT (by assumption) ?_|refine choF (by assumption) ?_|refine choF' (by assumption) ?_|(refine altT ?_ ?_;first|omega|(simp only [zL,zM];omega))|refine altF ?_|refine all fun _=>?_|refine both ?_ ?_|(refine choT ?_ ?_;omega)|(refine choF ?_ ?_;omega)|refine cho (fun _=>?_) fun _=>?_)|(with_reducible refine fact ?_ ?_;first|trivial|exact ⟨rfl,rfl⟩|kernel_rfl))
      rename_i w
      refine again (i + 1, w, C ++ [⟨x, l, 0, i⟩]) (by dsimp only; omega) ⟨by dsimp only; omega, made_more h2 hget h0⟩ ?_
      refine Sub.perm ?_ _
      dsimp only
      rw [List.reverse_append]
      exact (List.perm_middle (l₁ := [_, _])).symm
    · have hn : l = [] := List.length_eq_zero_iff.1 (by omega)
      subst hn
      repeat' (first|with_reducible (first|apply Stp.go|refine imp fun _=>?_|(refine need ?_ ?_;first|trivial|omega|exact ⟨by assumption,by omega⟩|(simp only [zL,zM];omega))|refine choT (by assumption) ?_|refine choF (by assumption) ?_|refine choF' (by assumption) ?_|(refine altT ?_ ?_;first|omega|(simp only [zL,zM];omega))|refine altF ?_|refine all fun _=>?_|refine both ?_ ?_|(refine choT ?_ ?_;omega)|(refine choF ?_ ?_;omega)|refine cho (fun _=>?_) fun _=>?_)|(with_reducible refine fact ?_ ?_;first|trivial|exact ⟨rfl,rfl⟩|kernel_rfl))
      all_goals exact again (i + 1, v, C) (by dsimp only; omega) ⟨by dsimp only; omega, made_skip h2 hget⟩ (Sub.refl _ _)
  · have e : i = ls.length := by omega
    subst e
    have hr := made_rel h2
    have hC := h2.le
    have hcl : ∀ c ∈ C, c.l.length ≤ 1000 := fun c hc => hs _ (List.mem_of_getElem? (h2.ok c hc).2.2.1)
    clear h2
    repeat' (first|with_reducible (first|apply Stp.go|refine imp fun _=>?_|(refine need ?_ ?_;first|trivial|omega|exact ⟨by assumption,by omega⟩|(simp only [zL,zM];omega))|refine choT (by assumption) ?_|refine choF (by assumption) ?_|refine choF' (by assumption) ?_|(refine altT ?_ ?_;first|omega|(simp only [zL,zM];omega))|refine altF ?_|refine all fun _=>?_|refine both ?_ ?_|(refine choT ?_ ?_;omega)|(refine choF ?_ ?_;omega)|refine cho (fun _=>?_) fun _=>?_)|(with_reducible refine fact ?_ ?_;first|trivial|exact ⟨rfl,rfl⟩|kernel_rfl))
    refine Or.inl ⟨_, _, Sub.refl _ _, (heapInit_ok bh v C (C.reverse.map curE) (by omega) (fun c hc => ⟨List.mem_map.2 ⟨c, List.mem_reverse.2 hc, rfl⟩, (hr.at_ c hc).1⟩)).mono ?_⟩
    rintro r τ ⟨e1, e2⟩
    rw [e1, e2]
    simp only [onEnd]
    have hG := init_perm C
    have hH : HeapFrom (initF C (C.length / 2)) (initF C (C.length / 2)).length 0 := by rw [hG.length_eq]; exact heap_init C
    replace hr := hr.perm hG
    have hCs : ∀ c ∈ initF C (C.length / 2), c ∈ C.reverse ∧ c.l.length ≤ 1000 := fun c hc => ⟨List.mem_reverse.2 (hG.mem_iff.1 hc), hcl c (hG.mem_iff.1 hc)⟩
    have hGl : (initF C (C.length / 2)).length ≤ 1000 := by rw [hG.length_eq]; omega
    clear e1 e2 hG hcl
    generalize initF C (C.length / 2) = G at *
    generalize C.reverse = Cs at *
    clear hC C
    refine loopI (β := Value × List Cur × List Cur × List (List En) × Value × List En)
      (fun x => HeapFrom x.2.1 x.2.1.length 0 ∧ Rel x.2.1 x.2.2.2.1 ∧ (∀ c ∈ x.2.1, c ∈ x.2.2.1 ∧ c.l.length ≤ 1000) ∧ x.2.1.length ≤ 1000 ∧ x.2.2.2.2.2 ++ mergeL b x.2.2.2.1 = mergeL b ls ∧ x.2.2.2.2.2.length + totL x.2.2.2.1 ≤ totL ls)
      (fun x => [B b, ptrAt bh 0, .own x.2.2.2.2.1 x.2.2.2.2.2.length])
      (fun x => hS bh x.1 x.2.1 (.row x.2.2.2.2.1 50 4 (x.2.2.2.2.2.map En.av) 0 :: x.2.2.1.map curE))
      (fun x => totL x.2.2.2.1) (v, G, Cs, ls, .slice none 0 0, []) ⟨hH, hr, hCs, hGl, rfl, by simp⟩ ?_ ?_
    · refine (Sub.nil_own 50 (sz := 4) (by decide) _ [_, _] []).trans (Sub.perm ?_ _)
      exact (List.perm_middle (l₁ := [_, _])).symm
    rintro ⟨v, H, Cs, lq, w, out⟩ ⟨g1, g2, g3, g4, g5, g6⟩
    dsimp only at g1 g2 g3 g4 g5 g6 ⊢
    by_cases h0 : 0 < H.length
    · have hd := g2.at_ _ (getD_memT h0)
      have hin := (g3 _ (getD_memT h0)).1
      have hlst := rel_least g2 g1 h0
      repeat' (first|with_reducible (first|apply Stp.go|refine imp fun _=>?_|(refine need ?_ ?_;first|trivial|omega|exact ⟨by assumption,by omega⟩|(simp only [zL,zM];omega))|refine choT (by assumption) ?_|refine choF (by assumption) ?_|refine choF' (by assumption) ?_|(refine altT ?_ ?_;first|omega|(simp only [zL,zM];omega))|refine altF ?_|refine all fun _=>?_|refine both ?_ ?_|(refine choT ?_ ?_;omega)|(refine choF ?_ ?_;omega)|refine cho (fun _=>?_) fun _=>?_)|(with_reducible refine fact ?_ ?_;first|trivial|exact ⟨rfl,rfl⟩|kernel_rfl))
      refine Or.inl ⟨_, _, Sub.refl _ _, (head_ok hd.1 (List.mem_cons_of_mem _ (List.mem_cons_of_mem _ (List.mem_cons_of_mem _ (List.mem_map.2 ⟨_, hin, rfl⟩))))).mono ?_⟩
      rintro r τ ⟨e1, e2⟩
      rw [e1, e2]
      simp only [onEnd]
      clear e1 e2
      generalize hE : hdC (H.getD 0 default) = E at *
      repeat' (first|with_reducible (first|apply Stp.go|refine imp fun _=>?_|(refine need ?_ ?_;first|trivial|omega|exact ⟨by assumption,by omega⟩|(simp only [zL,zM];omega))|refine choT (by assumption) ?_|refine choF (by assumption) ?_|refine choF' (by assumption) ?_|(refine altT ?_ ?_;first|omega|(simp only [zL,zM];omega))|refine altF ?_|refine all fun _=>?_|refine both ?_ ?_|(refine choT ?_ ?_;omega)|(refine choF ?_ ?_;omega)|refine cho (fun _=>?_) fun _=>?_)|(with_reducible refine fact ?_ ?_;first|trivial|exact ⟨rfl,rfl⟩|kernel_rfl))
      rename_i eb
      refine loopI (β := Value × List Cur × Value × List Cur)
        (fun x => Outs H x.2.1 x.2.2.2 E.key)
        (fun x => [B b, ptrAt bh 0, .own w out.length, ptrAt eb 0, .own x.2.2.1 x.2.2.2.length])
        (fun x => hS bh x.1 x.2.1 (.row x.2.2.1 PtT 1 (x.2.2.2.map cuP) 0 :: .var eb 50 E.cs :: .row w 50 4 (out.map En.av) 0 :: Cs.map curE))
        (fun x => x.2.1.length) (v, H, .slice none 0 0, []) (outs_start _ g1) ?_ ?_
      · refine (Sub.nil_own PtT (sz := 1) (by decide) _ [_, _, _, _] []).trans (Sub.perm ?_ _)
        exact (List.perm_append_comm (l₁ := [_, _]) (l₂ := [_, _])).append_right _
      rintro ⟨v2, H2, w2, rd⟩ o1
      dsimp only at o1 ⊢
      have hl2 : H2.length + rd.length = H.length := by rw [← o1.perm.length_eq, List.length_append]
      have hs2 : ∀ c ∈ H2, c ∈ Cs ∧ c.at_ < c.l.length := fun c hc => by
        have := o1.perm.mem_iff.1 (List.mem_append_left _ hc)
        exact ⟨(g3 c this).1, (g2.at_ c this).1⟩
      repeat' (first|with_reducible (first|apply Stp.go|refine imp fun _=>?_|(refine need ?_ ?_;first|trivial|omega|exact ⟨by assumption,by omega⟩|(simp only [zL,zM];omega))|refine choT (by assumption) ?_|refine choF (by assumption) ?_|refine choF' (by assumption) ?_|(refine altT ?_ ?_;first|omega|(simp only [zL,zM];omega))|refine altF ?_|refine all fun _=>?_|refine both ?_ ?_|(refine choT ?_ ?_;omega)|(refine choF ?_ ?_;omega)|refine cho (fun _=>?_) fun _=>?_)|(with_reducible refine fact ?_ ?_;first|trivial|exact ⟨rfl,rfl⟩|kernel_rfl))
      refine joinI (β := Unit) (fun _ => True) (fun _ => [B b, ptrAt bh 0, .own w out.length, ptrAt eb 0, .own w2 rd.length, B (decide (0 < H2.length ∧ (hdC (H2.getD 0 default)).key = E.key))])
        (fun _ => hS bh v2 H2 (.row w2 PtT 1 (rd.map cuP) 0 :: .var eb 50 E.cs :: .row w 50 4 (out.map En.av) 0 :: Cs.map curE)) ?_ ?_
      · by_cases h02 : 0 < H2.length
        · have hin2 := hs2 _ (getD_memT h02)
          have e2 : decide (0 < H2.length) = true := decide_eq_true h02
          repeat' (first|with_reducible (first|apply Stp.go|refine imp fun _=>?_|(refine need ?_ ?_;first|trivial|omega|exact ⟨by assumption,by omega⟩|(simp only [zL,zM];omega))|refine choT (by assumption) ?_|refine choF (by assumption) ?_|refine choF' (by assumption) ?_|(refine altT ?_ ?_;first|omega|(simp only [zL,zM];omega))|refine altF ?_|refine all fun _=>?_|refine both ?_ ?_|(refine choT ?_ ?_;omega)|(refine choF ?_ ?_;omega)|refine cho (fun _=>?_) fun _=>?_)|(with_reducible refine fact ?_ ?_;first|trivial|exact ⟨rfl,rfl⟩|kernel_rfl))
          all_goals
            refine Or.inl ⟨_, _, Sub.refl _ _, (head_ok hin2.2 (List.mem_cons_of_mem _ (List.mem_cons_of_mem _ (List.mem_cons_of_mem _ (List.mem_cons_of_mem _ (List.mem_cons_of_mem _ (List.mem_map.2 ⟨_, hin2.1, rfl⟩))))))).mono ?_⟩
            rintro r τ ⟨e1, e4⟩
            rw [e1, e4]
            simp only [onEnd]
            clear e1 e4
            generalize hdC (H2.getD 0 default) = E2
            have e3 : decide (0 < H2.length ∧ E2.key = E.key) = decide (E2.key = E.key) := by
              by_cases h : E2.key = E.key
              · rw [decide_eq_true h, decide_eq_true ⟨h02, h⟩]
              · rw [decide_eq_false h, decide_eq_false fun g => h g.2]
            rw [e3, e2]
            repeat' (first|with_reducible (first|apply Stp.go|refine imp fun _=>?_|(refine need ?_ ?_;first|trivial|omega|exact ⟨by assumption,by omega⟩|(simp only [zL,zM];omega))|refine choT (by assumption) ?_|refine choF (by assumption) ?_|refine choF' (by assumption) ?_|(refine altT ?_ ?_;first|omega|(simp only [zL,zM];omega))|refine altF ?_|refine all fun _=>?_|refine both ?_ ?_|(refine choT ?_ ?_;omega)|(refine choF ?_ ?_;omega)|refine cho (fun _=>?_) fun _=>?_)|(with_reducible refine fact ?_ ?_;first|trivial|exact ⟨rfl,rfl⟩|kernel_rfl))
            all_goals exact meet () trivial (Sub.refl _ _)
        · rw [decide_eq_false (fun h => h02 h.1)]
          repeat' (first|with_reducible (first|apply Stp.go|refine imp fun _=>?_|(refine need ?_ ?_;first|trivial|omega|exact ⟨by assumption,by omega⟩|(simp only [zL,zM];omega))|refine choT (by assumption) ?_|refine choF (by assumption) ?_|refine choF' (by assumption) ?_|(refine altT ?_ ?_;first|omega|(simp only [zL,zM];omega))|refine altF ?_|refine all fun _=>?_|refine both ?_ ?_|(refine choT ?_ ?_;omega)|(refine choF ?_ ?_;omega)|refine cho (fun _=>?_) fun _=>?_)|(with_reducible refine fact ?_ ?_;first|trivial|exact ⟨rfl,rfl⟩|kernel_rfl))
          all_goals exact meet () trivial (Sub.refl _ _)
      · rintro ⟨⟩ -
        by_cases hk : 0 < H2.length ∧ (hdC (H2.getD 0 default)).key = E.key
        · rw [decide_eq_true hk]
          repeat' (first|with_reducible (first|apply Stp.go|refine imp fun _=>?_|(refine need ?_ ?_;first|trivial|omega|exact ⟨by assumption,by omega⟩|(simp only [zL,zM];omega))|refine choT (by assumption) ?_|refine choF (by assumption) ?_|refine choF' (by assumption) ?_|(refine altT ?_ ?_;first|omega|(simp only [zL,zM];omega))|refine altF ?_|refine all fun _=>?_|refine both ?_ ?_|(refine choT ?_ ?_;omega)|(refine choF ?_ ?_;omega)|refine cho (fun _=>?_) fun _=>?_)|(with_reducible refine fact ?_ ?_;first|trivial|exact ⟨rfl,rfl⟩|kernel_rfl))
          have hpo := (pop_all hk.1 o1.heap).1
          refine Or.inl ⟨_, _, Sub.refl _ _, (heapPop_ok bh v2 H2 _ (by omega) hk.1 (fun c hc => ⟨List.mem_cons_of_mem _ (List.mem_cons_of_mem _ (List.mem_cons_of_mem _ (List.mem_map.2 ⟨_, (hs2 c hc).1, rfl⟩))), (hs2 c hc).2⟩)).mono ?_⟩
          rintro r τ ⟨e1, v3, e2⟩
          rw [e1, e2]
          simp only [onEnd]
          clear e1 e2
          rw [hpo]
          have hst := outs_step o1 hk.1 hk.2
          have hpl := pop_len (H := H2)
          generalize (popH H2).take (H2.length - 1) = H3 at *
          generalize H2.getD 0 default = c0 at *
          repeat' (first|with_reducible (first|apply Stp.go|refine imp fun _=>?_|(refine need ?_ ?_;first|trivial|omega|exact ⟨by assumption,by omega⟩|(simp only [zL,zM];omega))|refine choT (by assumption) ?_|refine choF (by assumption) ?_|refine choF' (by assumption) ?_|(refine altT ?_ ?_;first|omega|(simp only [zL,zM];omega))|refine altF ?_|refine all fun _=>?_|refine both ?_ ?_|(refine choT ?_ ?_;omega)|(refine choF ?_ ?_;omega)|refine cho (fun _=>?_) fun _=>?_)|(with_reducible refine fact ?_ ?_;first|trivial|exact ⟨rfl,rfl⟩|kernel_rfl))
          rename_i w3
          exact again (v3, H3, w3, rd ++ [c0]) (by dsimp only; omega) hst (Sub.refl _ _)
        · rw [decide_eq_false hk]
          have hle : ∀ c ∈ H, lt (hdC c).key E.key = false := fun c hc => by
            obtain ⟨p, hp, e1⟩ := List.getElem_of_mem hc
            have hl := heap_least g1 p p rfl hp
            rw [getD_sv hp, e1, leC_iff, hE] at hl
            rcases hl with g | ⟨g, _⟩
            · exact lt_asymm g
            · rw [← g]; exact lt_irrefl _
          have hne := outs_end o1 hle (fun h e => hk ⟨h, e⟩)
          have hhalf := half_start g2 o1.perm o1.key hne o1.heap
          have hms := mergeL_some (b := b) hlst
          have hlt : totL (passA E.key lq) < totL lq := by
            obtain ⟨l, a1, t, a2⟩ := leastH_mem hlst
            exact passA_lt ⟨l, a1, E, t, a2, rfl⟩
          have hrd : ∀ c ∈ rd, c ∈ Cs ∧ c.l.length ≤ 1000 := fun c hc => g3 c (o1.perm.mem_iff.1 (List.mem_append_right _ hc))
          have hH2 : ∀ c ∈ H2, c ∈ Cs ∧ c.l.length ≤ 1000 := fun c hc => g3 c (o1.perm.mem_iff.1 (List.mem_append_left _ hc))
          clear hk hle hne o1 hs2
          repeat' (first|with_reducible (first|apply Stp.go|refine imp fun _=>?_|(refine need ?_ ?_;first|trivial|omega|exact ⟨by assumption,by omega⟩|(simp only [zL,zM];omega))|refine choT (by assumption) ?_|refine choF (by assumption) ?_|refine choF' (by assumption) ?_|(refine altT ?_ ?_;first|omega|(simp only [zL,zM];omega))|refine altF ?_|refine all fun _=>?_|refine both ?_ ?_|(refine choT ?_ ?_;omega)|(refine choF ?_ ?_;omega)|refine cho (fun _=>?_) fun _=>?_)|(with_reducible refine fact ?_ ?_;first|trivial|exact ⟨rfl,rfl⟩|kernel_rfl))
          have hto : out.length + 1 ≤ 1000000 := by
            have := totL_le' hs
            have := Nat.mul_le_mul_left 1000 hl
            omega
          obtain ⟨pc, hpc⟩ : ∃ pc : List En, (if (b && E.del) = true then [] else [E]) = pc := ⟨_, rfl⟩
          rw [hpc] at hms
          have hpl : pc.length ≤ 1 := by rw [← hpc]; split <;> simp
          refine joinI (β := Value) (fun _ => True) (fun w' => [B b, ptrAt bh 0, .own w' (out ++ pc).length, .own w2 rd.length])
            (fun w' => hS bh v2 H2 (.row w2 PtT 1 (rd.map cuP) 0 :: .row w' 50 4 ((out ++ pc).map En.av) 0 :: Cs.map curE)) ?_ ?_
          · have hno : pc = [] → ∀ σ : Store, (out ++ pc).map En.av = out.map En.av ∧ (out ++ pc).length = out.length := fun h _ => by rw [h, List.append_nil]; exact ⟨rfl, rfl⟩
            cases b <;> cases hd2 : E.del <;> rw [hd2] at hpc <;> simp only [Bool.false_and, Bool.true_and, Bool.and_true, Bool.false_eq_true, if_true, if_false] at hpc <;> subst hpc
            all_goals
              repeat' (first|with_reducible (first|apply Stp.go|refine imp fun _=>?_|(refine need ?_ ?_;first|trivial|omega|exact ⟨by assumption,by omega⟩|(simp only [zL,zM];omega))|refine choT (by assumption) ?_|refine choF (by assumption) ?_|refine choF' (by assumption) ?_|(refine altT ?_ ?_;first|omega|(simp only [zL,zM];omega))|refine altF ?_|refine all fun _=>?_|refine both ?_ ?_|(refine choT ?_ ?_;omega)|(refine choF ?_ ?_;omega)|refine cho (fun _=>?_) fun _=>?_)|(with_reducible refine fact ?_ ?_;first|trivial|exact ⟨rfl,rfl⟩|kernel_rfl))
              all_goals first
              | (rw [List.append_nil]
                 exact meet w trivial (Sub.drop_ (.cons_cons _ (.cons_cons _ (.cons_cons _ (.cons _ (.refl _))))) _))
              | (rename_i w3
                 exact meet w3 trivial (Sub.drop_ (.cons_cons _ (.cons_cons _ (.cons_cons _ (.cons _ (.refl _))))) _))
              | (exfalso; contradiction)
          · intro w' _
            rw [hms, ← List.append_assoc] at g5
            have ho6 : (out ++ pc).length + totL (passA E.key lq) ≤ totL ls := by rw [List.length_append]; omega
            generalize out ++ pc = out2 at *
            clear hpc hms hpl hto g6
            generalize hlq : passA E.key lq = lq2 at *
            have hl3 : rd.length + H2.length ≤ 1000 := by omega
            repeat' (first|with_reducible (first|apply Stp.go|refine imp fun _=>?_|(refine need ?_ ?_;first|trivial|omega|exact ⟨by assumption,by omega⟩|(simp only [zL,zM];omega))|refine choT (by assumption) ?_|refine choF (by assumption) ?_|refine choF' (by assumption) ?_|(refine altT ?_ ?_;first|omega|(simp only [zL,zM];omega))|refine altF ?_|refine all fun _=>?_|refine both ?_ ?_|(refine choT ?_ ?_;omega)|(refine choF ?_ ?_;omega)|refine cho (fun _=>?_) fun _=>?_)|(with_reducible refine fact ?_ ?_;first|trivial|exact ⟨rfl,rfl⟩|kernel_rfl))
            refine loopI (β := Nat × Value × List Cur × List Cur)
              (fun x => x.1 ≤ rd.length ∧ Half x.2.2.1 (rd.drop x.1) lq E.key ∧ (∀ c ∈ x.2.2.1, c ∈ x.2.2.2 ∧ c.l.length ≤ 1000) ∧ (∀ c ∈ rd.drop x.1, c ∈ x.2.2.2 ∧ c.l.length ≤ 1000) ∧ (rd.drop x.1).length + x.2.2.1.length ≤ 1000)
              (fun x => [B b, ptrAt bh 0, .own w' out2.length, .own w2 rd.length, I .i64 (rd.length : Nat), I .i64 (x.1 : Nat)])
              (fun x => hS bh x.2.1 x.2.2.1 (.row w2 PtT 1 (rd.map cuP) 0 :: .row w' 50 4 (out2.map En.av) 0 :: x.2.2.2.map curE))
              (fun x => rd.length - x.1) (0, v2, H2, Cs) ⟨Nat.zero_le _, by dsimp only; rw [List.drop_zero]; exact hhalf, hH2, by dsimp only; rw [List.drop_zero]; exact hrd, by dsimp only; rw [List.drop_zero]; omega⟩ (Sub.refl _ _) ?_
            rintro ⟨j, v5, G5, C5⟩ ⟨k1, k2, k3, k4, k5⟩
            dsimp only at k1 k2 k3 k4 k5 ⊢
            by_cases hj : j < rd.length
            · have hdr : rd.drop j = rd.getD j default :: rd.drop (j + 1) := by
                rw [List.drop_eq_getElem_cons hj, List.getD_eq_getElem?_getD, List.getElem?_eq_getElem hj]; rfl
              rw [hdr] at k2 k4 k5
              generalize hc : rd.getD j default = c at *
              have kc := k4 c List.mem_cons_self
              have kat := (k2.out c List.mem_cons_self).1
              obtain ⟨s1, s2, hC⟩ := List.append_of_mem kc.1
              have kone := k2.one
              rw [List.map_append, List.map_cons] at kone
              have kne : ∀ d, (d ∈ G5 ∨ d ∈ rd.drop (j + 1)) → d ≠ c := fun d hd e => by
                subst e
                rw [List.nodup_append] at kone
                rcases hd with hd | hd
                · exact kone.2.2 _ (List.mem_map.2 ⟨_, hd, rfl⟩) _ List.mem_cons_self rfl
                · exact (List.nodup_cons.1 kone.2.1).1 (List.mem_map.2 ⟨_, hd, rfl⟩)
              have kin : ∀ d, d ∈ C5 → d ≠ c → d ∈ s1 ++ c.up :: s2 := fun d hd hn => by
                rw [hC] at hd
                rcases List.mem_append.1 hd with hd | hd
                · exact List.mem_append_left _ hd
                · rcases List.mem_cons.1 hd with hd | hd
                  · exact (hn hd).elim
                  · exact List.mem_append_right _ (List.mem_cons_of_mem _ hd)
              have hp5 : ∀ (c' : Cur) (v' : Value) (G' : List Cur) (A B' : Ent), (hS bh v' G' (A :: B' :: (s1 ++ c' :: s2).map curE)).Perm ([curE c'] ++ hS bh v' G' (A :: B' :: (s1 ++ s2).map curE)) := fun c' v' G' A B' => by
                rw [List.map_append, List.map_cons, List.map_append]
                exact List.perm_middle (l₁ := _ :: _ :: _ :: _ :: s1.map curE)
              repeat' (first|with_reducible (first|apply Stp.go|refine imp fun _=>?_|(refine need ?_ ?_;first|trivial|omega|exact ⟨by assumption,by omega⟩|(simp only [zL,zM];omega))|refine choT (by assumption) ?_|refine choF (by assumption) ?_|refine choF' (by assumption) ?_|(refine altT ?_ ?_;first|omega|(simp only [zL,zM];omega))|refine altF ?_|refine all fun _=>?_|refine both ?_ ?_|(refine choT ?_ ?_;omega)|(refine choF ?_ ?_;omega)|refine cho (fun _=>?_) fun _=>?_)|(with_reducible refine fact ?_ ?_;first|trivial|exact ⟨rfl,rfl⟩|kernel_rfl))
              rw [hc]
              subst hC
              refine Or.inl ⟨_, _, Sub.perm (hp5 _ _ _ _ _) _, ((pass_one c kat (by omega)).frame _).mono ?_⟩
              rintro r τ ⟨σ1, e1, _, e2, e3⟩
              rw [e2, e1, e3]
              simp only [onEnd]
              clear e1 e2 e3
              rw [show (⟨c.b, c.l, c.at_ + 1, c.no⟩ : Cur) = c.up from rfl]
              have kG : ∀ d ∈ G5, d ∈ s1 ++ c.up :: s2 ∧ d.l.length ≤ 1000 := fun d hd => ⟨kin d (k3 d hd).1 (kne d (.inl hd)), (k3 d hd).2⟩
              have kR : ∀ d ∈ rd.drop (j + 1), d ∈ s1 ++ c.up :: s2 ∧ d.l.length ≤ 1000 := fun d hd => ⟨kin d (k4 d (List.mem_cons_of_mem _ hd)).1 (kne d (.inr hd)), (k4 d (List.mem_cons_of_mem _ hd)).2⟩
              have kup : c.up ∈ s1 ++ c.up :: s2 := List.mem_append_right _ List.mem_cons_self
              rw [List.length_cons] at k5
              by_cases hup : c.at_ + 1 < c.l.length
              · rw [decide_eq_true hup]
                repeat' (first|with_reducible (first|apply Stp.go|refine imp fun _=>?_|(refine need ?_ ?_;first|trivial|omega|exact ⟨by assumption,by omega⟩|(simp only [zL,zM];omega))|refine choT (by assumption) ?_|refine choF (by assumption) ?_|refine choF' (by assumption) ?_|(refine altT ?_ ?_;first|omega|(simp only [zL,zM];omega))|refine altF ?_|refine all fun _=>?_|refine both ?_ ?_|(refine choT ?_ ?_;omega)|(refine choF ?_ ?_;omega)|refine cho (fun _=>?_) fun _=>?_)|(with_reducible refine fact ?_ ?_;first|trivial|exact ⟨rfl,rfl⟩|kernel_rfl))
                refine Or.inl ⟨_, _, Sub.perm (hp5 c.up _ _ _ _).symm _, (heapPush_ok bh v5 G5 c.up _ (by omega) (fun d hd => ⟨List.mem_cons_of_mem _ (List.mem_cons_of_mem _ (List.mem_map.2 ⟨d, (kG d hd).1, rfl⟩)), (k2.at_ d hd).1⟩) (List.mem_cons_of_mem _ (List.mem_cons_of_mem _ (List.mem_map.2 ⟨_, kup, rfl⟩))) hup).mono ?_⟩
                rintro r τ ⟨e1, v6, e2⟩
                rw [e1, e2]
                simp only [onEnd]
                clear e1 e2
                repeat' (first|with_reducible (first|apply Stp.go|refine imp fun _=>?_|(refine need ?_ ?_;first|trivial|omega|exact ⟨by assumption,by omega⟩|(simp only [zL,zM];omega))|refine choT (by assumption) ?_|refine choF (by assumption) ?_|refine choF' (by assumption) ?_|(refine altT ?_ ?_;first|omega|(simp only [zL,zM];omega))|refine altF ?_|refine all fun _=>?_|refine both ?_ ?_|(refine choT ?_ ?_;omega)|(refine choF ?_ ?_;omega)|refine cho (fun _=>?_) fun _=>?_)|(with_reducible refine fact ?_ ?_;first|trivial|exact ⟨rfl,rfl⟩|kernel_rfl))
                have hpl := push_len G5 c.up
                refine again (j + 1, v6, pushH G5 c.up, s1 ++ c.up :: s2) (by dsimp only; omega) ⟨by dsimp only; omega, half_push k2 hup, fun d hd => ?_, kR, by dsimp only; omega⟩ (Sub.refl _ _)
                rcases List.mem_append.1 ((push_perm G5 c.up).mem_iff.1 hd) with hd | hd
                · exact kG d hd
                · rw [List.mem_singleton.1 hd]
                  exact ⟨kup, kc.2⟩
              · rw [decide_eq_false hup]
                repeat' (first|with_reducible (first|apply Stp.go|refine imp fun _=>?_|(refine need ?_ ?_;first|trivial|omega|exact ⟨by assumption,by omega⟩|(simp only [zL,zM];omega))|refine choT (by assumption) ?_|refine choF (by assumption) ?_|refine choF' (by assumption) ?_|(refine altT ?_ ?_;first|omega|(simp only [zL,zM];omega))|refine altF ?_|refine all fun _=>?_|refine both ?_ ?_|(refine choT ?_ ?_;omega)|(refine choF ?_ ?_;omega)|refine cho (fun _=>?_) fun _=>?_)|(with_reducible refine fact ?_ ?_;first|trivial|exact ⟨rfl,rfl⟩|kernel_rfl))
                exact again (j + 1, v5, G5, s1 ++ c.up :: s2) (by dsimp only; omega) ⟨by dsimp only; omega, half_skip k2 hup, kG, kR, by dsimp only; omega⟩ (Sub.perm (hp5 c.up _ _ _ _).symm _)
            · have ej : j = rd.length := by omega
              subst ej
              rw [List.drop_length] at k2
              have k6 := half_end k2
              rw [hlq] at k6
              repeat' (first|with_reducible (first|apply Stp.go|refine imp fun _=>?_|(refine need ?_ ?_;first|trivial|omega|exact ⟨by assumption,by omega⟩|(simp only [zL,zM];omega))|refine choT (by assumption) ?_|refine choF (by assumption) ?_|refine choF' (by assumption) ?_|(refine altT ?_ ?_;first|omega|(simp only [zL,zM];omega))|refine altF ?_|refine all fun _=>?_|refine both ?_ ?_|(refine choT ?_ ?_;omega)|(refine choF ?_ ?_;omega)|refine cho (fun _=>?_) fun _=>?_)|(with_reducible refine fact ?_ ?_;first|trivial|exact ⟨rfl,rfl⟩|kernel_rfl))
              exact again (v5, G5, C5, lq2, w', out2) (by dsimp only; omega) ⟨k2.heap, k6, k3, by rw [List.drop_length] at k5; simpa using k5, g5, ho6⟩ (Sub.drop_ (.cons_cons _ (.cons_cons _ (.cons _ (.refl _)))) _)
    · have hn : H = [] := List.length_eq_zero_iff.1 (by omega)
      subst hn
      rw [mergeL_none (rel_nil g2), List.append_nil] at g5
      rw [← g5]
      repeat' (first|with_reducible (first|apply Stp.go|refine imp fun _=>?_|(refine need ?_ ?_;first|trivial|omega|exact ⟨by assumption,by omega⟩|(simp only [zL,zM];omega))|refine choT (by assumption) ?_|refine choF (by assumption) ?_|refine choF' (by assumption) ?_|(refine altT ?_ ?_;first|omega|(simp only [zL,zM];omega))|refine altF ?_|refine all fun _=>?_|refine both ?_ ?_|(refine choT ?_ ?_;omega)|(refine choF ?_ ?_;omega)|refine cho (fun _=>?_) fun _=>?_)|(with_reducible refine fact ?_ ?_;first|trivial|exact ⟨rfl,rfl⟩|kernel_rfl))
      unfold hS
      exact ⟨_, _, _, rfl, retOwn (Sub.drop_ (List.nil_sublist _) _), rfl, rfl⟩
end Go.Ab

/- Rows cut in a hand; the lesser and the greater text; which tables are merged next. -/
set_option linter.unusedVariables false
set_option linter.unusedSimpArgs false
namespace Go.Ab
/-- What is cut off behind is forgotten; the part is in a hand. -/
theorem Sub.cut {n sz : Nat} {E : TypeId} {v : Value} {l : List AV} {σ : Store} (h0 : 0 < l.length) (hn : n ≤ l.length) (pre post : List AV) : Sub (.row v E sz l 0 :: σ) (pre ++ .sub v sz 0 n :: post) (.row (reV v n) E sz (l.take n) 0 :: σ) (pre ++ .own (reV v n) n :: post) := by
  intro R w vs hv hs
  obtain ⟨ws, hr, hone, hown, hz0, hsz, hcc⟩ := row_cells hs (v := v) (E := E) (sz := sz) (l := l) (fl := 0) List.mem_cons_self
  have hrow := hs.ents (.row v E sz l 0) List.mem_cons_self
  rcases hown.2 with ⟨rfl, h00⟩ | ⟨g, cap, cur, rfl, hb0, ⟨fz, hfz, hh⟩, hle, hcm, hcs, htk⟩
  · omega
  refine ⟨R, ⟨?_, fun j u x hu hx => ?_⟩, ⟨hs.ro, fun e he => ?_, ?_⟩, ?_⟩
  · rw [hv.1]; simp
  · rcases Nat.lt_trichotomy j pre.length with h | h | h
    · exact hv.2 j u x (by rw [List.getElem?_append_left h] at hu ⊢; exact hu) hx
    · subst h
      simp at hu
      subst hu
      have hy := (hv.2 pre.length (.sub (.slice (some ⟨g, 0, none⟩) l.length cap) sz 0 n) x (by simp) hx).sub_inv
      rcases hy with ⟨h1, _⟩ | ⟨g', n0, cap', p, h1, h2, hp, rfl⟩
      · cases h1
      · simp only [Value.slice.injEq, Option.some.injEq, Addr.mk.injEq, and_true, true_and] at h1
        obtain ⟨rfl, rfl, rfl⟩ := h1
        have e : p = ⟨g, 0, none⟩ := by rw [hp (by omega)]; simp
        subst e
        exact .own (.inr ⟨g, cap, rfl, by omega⟩)
    · refine hv.2 j u x ?_ hx
      rw [List.getElem?_append_right (by omega)] at hu ⊢
      cases hn : j - pre.length with
      | zero => omega
      | succ n => rw [hn] at hu; simpa using hu
  · rcases List.mem_cons.1 he with rfl | he
    · obtain ⟨a1, a2, ⟨vs2, a3, a4, a5⟩, a6, a7⟩ := hrow
      have hlt : (l.take n).length = n := by rw [List.length_take]; omega
      refine ⟨a1, fun e he => a2 e (List.mem_of_mem_take he), ⟨ws.take (n * sz), ⟨?_, .inr ⟨g, cap, cur, by rw [hlt]; rfl, Nat.zero_le _, ⟨fz, hfz, hh⟩, by omega, hcm, hcs, ?_⟩⟩, ?_, fun x hx => hone x (List.mem_of_mem_take hx)⟩, by omega, fun a x ha hb => ?_⟩
      · rw [hlt, List.length_take, hown.1]
        have := Nat.mul_le_mul_right sz hn
        omega
      · rw [hlt, ← htk, List.take_take, Nat.min_eq_left (Nat.mul_le_mul_right _ hn)]
      · rw [flat_take hsz]
        exact hr.take _
      · have := (a7 a x ha hb).1
        omega
    · exact hs.ents e (List.mem_cons_of_mem _ he)
  · have := hs.apart
    rw [List.pairwise_cons] at this ⊢
    exact ⟨fun e he k hk => this.1 e he k hk, this.2⟩
  · exact ⟨fun _ _ h => h, rfl, rfl, rfl, Nat.le_refl _, fun _ _ _ => rfl, fun k hk => .inl hk, fun a v h => .inl h⟩
/-! the lesser and the greater text -/
theorem lowS_if (a b : List UInt8) : lowS a b = if (lt a b || decide (a = b)) = true then a else b := by
  unfold lowS
  by_cases h : lt b a = true
  · rw [if_pos h, lt_asymm h, decide_eq_false (lt_ne h).symm]; rfl
  · rw [if_neg h]
    by_cases h2 : lt a b = true
    · rw [h2]; rfl
    · rw [lt_tri (Bool.eq_false_iff.2 h2) (Bool.eq_false_iff.2 h), decide_eq_true rfl]; simp
theorem highS_if (a b : List UInt8) : highS a b = if (!lt a b) = true then a else b := by
  unfold highS
  cases lt a b <;> rfl
section mm
variable {P : Program} {t t' : TypeId} {K : AV → Prop}
theorem r_minS {a b : List UInt8} {u : AV} : aBuiltin P .min #[t, t'] [.val (.string ⟨a.toArray⟩), .val (.string ⟨b.toArray⟩)] u ↔ u = .val (.string ⟨(lowS a b).toArray⟩) :=
  aBuiltin_vals (vs := [_, _]) trivial fun ty cs w => by
    rw [lowS_if]
    by_cases h : (lt a b || decide (a = b)) = true
    · rw [if_pos h]
      simp only [Bool.or_eq_true, decide_eq_true_eq] at h
      simp [builtin, Builtin.min_, Builtin.min2, Op.stringOp, asBool, h]
    · rw [if_neg h]
      simp only [Bool.or_eq_true, decide_eq_true_eq, not_or] at h
      simp [builtin, Builtin.min_, Builtin.min2, Op.stringOp, asBool, h]
theorem r_maxS {a b : List UInt8} {u : AV} : aBuiltin P .max #[t, t'] [.val (.string ⟨a.toArray⟩), .val (.string ⟨b.toArray⟩)] u ↔ u = .val (.string ⟨(highS a b).toArray⟩) :=
  aBuiltin_vals (vs := [_, _]) trivial fun ty cs w => by
    rw [highS_if]
    cases h : lt a b
    · simp [builtin, Builtin.max_, Builtin.max2, Op.stringOp, asBool, h]
    · simp [builtin, Builtin.max_, Builtin.max2, Op.stringOp, asBool, h]
instance minS (a b : List UInt8) : Stp (Do (aBuiltin P .min #[t, t'] [.val (.string ⟨a.toArray⟩), .val (.string ⟨b.toArray⟩)]) K) (K (S (lowS a b))) := ⟨fun hK => ⟨_, r_minS.2 rfl, hK⟩⟩
instance maxS (a b : List UInt8) : Stp (Do (aBuiltin P .max #[t, t'] [.val (.string ⟨a.toArray⟩), .val (.string ⟨b.toArray⟩)]) K) (K (S (highS a b))) := ⟨fun hK => ⟨_, r_maxS.2 rfl, hK⟩⟩
end mm
namespace Fc
instance part3 {a b c : AV} : Part [a, b, c] 0 3 [a, b, c] := ⟨rfl, Nat.le_refl _, by decide⟩
end Fc
def pick_span_over.mark : Mark := ⟨fun t => Nat.beq t 7, fun t => false, fun t => Nat.beq t 2 || Nat.beq t 3, fun t => Nat.beq t 5 || Nat.beq t 6 || Nat.beq t 10 || Nat.beq t 12 || Nat.beq t 17 || Nat.beq t 19, fun t => false⟩
def pick_span_over.ann : Ann := ⟨fun n => [], fun n => none, fun n => none⟩
/-- '(marlstone/pick.span).over' -/
def pick_span_over.sh (a0 a1 : AV) (σ : Store) (Q : AEnd → Store → Prop) : Prop :=
  Do (aFreeze ((a0 : AV)).cells) fun t2 =>
  Do (aFreeze ((a1 : AV)).cells) fun t3 =>
  Do (loadF true 3 t2) fun t5 =>
  Do (loadF true 36 t3) fun t6 =>
  Do (aPureC Go.Proofs.Tryz.prog 61 [t5, t6]) fun t7 =>
  Do (aGuard t7 true (aFieldAddr 34 1 t3)) fun t9 =>
  Do (aGuard t7 true (loadF false 1 t9)) fun t10 =>
  Do (aGuard t7 true (aFieldAddr 2 1 t2)) fun t11 =>
  Do (aGuard t7 true (loadF false 1 t11)) fun t12 =>
  Do (aGuard t7 true (aBin Go.Proofs.Tryz.prog .leq 9 t10 t12)) fun t13 =>
  Do (aPick t7 t13 (.val (.bool false))) fun t14 =>
  Do (aGuard t14 true (aFieldAddr 35 1 t3)) fun t16 =>
  Do (aGuard t14 true (loadF false 1 t16)) fun t17 =>
  Do (aGuard t14 true (aFieldAddr 1 1 t2)) fun t18 =>
  Do (aGuard t14 true (loadF false 1 t18)) fun t19 =>
  Do (aGuard t14 true (aBin Go.Proofs.Tryz.prog .geq 9 t17 t19)) fun t20 =>
  Do (aPick t14 t20 (.val (.bool false))) fun t21 =>
  Q (.ret t21) σ
theorem pick_span_over.eq (a0 a1 : AV) (σ : Store) (Q : AEnd → Store → Prop) : vc (semOf Go.Proofs.Tryz.prog pick_span_over.mark) Go.Proofs.Tryz.f63.ntmps pick_span_over.ann (bodyOf Go.Proofs.Tryz.f63) (endK [.tmp 4] Q) (argFr [a0, a1]) σ = pick_span_over.sh a0 a1 σ Q := by kernel_rfl
theorem pick_span_over.go {a0 a1 : AV} {σ : Store} {Q : AEnd → Store → Prop} (h : pick_span_over.sh a0 a1 σ Q) : ACalls Go.Proofs.Tryz.prog 63 [a0, a1] σ Q :=
  acalls_of_eq [.tmp 4] Go.Proofs.Tryz.func63 (by kernel_rfl) (by kernel_rfl) (by kernel_rfl) (by kernel_rfl) (pick_span_over.eq a0 a1 σ Q) h
theorem over_ok (k : Int) (f g : List UInt8) (x : TabR) : aPure Go.Proofs.Tryz.prog 63 [.agg [I .i64 k, S f, S g], tbF x] (B (overP k f g x)) := by
  have iO : PC Go.Proofs.Tryz.prog 61 [.agg [I .i64 k, S f, S g], tbF x] True (B (onP k x)) := ⟨fun _ => PC.of (on_ok k f g x)⟩
  refine pick_span_over.go ?_
  unfold pick_span_over.sh
  unfold overP
  cases h1 : onP k x
  · repeat' (first|with_reducible (first|apply Stp.go|refine imp fun _=>?_|(refine need ?_ ?_;first|trivial|omega|exact ⟨by assumption,by omega⟩|(simp only [zL,zM];omega))|refine choT (by assumption) ?_|refine choF (by assumption) ?_|refine choF' (by assumption) ?_|(refine altT ?_ ?_;first|omega|(simp only [zL,zM];omega))|refine altF ?_|refine all fun _=>?_|refine both ?_ ?_|(refine choT ?_ ?_;omega)|(refine choF ?_ ?_;omega)|refine cho (fun _=>?_) fun _=>?_)|(with_reducible refine fact ?_ ?_;first|trivial|exact ⟨rfl,rfl⟩|kernel_rfl))
    exact ⟨rfl, rfl⟩
  · have e := lt_flip2 g x.fst
    by_cases h2 : (lt x.fst g || decide (x.fst = g)) = true
    · rw [h2] at e
      repeat' (first|with_reducible (first|apply Stp.go|refine imp fun _=>?_|(refine need ?_ ?_;first|trivial|omega|exact ⟨by assumption,by omega⟩|(simp only [zL,zM];omega))|refine choT (by assumption) ?_|refine choF (by assumption) ?_|refine choF' (by assumption) ?_|(refine altT ?_ ?_;first|omega|(simp only [zL,zM];omega))|refine altF ?_|refine all fun _=>?_|refine both ?_ ?_|(refine choT ?_ ?_;omega)|(refine choF ?_ ?_;omega)|refine cho (fun _=>?_) fun _=>?_)|(with_reducible refine fact ?_ ?_;first|trivial|exact ⟨rfl,rfl⟩|kernel_rfl))
      rw [e]
      exact ⟨rfl, rfl⟩
    · rw [Bool.eq_false_iff.2 h2] at e
      repeat' (first|with_reducible (first|apply Stp.go|refine imp fun _=>?_|(refine need ?_ ?_;first|trivial|omega|exact ⟨by assumption,by omega⟩|(simp only [zL,zM];omega))|refine choT (by assumption) ?_|refine choF (by assumption) ?_|refine choF' (by assumption) ?_|(refine altT ?_ ?_;first|omega|(simp only [zL,zM];omega))|refine altF ?_|refine all fun _=>?_|refine both ?_ ?_|(refine choT ?_ ?_;omega)|(refine choF ?_ ?_;omega)|refine cho (fun _=>?_) fun _=>?_)|(with_reducible refine fact ?_ ?_;first|trivial|exact ⟨rfl,rfl⟩|kernel_rfl))
      rw [e]
      exact ⟨rfl, rfl⟩
/-- Places, in a row of one's own. -/
theorem places_own (l : List TabR) (m : SM) (g : FuncId) (r : AV) (p : TabR → Bool) (hl : l.length ≤ 1000000) (hg : ∀ x : TabR, aPure Go.Proofs.Tryz.prog g [r, tbF x] (B (p x))) : ACalls Go.Proofs.Tryz.prog 60 [.lst 36 (l.map tbF) m, .fn (.func g) [r] []] [] (fun x σ' => ∃ v, x = .ret (.own v (posT p l l.length).length) ∧ σ' = [.row v InT 1 ((posT p l l.length).map it) 0]) := by
  refine ACalls.fin (pick_places.go ?_)
  unfold pick_places.sh
  repeat' (first|with_reducible (first|apply Stp.go|refine imp fun _=>?_|(refine need ?_ ?_;first|trivial|omega|exact ⟨by assumption,by omega⟩|(simp only [zL,zM];omega))|refine choT (by assumption) ?_|refine choF (by assumption) ?_|refine choF' (by assumption) ?_|(refine altT ?_ ?_;first|omega|(simp only [zL,zM];omega))|refine altF ?_|refine all fun _=>?_|refine both ?_ ?_|(refine choT ?_ ?_;omega)|(refine choF ?_ ?_;omega)|refine cho (fun _=>?_) fun _=>?_)|(with_reducible refine fact ?_ ?_;first|trivial|exact ⟨rfl,rfl⟩|kernel_rfl))
  refine loopI (β := Nat × Value) (fun x => x.1 ≤ l.length) (fun x => [.fn (.func g) [r] [], .own x.2 (posT p l x.1).length, .lst 36 (l.map tbF) m, I .i64 (l.length : Nat), I .i64 (x.1 : Nat)]) (fun x => [.row x.2 InT 1 ((posT p l x.1).map it) 0]) (fun x => l.length - x.1) (0, .slice none 0 0) (Nat.zero_le _) (Sub.nil_own InT (sz := 1) (by decide) _ [_] [_, _, _]) ?_
  rintro ⟨i, v⟩ h1
  dsimp only at h1 ⊢
  have hpl := posT_len p l i
  by_cases hi : i < l.length
  · have hs := posT_succ p l i
    have hpc : ∀ x : TabR, PC Go.Proofs.Tryz.prog g ([r] ++ [tbF x] ++ []) True (B (p x)) := fun x => ⟨fun _ => PC.of (hg x)⟩
    have hpi := hpc (l.getD i default)
    by_cases hp : p (l.getD i default) = true
    · rw [if_pos hp] at hs
      repeat' (first|with_reducible (first|apply Stp.go|refine imp fun _=>?_|(refine need ?_ ?_;first|trivial|omega|exact ⟨by assumption,by omega⟩|(simp only [zL,zM];omega))|refine choT (by assumption) ?_|refine choF (by assumption) ?_|refine choF' (by assumption) ?_|(refine altT ?_ ?_;first|omega|(simp only [zL,zM];omega))|refine altF ?_|refine all fun _=>?_|refine both ?_ ?_|(refine choT ?_ ?_;omega)|(refine choF ?_ ?_;omega)|refine cho (fun _=>?_) fun _=>?_)|(with_reducible refine fact ?_ ?_;first|trivial|exact ⟨rfl,rfl⟩|kernel_rfl))
      rename_i w
      exact again (i + 1, w) (by dsimp only; omega) (by dsimp only; omega) (by dsimp only; rw [hs]; exact Sub.drop_ (.cons _ (.cons_cons _ .slnil)) _)
    · rw [if_neg hp, List.append_nil] at hs
      repeat' (first|with_reducible (first|apply Stp.go|refine imp fun _=>?_|(refine need ?_ ?_;first|trivial|omega|exact ⟨by assumption,by omega⟩|(simp only [zL,zM];omega))|refine choT (by assumption) ?_|refine choF (by assumption) ?_|refine choF' (by assumption) ?_|(refine altT ?_ ?_;first|omega|(simp only [zL,zM];omega))|refine altF ?_|refine all fun _=>?_|refine both ?_ ?_|(refine choT ?_ ?_;omega)|(refine choF ?_ ?_;omega)|refine cho (fun _=>?_) fun _=>?_)|(with_reducible refine fact ?_ ?_;first|trivial|exact ⟨rfl,rfl⟩|kernel_rfl))
      exact again (i + 1, v) (by dsimp only; omega) (by dsimp only; omega) (by dsimp only; rw [hs]; exact Sub.drop_ (.cons _ (.cons_cons _ .slnil)) _)
  · have e : i = l.length := by omega
    subst e
    repeat' (first|with_reducible (first|apply Stp.go|refine imp fun _=>?_|(refine need ?_ ?_;first|trivial|omega|exact ⟨by assumption,by omega⟩|(simp only [zL,zM];omega))|refine choT (by assumption) ?_|refine choF (by assumption) ?_|refine choF' (by assumption) ?_|(refine altT ?_ ?_;first|omega|(simp only [zL,zM];omega))|refine altF ?_|refine all fun _=>?_|refine both ?_ ?_|(refine choT ?_ ?_;omega)|(refine choF ?_ ?_;omega)|refine cho (fun _=>?_) fun _=>?_)|(with_reducible refine fact ?_ ?_;first|trivial|exact ⟨rfl,rfl⟩|kernel_rfl))
    exact ⟨_, _, _, rfl, Sub.refl _ _, _, rfl, rfl⟩
end Go.Ab

/- Which tables are merged next: Pick, walked. -/
set_option linter.unusedVariables false
set_option linter.unusedSimpArgs false
namespace Go.Ab
abbrev itN (n : Nat) : AV := .val (.int .i64 (n : Nat))
instance : Enc itN 1 := ⟨fun n => ⟨rfl, fun c hc => by
  have hc : c ∈ [itN n] := hc
  rw [List.mem_singleton.1 hc]; rfl⟩, by decide, fun _ => rfl⟩
instance : ElemF [.val (.int .i64 0)] Nat itN := ⟨trivial⟩
instance (n : Nat) : AsF itN (.val (.int .i64 (n : Nat))) n := ⟨rfl⟩
instance (n : Nat) : Cells (itN n) [itN n] := ⟨rfl⟩
instance (n : Nat) : One (itN n) := ⟨rfl⟩
abbrev bV (b : Bool) : AV := B b
instance : ZeroV bV (.bool false) false := ⟨rfl⟩
instance (b : Bool) : AsF bV (.val (.bool b)) b := ⟨rfl⟩
abbrev MbT : TypeId := 99
instance : MapT Go.Proofs.Tryz.prog MbT (.int .i64) (.bool false) := ⟨by kernel_rfl⟩
abbrev SpT : TypeId := 97
theorem map_itN (o : List Nat) : (o.map Int.ofNat).map it = o.map itN := by rw [List.map_map]; rfl
theorem posT_nat (p : TabR → Bool) (l : List TabR) (k : Nat) : (posT p l k).map it = ((List.range k).filter fun i => p (l.getD i default)).map itN := map_itN _
/-- What is picked, and for which level. -/
def pickR (l : List TabR) : AV := if lvlT l < 3 then .tuple [.lst 1 (((inK l (lvlT l)).map Int.ofNat).map it) .ro, I .i64 ((lvlT l + 1 : Nat) : Nat), B true] else .tuple [.lst 1 (([] : List Int).map it) .ro, I .i64 0, B false]
theorem lvlT_of {l : List TabR} {k : Nat} (hk : k < 3) (h : hot l k = true) (h2 : ∀ j, j < k → hot l j = false) : lvlT l = k := by
  unfold lvlT
  match k, hk with
  | 0, _ => rw [if_pos h]
  | 1, _ => rw [h2 0 (by decide), if_neg (by decide), if_pos h]
  | 2, _ => rw [h2 0 (by decide), if_neg (by decide), h2 1 (by decide), if_neg (by decide), if_pos h]
theorem lvlT_none {l : List TabR} (h2 : ∀ j, j < 3 → hot l j = false) : lvlT l = 3 := by
  unfold lvlT
  rw [h2 0 (by decide), if_neg (by decide), h2 1 (by decide), if_neg (by decide), h2 2 (by decide), if_neg (by decide)]
theorem foldl_take_succ {α β : Type} [Inhabited α] (f : β → α → β) (b : β) {o : List α} {i : Nat} (h : i < o.length) : (o.take (i + 1)).foldl f b = f ((o.take i).foldl f b) (o.getD i default) := by
  rw [take_succ_d h, List.foldl_append]; rfl
theorem ownP_len (l : List TabR) (k : Nat) : (ownP l k).length ≤ l.length := by
  unfold ownP
  exact Nat.le_trans (List.length_filter_le _ _) (by rw [List.length_range]; exact Nat.le_refl _)
instance {a : AV} {l : List TabR} {m : SM} {k : Nat} {x : Int} {f g : List UInt8} {σ : Store} [h : IsL a tbF 36 l m] [hx : NatOf x k] : EC Go.Proofs.Tryz.prog 60 [a, .fn (.func 61) [.agg [.val (.int .i64 x), S f, S g]] []] σ (l.length ≤ 1000000) Value (fun v => .own v (ownP l k).length) (fun v => .row v InT 1 ((ownP l k).map itN) 0 :: σ) := ⟨fun hl => by
  have e := hx.eq
  subst e
  refine (((places_own l m _ _ _ hl (on_ok (k : Nat) f g)).subV (args := [a, .fn (.func 61) [.agg [.val (.int .i64 (k : Nat)), S f, S g]] []]) ⟨h.sub, SubV.refl _, trivial⟩).frame σ).mono ?_
  rintro x τ ⟨σ1, e1, _, v, e2, e3⟩
  refine ⟨v, ?_, ?_⟩
  · rw [e2]
    unfold posT ownP
    rw [List.length_map]
  · rw [e1, e3, posT_nat]
    rfl⟩
theorem overK_len (p : TabR → Bool) (l : List TabR) : ((List.range l.length).filter fun i => p (l.getD i default)).length ≤ l.length :=
  Nat.le_trans (List.length_filter_le _ _) (by rw [List.length_range]; exact Nat.le_refl _)
instance {a : AV} {l : List TabR} {m : SM} {x : Int} {f g : List UInt8} {σ : Store} [h : IsL a tbF 36 l m] : EC Go.Proofs.Tryz.prog 60 [a, .fn (.func 63) [.agg [.val (.int .i64 x), S f, S g]] []] σ (l.length ≤ 1000000) Value (fun v => .own v ((List.range l.length).filter fun i => overP x f g (l.getD i default)).length) (fun v => .row v InT 1 (((List.range l.length).filter fun i => overP x f g (l.getD i default)).map itN) 0 :: σ) := ⟨fun hl => by
  refine (((places_own l m _ _ _ hl (over_ok x f g)).subV (args := [a, .fn (.func 63) [.agg [.val (.int .i64 x), S f, S g]] []]) ⟨h.sub, SubV.refl _, trivial⟩).frame σ).mono ?_
  rintro x τ ⟨σ1, e1, _, v, e2, e3⟩
  refine ⟨v, ?_, ?_⟩
  · rw [e2]
    unfold posT
    rw [List.length_map]
  · rw [e1, e3, posT_nat]
    rfl⟩
def pick_Pick.mark : Mark := ⟨fun t => Nat.beq t 26, fun t => false, fun t => false, fun t => Nat.beq t 40 || Nat.beq t 47 || Nat.beq t 61 || Nat.beq t 69, fun t => false⟩
def pick_Pick.ann : Ann := ⟨fun n => bif Nat.beq n 2 then [0, 15] else bif Nat.beq n 10 then [0, 5, 6, 7, 49, 50, 51] else bif Nat.beq n 16 then [0, 5, 10, 80, 81, 82] else bif Nat.beq n 22 then [5, 10, 13, 90, 91] else [], fun n => bif Nat.beq n 8 then some [0, 5, 6] else none, fun n => bif Nat.beq n 8 then some [0, 5, 6, 7] else none⟩
/-- 'marlstone/pick.Pick' -/
def pick_Pick.sh (a0 : AV) (σ : Store) (Q : AEnd → Store → Prop) : Prop :=
  aLoop (fun go vs σ =>
    At vs 0 fun s0 => At vs 1 fun s15 => Do (aBin Go.Proofs.Tryz.prog .lss 3 s15 (.val (.int .i64 3))) fun t16 =>
    aCond t16
      (Do (aLit [.val (.int .i64 0), .val (.string ⟨#[]⟩), .val (.string ⟨#[]⟩)] [(0, 1), (1, 1), (2, 1)] [(0, s15)]) fun t20 =>
    aCall Go.Proofs.Tryz.prog 60 [s0, (.fn (.func 61) [t20] [])] σ (fun t22 σ_1 =>
    Do (aBuiltin Go.Proofs.Tryz.prog .len #[23] [t22]) fun t24 =>
    Do (aPureC Go.Proofs.Tryz.prog 62 [s15]) fun t26 =>
    Do (aBin Go.Proofs.Tryz.prog .leq 3 t24 t26) fun t27 =>
    aCond t27
      (Do (aBin Go.Proofs.Tryz.prog .add 3 s15 (.val (.int .i64 1))) fun t105 =>
    go [s0, t105] σ_1)
      (aJoin (fun j =>
      Do (aBin Go.Proofs.Tryz.prog .gtr 3 s15 (.val (.int .i64 0))) fun t29 =>
      aCond t29
        (Do (aSlice .slice 1 t22 none (some (.val (.int .i64 1))) none) fun t31 =>
        j [s0, s15, t31] σ_1)
        (j [s0, s15, t22] σ_1)) fun vs_1 σ_2 =>
    At vs_1 0 fun s0_1 => At vs_1 1 fun s5 => At vs_1 2 fun s6 => aJoin (fun j_1 =>
      Do (aBin Go.Proofs.Tryz.prog .add 3 s5 (.val (.int .i64 1))) fun t33 =>
      Do (aIndexAddr .slice 1 s6 (.val (.int .i64 0))) fun t36 =>
      Do (aIndexAddr .slice 1 s6 (.val (.int .i64 0))) fun t43 =>
      Both (Do (loadA false 1 t36 σ_2) fun t37 =>
      Do (aIndexAddr .slice 36 s0_1 t37) fun t38 =>
      Do (aFieldAddr 34 1 t38) fun t39 =>
      Do (loadF false 1 t39) fun t40 =>
      Both (Do (loadA false 1 t43 σ_2) fun t44 =>
      Do (aIndexAddr .slice 36 s0_1 t44) fun t45 =>
      Do (aFieldAddr 35 1 t45) fun t46 =>
      Do (loadF false 1 t46) fun t47 =>
      Do (aLit [.val (.int .i64 0), .val (.string ⟨#[]⟩), .val (.string ⟨#[]⟩)] [(0, 1), (1, 1), (2, 1)] [(0, t33), (1, t40), (2, t47)]) fun t48 =>
      aNewVar 97 [.val (.int .i64 0), .val (.string ⟨#[]⟩), .val (.string ⟨#[]⟩)] σ_2 fun t7 σ_4 =>
      storeA 3 t7 t48 σ_4 fun u σ_5 =>
      j_1 [s0_1, s5, s6, t7] σ_5) (aNewVar 97 [.val (.int .i64 0), .val (.string ⟨#[]⟩), .val (.string ⟨#[]⟩)] σ_2 fun t7_1 σ_6 =>
      Do (loadA false 1 t43 σ_6) fun t44_1 =>
      Do (aIndexAddr .slice 36 s0_1 t44_1) fun t45_1 =>
      Do (aFieldAddr 35 1 t45_1) fun t46_1 =>
      Do (loadF false 1 t46_1) fun t47_1 =>
      Do (aLit [.val (.int .i64 0), .val (.string ⟨#[]⟩), .val (.string ⟨#[]⟩)] [(0, 1), (1, 1), (2, 1)] [(0, t33), (1, t40), (2, t47_1)]) fun t48_1 =>
      storeA 3 t7_1 t48_1 σ_6 fun u_1 σ_7 =>
      j_1 [s0_1, s5, s6, t7_1] σ_7)) (Both (Do (loadA false 1 t43 σ_2) fun t44_2 =>
      Do (aIndexAddr .slice 36 s0_1 t44_2) fun t45_2 =>
      Do (aFieldAddr 35 1 t45_2) fun t46_2 =>
      Do (loadF false 1 t46_2) fun t47_2 =>
      Both (Do (loadA false 1 t36 σ_2) fun t37_1 =>
      Do (aIndexAddr .slice 36 s0_1 t37_1) fun t38_1 =>
      Do (aFieldAddr 34 1 t38_1) fun t39_1 =>
      Do (loadF false 1 t39_1) fun t40_1 =>
      Do (aLit [.val (.int .i64 0), .val (.string ⟨#[]⟩), .val (.string ⟨#[]⟩)] [(0, 1), (1, 1), (2, 1)] [(0, t33), (1, t40_1), (2, t47_2)]) fun t48_2 =>
      aNewVar 97 [.val (.int .i64 0), .val (.string ⟨#[]⟩), .val (.string ⟨#[]⟩)] σ_2 fun t7_2 σ_8 =>
      storeA 3 t7_2 t48_2 σ_8 fun u_2 σ_9 =>
      j_1 [s0_1, s5, s6, t7_2] σ_9) (aNewVar 97 [.val (.int .i64 0), .val (.string ⟨#[]⟩), .val (.string ⟨#[]⟩)] σ_2 fun t7_3 σ_10 =>
      Do (loadA false 1 t36 σ_10) fun t37_2 =>
      Do (aIndexAddr .slice 36 s0_1 t37_2) fun t38_2 =>
      Do (aFieldAddr 34 1 t38_2) fun t39_2 =>
      Do (loadF false 1 t39_2) fun t40_2 =>
      Do (aLit [.val (.int .i64 0), .val (.string ⟨#[]⟩), .val (.string ⟨#[]⟩)] [(0, 1), (1, 1), (2, 1)] [(0, t33), (1, t40_2), (2, t47_2)]) fun t48_3 =>
      storeA 3 t7_3 t48_3 σ_10 fun u_3 σ_11 =>
      j_1 [s0_1, s5, s6, t7_3] σ_11)) (aNewVar 97 [.val (.int .i64 0), .val (.string ⟨#[]⟩), .val (.string ⟨#[]⟩)] σ_2 fun t7_4 σ_12 =>
      Do (loadA false 1 t36 σ_12) fun t37_3 =>
      Do (aIndexAddr .slice 36 s0_1 t37_3) fun t38_3 =>
      Do (aFieldAddr 34 1 t38_3) fun t39_3 =>
      Do (loadF false 1 t39_3) fun t40_3 =>
      Do (loadA false 1 t43 σ_12) fun t44_3 =>
      Do (aIndexAddr .slice 36 s0_1 t44_3) fun t45_3 =>
      Do (aFieldAddr 35 1 t45_3) fun t46_3 =>
      Do (loadF false 1 t46_3) fun t47_3 =>
      Do (aLit [.val (.int .i64 0), .val (.string ⟨#[]⟩), .val (.string ⟨#[]⟩)] [(0, 1), (1, 1), (2, 1)] [(0, t33), (1, t40_3), (2, t47_3)]) fun t48_4 =>
      storeA 3 t7_4 t48_4 σ_12 fun u_4 σ_13 =>
      j_1 [s0_1, s5, s6, t7_4] σ_13))) fun vs_2 σ_3 =>
    At vs_2 0 fun s0_2 => At vs_2 1 fun s5_1 => At vs_2 2 fun s6_1 => At vs_2 3 fun s7 => Do (aBuiltin Go.Proofs.Tryz.prog .len #[23] [s6_1]) fun t50 =>
    aLoop (fun go_1 vs_3 σ_14 =>
      At vs_3 0 fun s0_3 => At vs_3 1 fun s5_2 => At vs_3 2 fun s6_2 => At vs_3 3 fun s7_1 => At vs_3 4 fun s49 => At vs_3 5 fun s50 => At vs_3 6 fun s51 => Do (aBin Go.Proofs.Tryz.prog .lss 3 s51 s50) fun t52 =>
      aCond t52
        (Do (aIndexAddr .slice 1 s49 s51) fun t53 =>
      Do (loadA false 1 t53 σ_14) fun t54 =>
      Do (aFieldAddr 1 1 s7_1) fun t55 =>
      Do (loadA false 1 t55 σ_14) fun t56 =>
      Do (aIndexAddr .slice 36 s0_3 t54) fun t59 =>
      Do (aFieldAddr 34 1 t59) fun t60 =>
      Do (loadF false 1 t60) fun t61 =>
      Do (aBuiltin Go.Proofs.Tryz.prog .min #[9, 9] [t56, t61]) fun t62 =>
      Do (aFieldAddr 2 1 s7_1) fun t63 =>
      Do (loadA false 1 t63 σ_14) fun t64 =>
      Do (aIndexAddr .slice 36 s0_3 t54) fun t67 =>
      Do (aFieldAddr 35 1 t67) fun t68 =>
      Do (loadF false 1 t68) fun t69 =>
      Do (aBuiltin Go.Proofs.Tryz.prog .max #[9, 9] [t64, t69]) fun t70 =>
      Do (aFieldAddr 1 1 s7_1) fun t71 =>
      storeA 1 t71 t62 σ_14 fun u_5 σ_15 =>
      Do (aFieldAddr 2 1 s7_1) fun t72 =>
      storeA 1 t72 t70 σ_15 fun u_6 σ_16 =>
      Do (aBin Go.Proofs.Tryz.prog .add 3 s51 (.val (.int .i64 1))) fun t73 =>
      go_1 [s0_3, s5_2, s6_2, s7_1, s49, s50, t73] σ_16)
        (aHook (eMakeMap σ_14) fun t74 σ_17 =>
    Do (loadA true 3 s7_1 σ_17) fun t77 =>
    aCall Go.Proofs.Tryz.prog 60 [s0_3, (.fn (.func 63) [t77] [])] σ_17 (fun t79 σ_18 =>
    aAppend 3 1 8 s6_2 t79 σ_18 (subF fun t80 σ_19 =>
    Do (aBuiltin Go.Proofs.Tryz.prog .len #[23] [t80]) fun t81 =>
    aLoop (fun go_2 vs_4 σ_20 =>
      At vs_4 0 fun s0_4 => At vs_4 1 fun s5_3 => At vs_4 2 fun s10 => At vs_4 3 fun s80 => At vs_4 4 fun s81 => At vs_4 5 fun s82 => Do (aBin Go.Proofs.Tryz.prog .lss 3 s82 s81) fun t83 =>
      aCond t83
        (Do (aIndexAddr .slice 1 s80 s82) fun t84 =>
      Do (loadA false 1 t84 σ_20) fun t85 =>
      aHook (eMapUpd Go.Proofs.Tryz.prog 99 s10 t85 (.val (.bool true)) σ_20) fun u_7 σ_21 =>
      Do (aBin Go.Proofs.Tryz.prog .add 3 s82 (.val (.int .i64 1))) fun t88 =>
      go_2 [s0_4, s5_3, s10, s80, s81, t88] σ_21)
        (Do (aBuiltin Go.Proofs.Tryz.prog .len #[24] [s0_4]) fun t90 =>
    aLoop (fun go_3 vs_5 σ_22 =>
      At vs_5 0 fun s5_4 => At vs_5 1 fun s10_1 => At vs_5 2 fun s13 => At vs_5 3 fun s90 => At vs_5 4 fun s91 => Do (aBin Go.Proofs.Tryz.prog .lss 3 s91 s90) fun t92 =>
      aCond t92
        (Do (lookA Go.Proofs.Tryz.prog 99 false s10_1 s91 σ_22) fun t96 =>
      aCond t96
        (Do (aSlLit (mkE [.val (.int .i64 0)]) 1 1 [(0, s91)]) fun t99 =>
        aAppend 3 1 8 s13 t99 σ_22 (subK fun t100 σ_23 =>
        Do (aBin Go.Proofs.Tryz.prog .add 3 s91 (.val (.int .i64 1))) fun t101 =>
      go_3 [s5_4, s10_1, t100, s90, t101] σ_23))
        (Do (aBin Go.Proofs.Tryz.prog .add 3 s91 (.val (.int .i64 1))) fun t101_1 =>
      go_3 [s5_4, s10_1, s13, s90, t101_1] σ_22))
        (Do (aBin Go.Proofs.Tryz.prog .add 3 s5_4 (.val (.int .i64 1))) fun t104 =>
    Q (.ret (.tuple [s13, t104, (.val (.bool true))])) σ_22))
      [s5_3, s10, (.val (.slice none 0 0)), t90, (.val (.int .i64 0))] σ_20))
      [s0_3, s5_2, t74, t80, t81, (.val (.int .i64 0))] σ_19)) (fun e σ_24 => Q (.pan e) σ_24)))
      [s0_2, s5_1, s6_1, s7, s6_1, t50, (.val (.int .i64 0))] σ_3)) (fun e_1 σ_25 => Q (.pan e_1) σ_25))
      (Q (.ret (.tuple [(.val (.slice none 0 0)), (.val (.int .i64 0)), (.val (.bool false))])) σ))
    [a0, (.val (.int .i64 0))] σ
theorem pick_Pick.eq (a0 : AV) (σ : Store) (Q : AEnd → Store → Prop) : vc (semOf Go.Proofs.Tryz.prog pick_Pick.mark) Go.Proofs.Tryz.f31.ntmps pick_Pick.ann (bodyOf Go.Proofs.Tryz.f31) (endK [.tmp 2, .tmp 3, .tmp 4] Q) (argFr [a0]) σ = pick_Pick.sh a0 σ Q := by kernel_rfl
theorem pick_Pick.go {a0 : AV} {σ : Store} {Q : AEnd → Store → Prop} (h : pick_Pick.sh a0 σ Q) : ACalls Go.Proofs.Tryz.prog 31 [a0] σ Q :=
  acalls_of_eq [.tmp 2, .tmp 3, .tmp 4] Go.Proofs.Tryz.func31 (by kernel_rfl) (by kernel_rfl) (by kernel_rfl) (by kernel_rfl) (pick_Pick.eq a0 σ Q) h
theorem Pick_ok (l : List TabR) (m : SM) (hl : l.length ≤ 1000000) : aPure Go.Proofs.Tryz.prog 31 [.lst 36 (l.map tbF) m] (pickR l) := by
  refine ACalls.fin (pick_Pick.go ?_)
  unfold pick_Pick.sh
  repeat' (first|with_reducible (first|apply Stp.go|refine imp fun _=>?_|(refine need ?_ ?_;first|trivial|omega|exact ⟨by assumption,by omega⟩|(simp only [zL,zM];omega))|refine choT (by assumption) ?_|refine choF (by assumption) ?_|refine choF' (by assumption) ?_|(refine altT ?_ ?_;first|omega|(simp only [zL,zM];omega))|refine altF ?_|refine all fun _=>?_|refine both ?_ ?_|(refine choT ?_ ?_;omega)|(refine choF ?_ ?_;omega)|refine cho (fun _=>?_) fun _=>?_)|(with_reducible refine fact ?_ ?_;first|trivial|exact ⟨rfl,rfl⟩|kernel_rfl))
  refine loopI (β := Nat) (fun k => k ≤ 3 ∧ ∀ j, j < k → hot l j = false) (fun k => [.lst 36 (l.map tbF) m, I .i64 (k : Nat)]) (fun _ => []) (fun k => 3 - k) 0 ⟨Nat.zero_le _, fun j h => absurd h (Nat.not_lt_zero _)⟩ (Sub.refl _ _) ?_
  rintro k ⟨hk, hn⟩
  dsimp only at hk hn ⊢
  by_cases h3 : k < 3
  · have hcap : capT k ≤ 32 := by unfold capT; split <;> decide
    have hpl := ownP_len l k
    by_cases hh : hot l k = true
    · have hh2 : capT k < (ownP l k).length := by unfold hot at hh; exact of_decide_eq_true hh
      have hlv := lvlT_of h3 hh hn
      have hop := ownK_pos hh
      unfold pickR
      rw [hlv, if_pos h3]
      have hol : (ownK l k).length ≤ l.length := by
        unfold ownK
        split
        · exact hpl
        · rw [List.length_take]; omega
      have hom : ∀ i, i < (ownK l k).length → (ownK l k).getD i default < l.length := fun i hi => (ownK_mem (getD_memT hi)).1
      repeat' (first|with_reducible (first|apply Stp.go|refine imp fun _=>?_|(refine need ?_ ?_;first|trivial|omega|exact ⟨by assumption,by omega⟩|(simp only [zL,zM];omega))|refine choT (by assumption) ?_|refine choF (by assumption) ?_|refine choF' (by assumption) ?_|(refine altT ?_ ?_;first|omega|(simp only [zL,zM];omega))|refine altF ?_|refine all fun _=>?_|refine both ?_ ?_|(refine choT ?_ ?_;omega)|(refine choF ?_ ?_;omega)|refine cho (fun _=>?_) fun _=>?_)|(with_reducible refine fact ?_ ?_;first|trivial|exact ⟨rfl,rfl⟩|kernel_rfl))
      rename_i v
      refine joinI (β := Value) (fun _ => True) (fun v => [.lst 36 (l.map tbF) m, I .i64 (k : Nat), .own v (ownK l k).length]) (fun v => [.row v InT 1 ((ownK l k).map itN) 0]) ?_ ?_
      · by_cases hk0 : k = 0
        · subst hk0
          have e : ownK l 0 = ownP l 0 := by unfold ownK; rw [if_pos rfl]
          rw [e]
          repeat' (first|with_reducible (first|apply Stp.go|refine imp fun _=>?_|(refine need ?_ ?_;first|trivial|omega|exact ⟨by assumption,by omega⟩|(simp only [zL,zM];omega))|refine choT (by assumption) ?_|refine choF (by assumption) ?_|refine choF' (by assumption) ?_|(refine altT ?_ ?_;first|omega|(simp only [zL,zM];omega))|refine altF ?_|refine all fun _=>?_|refine both ?_ ?_|(refine choT ?_ ?_;omega)|(refine choF ?_ ?_;omega)|refine cho (fun _=>?_) fun _=>?_)|(with_reducible refine fact ?_ ?_;first|trivial|exact ⟨rfl,rfl⟩|kernel_rfl))
          all_goals exact meet v trivial (Sub.refl _ _)
        · have e : ownK l k = (ownP l k).take 1 := by unfold ownK; rw [if_neg hk0]
          have e1 : ((ownP l k).take 1).length = 1 := by rw [List.length_take]; omega
          have h1 : 1 ≤ (ownP l k).length := by omega
          rw [e, e1, List.map_take]
          repeat' (first|with_reducible (first|apply Stp.go|refine imp fun _=>?_|(refine need ?_ ?_;first|trivial|omega|exact ⟨by assumption,by omega⟩|(simp only [zL,zM];omega))|refine choT (by assumption) ?_|refine choF (by assumption) ?_|refine choF' (by assumption) ?_|(refine altT ?_ ?_;first|omega|(simp only [zL,zM];omega))|refine altF ?_|refine all fun _=>?_|refine both ?_ ?_|(refine choT ?_ ?_;omega)|(refine choF ?_ ?_;omega)|refine cho (fun _=>?_) fun _=>?_)|(with_reducible refine fact ?_ ?_;first|trivial|exact ⟨rfl,rfl⟩|kernel_rfl))
          all_goals exact meet (reV v 1) trivial (Sub.cut (by rw [List.length_map]; omega) (by rw [List.length_map]; omega) [_, _] [])
      · intro v' _
        clear v
        generalize hO : ownK l k = O at *
        have hfr : fromK l k = O.foldl (fun s i => lowS s (l.getD i default).fst) (l.getD (O.getD 0 default) default).fst := by unfold fromK headT; rw [hO]
        have hto : toK l k = O.foldl (fun s i => highS s (l.getD i default).lst) (l.getD (O.getD 0 default) default).lst := by unfold toK headT; rw [hO]
        have h00 := hom 0 hop
        repeat' (first|with_reducible (first|apply Stp.go|refine imp fun _=>?_|(refine need ?_ ?_;first|trivial|omega|exact ⟨by assumption,by omega⟩|(simp only [zL,zM];omega))|refine choT (by assumption) ?_|refine choF (by assumption) ?_|refine choF' (by assumption) ?_|(refine altT ?_ ?_;first|omega|(simp only [zL,zM];omega))|refine altF ?_|refine all fun _=>?_|refine both ?_ ?_|(refine choT ?_ ?_;omega)|(refine choF ?_ ?_;omega)|refine cho (fun _=>?_) fun _=>?_)|(with_reducible refine fact ?_ ?_;first|trivial|exact ⟨rfl,rfl⟩|kernel_rfl))
        refine joinI (β := Nat) (fun _ => True) (fun b => [.lst 36 (l.map tbF) m, I .i64 (k : Nat), .own v' O.length, ptrAt b 0]) (fun b => [.var b SpT [I .i64 ((k + 1 : Nat) : Int), S (l.getD (O.getD 0 default) default).fst, S (l.getD (O.getD 0 default) default).lst], .row v' InT 1 (O.map itN) 0]) ?_ ?_
        · repeat' (first|with_reducible (first|apply Stp.go|refine imp fun _=>?_|(refine need ?_ ?_;first|trivial|omega|exact ⟨by assumption,by omega⟩|(simp only [zL,zM];omega))|refine choT (by assumption) ?_|refine choF (by assumption) ?_|refine choF' (by assumption) ?_|(refine altT ?_ ?_;first|omega|(simp only [zL,zM];omega))|refine altF ?_|refine all fun _=>?_|refine both ?_ ?_|(refine choT ?_ ?_;omega)|(refine choF ?_ ?_;omega)|refine cho (fun _=>?_) fun _=>?_)|(with_reducible refine fact ?_ ?_;first|trivial|exact ⟨rfl,rfl⟩|kernel_rfl))
          all_goals
            rename_i bx
            exact meet bx trivial (Sub.refl _ _)
        · intro b _
          repeat' (first|with_reducible (first|apply Stp.go|refine imp fun _=>?_|(refine need ?_ ?_;first|trivial|omega|exact ⟨by assumption,by omega⟩|(simp only [zL,zM];omega))|refine choT (by assumption) ?_|refine choF (by assumption) ?_|refine choF' (by assumption) ?_|(refine altT ?_ ?_;first|omega|(simp only [zL,zM];omega))|refine altF ?_|refine all fun _=>?_|refine both ?_ ?_|(refine choT ?_ ?_;omega)|(refine choF ?_ ?_;omega)|refine cho (fun _=>?_) fun _=>?_)|(with_reducible refine fact ?_ ?_;first|trivial|exact ⟨rfl,rfl⟩|kernel_rfl))
          refine loopI (β := Nat) (fun i => i ≤ O.length) (fun i => [.lst 36 (l.map tbF) m, I .i64 (k : Nat), .own v' O.length, ptrAt b 0, .own v' O.length, I .i64 (O.length : Nat), I .i64 (i : Nat)])
            (fun i => [.var b SpT [I .i64 ((k + 1 : Nat) : Int), S ((O.take i).foldl (fun s i => lowS s (l.getD i default).fst) (l.getD (O.getD 0 default) default).fst), S ((O.take i).foldl (fun s i => highS s (l.getD i default).lst) (l.getD (O.getD 0 default) default).lst)], .row v' InT 1 (O.map itN) 0])
            (fun i => O.length - i) 0 (Nat.zero_le _) (Sub.refl _ _) ?_
          intro i hi
          by_cases hlt : i < O.length
          · have hix := hom i hlt
            have s1 := foldl_take_succ (fun s i => lowS s (l.getD i default).fst) (l.getD (O.getD 0 default) default).fst hlt
            have s2 := foldl_take_succ (fun s i => highS s (l.getD i default).lst) (l.getD (O.getD 0 default) default).lst hlt
            repeat' (first|with_reducible (first|apply Stp.go|refine imp fun _=>?_|(refine need ?_ ?_;first|trivial|omega|exact ⟨by assumption,by omega⟩|(simp only [zL,zM];omega))|refine choT (by assumption) ?_|refine choF (by assumption) ?_|refine choF' (by assumption) ?_|(refine altT ?_ ?_;first|omega|(simp only [zL,zM];omega))|refine altF ?_|refine all fun _=>?_|refine both ?_ ?_|(refine choT ?_ ?_;omega)|(refine choF ?_ ?_;omega)|refine cho (fun _=>?_) fun _=>?_)|(with_reducible refine fact ?_ ?_;first|trivial|exact ⟨rfl,rfl⟩|kernel_rfl))
            exact again (i + 1) (by omega) (by omega) (by rw [s1, s2]; exact Sub.refl _ _)
          · have ei : i = O.length := by omega
            subst ei
            rw [List.take_length, ← hfr, ← hto]
            have hVl := overK_len (overP ((k + 1 : Nat) : Int) (fromK l k) (toK l k)) l
            have hin : ∀ i, i < l.length → (i ∈ O ++ ((List.range l.length).filter fun i => overP ((k + 1 : Nat) : Int) (fromK l k) (toK l k) (l.getD i default)) ↔ inP l k i = true) := fun i hi => by
              unfold inP
              rw [hO, Bool.or_eq_true, decide_eq_true_eq, List.mem_append, List.mem_filter, List.mem_range]
              constructor
              · rintro (h | ⟨_, h⟩)
                · exact .inl h
                · exact .inr h
              · rintro (h | h)
                · exact .inl h
                · exact .inr ⟨hi, h⟩
            repeat' (first|with_reducible (first|apply Stp.go|refine imp fun _=>?_|(refine need ?_ ?_;first|trivial|omega|exact ⟨by assumption,by omega⟩|(simp only [zL,zM];omega))|refine choT (by assumption) ?_|refine choF (by assumption) ?_|refine choF' (by assumption) ?_|(refine altT ?_ ?_;first|omega|(simp only [zL,zM];omega))|refine altF ?_|refine all fun _=>?_|refine both ?_ ?_|(refine choT ?_ ?_;omega)|(refine choF ?_ ?_;omega)|refine cho (fun _=>?_) fun _=>?_)|(with_reducible refine fact ?_ ?_;first|trivial|exact ⟨rfl,rfl⟩|kernel_rfl))
            generalize hA : O ++ ((List.range l.length).filter fun i => overP ((k + 1 : Nat) : Int) (fromK l k) (toK l k) (l.getD i default)) = A at *
            have hAl : A.length ≤ 2000000 := by rw [← hA, List.length_append]; omega
            clear hA
            repeat' (first|with_reducible (first|apply Stp.go|refine imp fun _=>?_|(refine need ?_ ?_;first|trivial|omega|exact ⟨by assumption,by omega⟩|(simp only [zL,zM];omega))|refine choT (by assumption) ?_|refine choF (by assumption) ?_|refine choF' (by assumption) ?_|(refine altT ?_ ?_;first|omega|(simp only [zL,zM];omega))|refine altF ?_|refine all fun _=>?_|refine both ?_ ?_|(refine choT ?_ ?_;omega)|(refine choF ?_ ?_;omega)|refine cho (fun _=>?_) fun _=>?_)|(with_reducible refine fact ?_ ?_;first|trivial|exact ⟨rfl,rfl⟩|kernel_rfl))
            rename_i mb v2
            refine loopI (β := Nat × List (Nat × Int × Bool) × Nat) (fun x => x.1 ≤ A.length ∧ ∀ q : Int, findT q x.2.1 = if q ∈ (A.take x.1).map Int.ofNat then some true else none)
              (fun x => [.lst 36 (l.map tbF) m, I .i64 (k : Nat), .val (.map (some mb)), .lst 1 (A.map itN) .ro, I .i64 (A.length : Nat), I .i64 (x.1 : Nat)])
              (fun x => [.map mb (mkM keyI bV x.2.1) x.2.2]) (fun x => A.length - x.1) (0, [], 0) ⟨Nat.zero_le _, fun q => rfl⟩ (Sub.drop_ (.cons _ (.cons_cons _ (List.nil_sublist _))) _) ?_
            rintro ⟨i, L, ck⟩ ⟨q1, q2⟩
            dsimp only at q1 q2 ⊢
            by_cases hia : i < A.length
            · repeat' (first|with_reducible (first|apply Stp.go|refine imp fun _=>?_|(refine need ?_ ?_;first|trivial|omega|exact ⟨by assumption,by omega⟩|(simp only [zL,zM];omega))|refine choT (by assumption) ?_|refine choF (by assumption) ?_|refine choF' (by assumption) ?_|(refine altT ?_ ?_;first|omega|(simp only [zL,zM];omega))|refine altF ?_|refine all fun _=>?_|refine both ?_ ?_|(refine choT ?_ ?_;omega)|(refine choF ?_ ?_;omega)|refine cho (fun _=>?_) fun _=>?_)|(with_reducible refine fact ?_ ?_;first|trivial|exact ⟨rfl,rfl⟩|kernel_rfl))
              refine again (i + 1, setT ((A.getD i default : Nat) : Int) true ck L, bif hasT ((A.getD i default : Nat) : Int) L then ck else ck + 1) (by dsimp only; omega) ⟨by dsimp only; omega, fun q => ?_⟩ (Sub.refl _ _)
              dsimp only
              rw [findT_set, q2, take_succ_d hia, List.map_append]
              by_cases e : q = ((A.getD i default : Nat) : Int)
              · rw [if_pos e, if_pos (List.mem_append_right _ (by rw [e]; exact List.mem_cons_self))]
              · rw [if_neg e]
                by_cases e2 : q ∈ (A.take i).map Int.ofNat
                · rw [if_pos e2, if_pos (List.mem_append_left _ e2)]
                · rw [if_neg e2, if_neg]
                  intro h
                  rcases List.mem_append.1 h with h | h
                  · exact e2 h
                  · exact e (List.mem_singleton.1 h)
            · have ei : i = A.length := by omega
              subst ei
              rw [List.take_length] at q2
              repeat' (first|with_reducible (first|apply Stp.go|refine imp fun _=>?_|(refine need ?_ ?_;first|trivial|omega|exact ⟨by assumption,by omega⟩|(simp only [zL,zM];omega))|refine choT (by assumption) ?_|refine choF (by assumption) ?_|refine choF' (by assumption) ?_|(refine altT ?_ ?_;first|omega|(simp only [zL,zM];omega))|refine altF ?_|refine all fun _=>?_|refine both ?_ ?_|(refine choT ?_ ?_;omega)|(refine choF ?_ ?_;omega)|refine cho (fun _=>?_) fun _=>?_)|(with_reducible refine fact ?_ ?_;first|trivial|exact ⟨rfl,rfl⟩|kernel_rfl))
              refine loopI (β := Nat × Value) (fun x => x.1 ≤ l.length) (fun x => [I .i64 (k : Nat), .val (.map (some mb)), .own x.2 ((List.range x.1).filter (inP l k)).length, I .i64 (l.length : Nat), I .i64 (x.1 : Nat)])
                (fun x => [.row x.2 InT 1 (((List.range x.1).filter (inP l k)).map itN) 0, .map mb (mkM keyI bV L) ck]) (fun x => l.length - x.1) (0, .slice none 0 0) (Nat.zero_le _) (Sub.nil_own InT (sz := 1) (by decide) _ [_, _] [_, _]) ?_
              rintro ⟨i, w⟩ p1
              dsimp only at p1 ⊢
              by_cases hil : i < l.length
              · have hff : (findT ((i : Nat) : Int) L).getD false = inP l k i := by
                  rw [q2]
                  by_cases h : ((i : Nat) : Int) ∈ A.map Int.ofNat
                  · rw [if_pos h, (hin i hil).1 (mem_map_nat.1 h)]; rfl
                  · rw [if_neg h, Bool.eq_false_iff.2 fun h2 => h (mem_map_nat.2 ((hin i hil).2 h2))]; rfl
                have hfl : ((List.range i).filter (inP l k)).length ≤ i := Nat.le_trans (List.length_filter_le _ _) (by rw [List.length_range]; exact Nat.le_refl _)
                have hs : (List.range (i + 1)).filter (inP l k) = (List.range i).filter (inP l k) ++ if inP l k i = true then [i] else [] := by
                  rw [List.range_succ, List.filter_append]
                  congr 1
                  by_cases h : inP l k i = true
                  · rw [if_pos h, List.filter_cons_of_pos h]; rfl
                  · rw [if_neg h, List.filter_cons_of_neg h]; rfl
                by_cases hp : inP l k i = true
                · rw [hp] at hff
                  rw [if_pos hp] at hs
                  repeat' (first|with_reducible (first|apply Stp.go|refine imp fun _=>?_|(refine need ?_ ?_;first|trivial|omega|exact ⟨by assumption,by omega⟩|(simp only [zL,zM];omega))|refine choT (by assumption) ?_|refine choF (by assumption) ?_|refine choF' (by assumption) ?_|(refine altT ?_ ?_;first|omega|(simp only [zL,zM];omega))|refine altF ?_|refine all fun _=>?_|refine both ?_ ?_|(refine choT ?_ ?_;omega)|(refine choF ?_ ?_;omega)|refine cho (fun _=>?_) fun _=>?_)|(with_reducible refine fact ?_ ?_;first|trivial|exact ⟨rfl,rfl⟩|kernel_rfl))
                  all_goals first
                  | (exfalso; simp_all; done)
                  | (rename_i w2
                     exact again (i + 1, w2) (by dsimp only; omega) (by dsimp only; omega) (by dsimp only; rw [hs]; exact Sub.refl _ _))
                · rw [Bool.eq_false_iff.2 hp] at hff
                  rw [if_neg hp, List.append_nil] at hs
                  repeat' (first|with_reducible (first|apply Stp.go|refine imp fun _=>?_|(refine need ?_ ?_;first|trivial|omega|exact ⟨by assumption,by omega⟩|(simp only [zL,zM];omega))|refine choT (by assumption) ?_|refine choF (by assumption) ?_|refine choF' (by assumption) ?_|(refine altT ?_ ?_;first|omega|(simp only [zL,zM];omega))|refine altF ?_|refine all fun _=>?_|refine both ?_ ?_|(refine choT ?_ ?_;omega)|(refine choF ?_ ?_;omega)|refine cho (fun _=>?_) fun _=>?_)|(with_reducible refine fact ?_ ?_;first|trivial|exact ⟨rfl,rfl⟩|kernel_rfl))
                  all_goals first
                  | exact again (i + 1, w) (by dsimp only; omega) (by dsimp only; omega) (by dsimp only; rw [hs]; exact Sub.refl _ _)
                  | (exfalso; simp_all; done)
              · have ei : i = l.length := by omega
                subst ei
                rw [map_itN, show ((List.range l.length).filter (inP l k)) = inK l k from rfl]
                repeat' (first|with_reducible (first|apply Stp.go|refine imp fun _=>?_|(refine need ?_ ?_;first|trivial|omega|exact ⟨by assumption,by omega⟩|(simp only [zL,zM];omega))|refine choT (by assumption) ?_|refine choF (by assumption) ?_|refine choF' (by assumption) ?_|(refine altT ?_ ?_;first|omega|(simp only [zL,zM];omega))|refine altF ?_|refine all fun _=>?_|refine both ?_ ?_|(refine choT ?_ ?_;omega)|(refine choF ?_ ?_;omega)|refine cho (fun _=>?_) fun _=>?_)|(with_reducible refine fact ?_ ?_;first|trivial|exact ⟨rfl,rfl⟩|kernel_rfl))
                exact ⟨_, _, _, rfl, Sub.tuple (retOwn (Sub.app_nil _)), rfl, rfl⟩
    · have hh2 : ¬ capT k < (ownP l k).length := by unfold hot at hh; exact fun h => hh (decide_eq_true h)
      repeat' (first|with_reducible (first|apply Stp.go|refine imp fun _=>?_|(refine need ?_ ?_;first|trivial|omega|exact ⟨by assumption,by omega⟩|(simp only [zL,zM];omega))|refine choT (by assumption) ?_|refine choF (by assumption) ?_|refine choF' (by assumption) ?_|(refine altT ?_ ?_;first|omega|(simp only [zL,zM];omega))|refine altF ?_|refine all fun _=>?_|refine both ?_ ?_|(refine choT ?_ ?_;omega)|(refine choF ?_ ?_;omega)|refine cho (fun _=>?_) fun _=>?_)|(with_reducible refine fact ?_ ?_;first|trivial|exact ⟨rfl,rfl⟩|kernel_rfl))
      refine again (k + 1) (by omega) ⟨by omega, fun j hj => ?_⟩ (Sub.app_nil _)
      by_cases e : j = k
      · subst e; exact Bool.eq_false_iff.2 hh
      · exact hn j (by omega)
  · have e : k = 3 := by omega
    subst e
    unfold pickR
    rw [lvlT_none hn]
    repeat' (first|with_reducible (first|apply Stp.go|refine imp fun _=>?_|(refine need ?_ ?_;first|trivial|omega|exact ⟨by assumption,by omega⟩|(simp only [zL,zM];omega))|refine choT (by assumption) ?_|refine choF (by assumption) ?_|refine choF' (by assumption) ?_|(refine altT ?_ ?_;first|omega|(simp only [zL,zM];omega))|refine altF ?_|refine all fun _=>?_|refine both ?_ ?_|(refine choT ?_ ?_;omega)|(refine choF ?_ ?_;omega)|refine cho (fun _=>?_) fun _=>?_)|(with_reducible refine fact ?_ ?_;first|trivial|exact ⟨rfl,rfl⟩|kernel_rfl))
    exact ⟨_, _, _, rfl, Sub.tuple (retNil it (sz := 1) (by decide) (Sub.app_nil _)), rfl, rfl⟩
end Go.Ab

/- Lists of entries in parts, walked; a list behind the next merge. -/
set_option linter.unusedVariables false
set_option linter.unusedSimpArgs false
namespace Go.Ab
abbrev EsT : TypeId := 33
namespace Es
def slices_Clone.mark : Mark := ⟨fun t => false, fun t => Nat.beq t 5, fun t => false, fun t => false, fun t => false⟩
def slices_Clone.ann : Ann := ⟨fun n => [], fun n => none, fun n => none⟩
/-- 'slices.Clone[[]marlstone/api.Entry,marlstone/api.Entry]' -/
def slices_Clone.sh (a0 : AV) (σ : Store) (Q : AEnd → Store → Prop) : Prop :=
  Do (aBin Go.Proofs.Tryz.prog .eql 33 a0 (.val (.slice none 0 0))) fun t4 =>
  aCond t4
    (Q (.ret (.val (.slice none 0 0))) σ)
    (aRowL 50 (mkE [.val (.string ⟨#[]⟩), .val (.string ⟨#[]⟩), .val (.bool false), .val (.int .i64 0)]) 4 0 [] σ fun t5 σ =>
  aAppend 50 4 48 t5 a0 σ (subK fun t7 σ_1 =>
  Q (.ret t7) σ_1))
theorem slices_Clone.eq (a0 : AV) (σ : Store) (Q : AEnd → Store → Prop) : vc (semOf Go.Proofs.Tryz.prog slices_Clone.mark) Go.Proofs.Tryz.f67.ntmps slices_Clone.ann (bodyOf Go.Proofs.Tryz.f67) (endK [.tmp 2] Q) (argFr [a0]) σ = slices_Clone.sh a0 σ Q := by kernel_rfl
theorem slices_Clone.go {a0 : AV} {σ : Store} {Q : AEnd → Store → Prop} (h : slices_Clone.sh a0 σ Q) : ACalls Go.Proofs.Tryz.prog 67 [a0] σ Q :=
  acalls_of_eq [.tmp 2] Go.Proofs.Tryz.func67 (by kernel_rfl) (by kernel_rfl) (by kernel_rfl) (by kernel_rfl) (slices_Clone.eq a0 σ Q) h
end Es
theorem CloneE_ok (l : List En) (hl : l.length ≤ 1000000) : ACalls Go.Proofs.Tryz.prog 67 [.lst 4 (l.map En.av) .ro] [] (fun x σ' => x = .ret (.lst 4 (l.map En.av) .ro) ∧ σ' = []) := by
  by_cases h0 : l.length = 0
  · have e : l = [] := List.length_eq_zero_iff.1 h0
    subst e
    refine emptyArg fun ao cap => ACalls.fin (Es.slices_Clone.go ?_)
    unfold Es.slices_Clone.sh
    cases ao with
    | none =>
      have ht : (none : Option Addr).isNone = true := rfl
      repeat' (first|with_reducible (first|apply Stp.go|refine imp fun _=>?_|(refine need ?_ ?_;first|trivial|omega|exact ⟨by assumption,by omega⟩|(simp only [zL,zM];omega))|refine choT (by assumption) ?_|refine choF (by assumption) ?_|refine choF' (by assumption) ?_|(refine altT ?_ ?_;first|omega|(simp only [zL,zM];omega))|refine altF ?_|refine all fun _=>?_|refine both ?_ ?_|(refine choT ?_ ?_;omega)|(refine choF ?_ ?_;omega)|refine cho (fun _=>?_) fun _=>?_)|(with_reducible refine fact ?_ ?_;first|trivial|exact ⟨rfl,rfl⟩|kernel_rfl))
      exact ⟨_, _, _, rfl, retNil En.av (sz := 4) (by decide) (Sub.refl _ _), rfl, rfl⟩
    | some a =>
      have ht : ¬ (some a).isNone = true := by simp
      have hs := fun σ => srcE (sz := 4) (cap := cap) (f := En.av) σ a
      repeat' (first|with_reducible (first|apply Stp.go|refine imp fun _=>?_|(refine need ?_ ?_;first|trivial|omega|exact ⟨by assumption,by omega⟩|(simp only [zL,zM];omega))|refine choT (by assumption) ?_|refine choF (by assumption) ?_|refine choF' (by assumption) ?_|(refine altT ?_ ?_;first|omega|(simp only [zL,zM];omega))|refine altF ?_|refine all fun _=>?_|refine both ?_ ?_|(refine choT ?_ ?_;omega)|(refine choF ?_ ?_;omega)|refine cho (fun _=>?_) fun _=>?_)|(with_reducible refine fact ?_ ?_;first|trivial|exact ⟨rfl,rfl⟩|kernel_rfl))
      exact ⟨_, _, _, rfl, retOwn (Sub.refl _ _), rfl, rfl⟩
  · refine ACalls.fin (Es.slices_Clone.go ?_)
    unfold Es.slices_Clone.sh
    repeat' (first|with_reducible (first|apply Stp.go|refine imp fun _=>?_|(refine need ?_ ?_;first|trivial|omega|exact ⟨by assumption,by omega⟩|(simp only [zL,zM];omega))|refine choT (by assumption) ?_|refine choF (by assumption) ?_|refine choF' (by assumption) ?_|(refine altT ?_ ?_;first|omega|(simp only [zL,zM];omega))|refine altF ?_|refine all fun _=>?_|refine both ?_ ?_|(refine choT ?_ ?_;omega)|(refine choF ?_ ?_;omega)|refine cho (fun _=>?_) fun _=>?_)|(with_reducible refine fact ?_ ?_;first|trivial|exact ⟨rfl,rfl⟩|kernel_rfl))
    exact ⟨_, _, _, rfl, retOwn (Sub.refl _ _), rfl, rfl⟩
instance {a : AV} {l : List En} {m : SM} [h : IsL a En.av 4 l m] : PC Go.Proofs.Tryz.prog 67 [a] (l.length ≤ 1000000) (.lst 4 (l.map En.av) .ro) := ⟨fun hl => ⟨[.lst 4 (l.map En.av) .ro], ⟨fun R v hv => SubV.ro _ _ _ R v (h.sub R v hv), trivial⟩, CloneE_ok l hl⟩⟩
instance : ElemF [.val (.slice none 0 0)] (List En) enL := ⟨trivial⟩
instance (l : List En) : AsF enL (.lst 4 (l.map En.av) .ro) l := ⟨rfl⟩
def merge_Split.mark : Mark := ⟨fun t => false, fun t => false, fun t => false, fun t => false, fun t => false⟩
def merge_Split.ann : Ann := ⟨fun n => bif Nat.beq n 6 then [0, 3, 4, 15, 16] else [], fun n => bif Nat.beq n 11 then some [0, 3, 4, 6, 15, 16] else none, fun n => none⟩
/-- 'marlstone/merge.Split' -/
def merge_Split.sh (a0 : AV) (σ : Store) (Q : AEnd → Store → Prop) : Prop :=
  Do (aBuiltin Go.Proofs.Tryz.prog .len #[33] [a0]) fun t8 =>
  Do (aBin Go.Proofs.Tryz.prog .eql 3 t8 (.val (.int .i64 0))) fun t9 =>
  aCond t9
    (Q (.ret (.val (.slice none 0 0))) σ)
    (Do (aBuiltin Go.Proofs.Tryz.prog .len #[33] [a0]) fun t11 =>
  Do (aBin Go.Proofs.Tryz.prog .add 3 t11 (.val (.int .i64 64))) fun t12 =>
  Do (aBin Go.Proofs.Tryz.prog .sub 3 t12 (.val (.int .i64 1))) fun t13 =>
  Do (aBin Go.Proofs.Tryz.prog .quo 3 t13 (.val (.int .i64 64))) fun t14 =>
  aLoop (fun go vs σ =>
    At vs 0 fun s0 => At vs 1 fun s3 => At vs 2 fun s4 => At vs 3 fun s15 => At vs 4 fun s16 => Do (aBin Go.Proofs.Tryz.prog .lss 3 s16 s15) fun t17 =>
    aCond t17
      (Do (aBuiltin Go.Proofs.Tryz.prog .len #[33] [s0]) fun t20 =>
    Do (aBin Go.Proofs.Tryz.prog .sub 3 s3 s16) fun t23 =>
    Do (aBin Go.Proofs.Tryz.prog .quo 3 t20 t23) fun t24 =>
    aJoin (fun j =>
      Do (aBuiltin Go.Proofs.Tryz.prog .len #[33] [s0]) fun t26 =>
      Do (aBin Go.Proofs.Tryz.prog .sub 3 s3 s16) fun t29 =>
      Do (aBin Go.Proofs.Tryz.prog .rem 3 t26 t29) fun t30 =>
      Do (aBin Go.Proofs.Tryz.prog .gtr 3 t30 (.val (.int .i64 0))) fun t31 =>
      aCond t31
        (Do (aBin Go.Proofs.Tryz.prog .add 3 t24 (.val (.int .i64 1))) fun t33 =>
        j [s0, s3, s4, t33, s15, s16] σ)
        (j [s0, s3, s4, t24, s15, s16] σ)) fun vs_1 σ_1 =>
    At vs_1 0 fun s0_1 => At vs_1 1 fun s3_1 => At vs_1 2 fun s4_1 => At vs_1 3 fun s6 => At vs_1 4 fun s15_1 => At vs_1 5 fun s16_1 => Do (aSlice .slice 4 s0_1 none (some s6) none) fun t37 =>
    aCall Go.Proofs.Tryz.prog 67 [t37] σ_1 (fun t38 σ_2 =>
    Do (aSlLit (mkE [.val (.slice none 0 0)]) 1 1 [(0, t38)]) fun t39 =>
    aAppend 33 1 24 s4_1 t39 σ_2 (subK fun t40 σ_3 =>
    Do (aSlice .slice 4 s0_1 (some s6) none none) fun t43 =>
    Do (aBin Go.Proofs.Tryz.prog .add 3 s16_1 (.val (.int .i64 1))) fun t44 =>
    go [t43, s3_1, t40, s15_1, t44] σ_3)) (fun e σ_4 => Q (.pan e) σ_4))
      (Q (.ret s4) σ))
    [a0, t14, (.val (.slice none 0 0)), t14, (.val (.int .i64 0))] σ)
theorem merge_Split.eq (a0 : AV) (σ : Store) (Q : AEnd → Store → Prop) : vc (semOf Go.Proofs.Tryz.prog merge_Split.mark) Go.Proofs.Tryz.f34.ntmps merge_Split.ann (bodyOf Go.Proofs.Tryz.f34) (endK [.tmp 2] Q) (argFr [a0]) σ = merge_Split.sh a0 σ Q := by kernel_rfl
theorem merge_Split.go {a0 : AV} {σ : Store} {Q : AEnd → Store → Prop} (h : merge_Split.sh a0 σ Q) : ACalls Go.Proofs.Tryz.prog 34 [a0] σ Q :=
  acalls_of_eq [.tmp 2] Go.Proofs.Tryz.func34 (by kernel_rfl) (by kernel_rfl) (by kernel_rfl) (by kernel_rfl) (merge_Split.eq a0 σ Q) h
theorem Split_ok (l : List En) (hl : l.length ≤ 100000) : aPure Go.Proofs.Tryz.prog 34 [.lst 4 (l.map En.av) .ro] (.lst 1 ((splitL l).map enL) .ro) := by
  refine ACalls.fin (merge_Split.go ?_)
  unfold merge_Split.sh
  by_cases h0 : l.length = 0
  · have e : l = [] := List.length_eq_zero_iff.1 h0
    subst e
    repeat' (first|with_reducible (first|apply Stp.go|refine imp fun _=>?_|(refine need ?_ ?_;first|trivial|omega|exact ⟨by assumption,by omega⟩|(simp only [zL,zM];omega))|refine choT (by assumption) ?_|refine choF (by assumption) ?_|refine choF' (by assumption) ?_|(refine altT ?_ ?_;first|omega|(simp only [zL,zM];omega))|refine altF ?_|refine all fun _=>?_|refine both ?_ ?_|(refine choT ?_ ?_;omega)|(refine choF ?_ ?_;omega)|refine cho (fun _=>?_) fun _=>?_)|(with_reducible refine fact ?_ ?_;first|trivial|exact ⟨rfl,rfl⟩|kernel_rfl))
    all_goals exact ⟨_, _, _, rfl, retNil enL (sz := 1) (by decide) (Sub.refl _ _), rfl, rfl⟩
  · have hm : (l.length + 64 - 1) / 64 = manyP l.length := rfl
    have hml := manyP_le l.length
    have hsl := splitL_len l
    repeat' (first|with_reducible (first|apply Stp.go|refine imp fun _=>?_|(refine need ?_ ?_;first|trivial|omega|exact ⟨by assumption,by omega⟩|(simp only [zL,zM];omega))|refine choT (by assumption) ?_|refine choF (by assumption) ?_|refine choF' (by assumption) ?_|(refine altT ?_ ?_;first|omega|(simp only [zL,zM];omega))|refine altF ?_|refine all fun _=>?_|refine both ?_ ?_|(refine choT ?_ ?_;omega)|(refine choF ?_ ?_;omega)|refine cho (fun _=>?_) fun _=>?_)|(with_reducible refine fact ?_ ?_;first|trivial|exact ⟨rfl,rfl⟩|kernel_rfl))
    generalize hM : manyP l.length = M at *
    refine loopI (β := Nat × Value × List En) (fun x => x.1 ≤ M ∧ M - x.1 ≤ x.2.2.length ∧ x.2.2.length ≤ 64 * (M - x.1) ∧ splitK (M - x.1) x.2.2 = (splitL l).drop x.1)
      (fun x => [.lst 4 (x.2.2.map En.av) .ro, I .i64 (M : Nat), .own x.2.1 ((splitL l).take x.1).length, I .i64 (M : Nat), I .i64 (x.1 : Nat)])
      (fun x => [.row x.2.1 EsT 1 (((splitL l).take x.1).map enL) 0]) (fun x => M - x.1) (0, .slice none 0 0, l) ⟨Nat.zero_le _, hml.1, hml.2, by show splitK (M - 0) l = splitL l; unfold splitL; rw [hM]; rfl⟩ ?_ ?_
    · rw [hm]
      exact Sub.nil_own EsT (sz := 1) (by decide) _ [_, _] [_, _]
    rintro ⟨i, v, R⟩ ⟨h1, h2, h3, h4⟩
    dsimp only at h1 h2 h3 h4 ⊢
    by_cases hi : i < M
    · obtain ⟨k, hk⟩ : ∃ k, M - i = k + 1 := ⟨M - i - 1, by omega⟩
      rw [hk] at h2 h3 h4
      have hps := partN_step h2 h3
      have hRl : R.length ≤ 200000 := by omega
      have hkl : k + 1 = M - i := hk.symm
      have hget : (splitL l).drop i = R.take (partN R.length (k + 1)) :: splitK k (R.drop (partN R.length (k + 1))) := h4.symm
      have hil : i < (splitL l).length := by omega
      have hgd : (splitL l).getD i default = R.take (partN R.length (k + 1)) := by
        have := congrArg (fun x => x.getD 0 default) hget
        simpa [List.getD_eq_getElem?_getD, List.getElem?_drop] using this
      have hdr : (splitL l).drop (i + 1) = splitK k (R.drop (partN R.length (k + 1))) := by
        have := congrArg (List.drop 1) hget
        simpa [List.drop_drop] using this
      have htk := take_succ_d hil
      rw [hgd] at htk
      repeat' (first|with_reducible (first|apply Stp.go|refine imp fun _=>?_|(refine need ?_ ?_;first|trivial|omega|exact ⟨by assumption,by omega⟩|(simp only [zL,zM];omega))|refine choT (by assumption) ?_|refine choF (by assumption) ?_|refine choF' (by assumption) ?_|(refine altT ?_ ?_;first|omega|(simp only [zL,zM];omega))|refine altF ?_|refine all fun _=>?_|refine both ?_ ?_|(refine choT ?_ ?_;omega)|(refine choF ?_ ?_;omega)|refine cho (fun _=>?_) fun _=>?_)|(with_reducible refine fact ?_ ?_;first|trivial|exact ⟨rfl,rfl⟩|kernel_rfl))
      refine joinI (β := Unit) (fun _ => True) (fun _ => [.lst 4 (R.map En.av) .ro, I .i64 (M : Nat), .own v ((splitL l).take i).length, I .i64 (partN R.length (k + 1) : Nat), I .i64 (M : Nat), I .i64 (i : Nat)]) (fun _ => [.row v EsT 1 (((splitL l).take i).map enL) 0]) ?_ ?_
      · have hpn : partN R.length (k + 1) = R.length / (M - i) + if R.length % (M - i) = 0 then 0 else 1 := by rw [hk]; rfl
        by_cases hr : R.length % (M - i) = 0
        · rw [if_pos hr, Nat.add_zero] at hpn
          rw [hpn]
          repeat' (first|with_reducible (first|apply Stp.go|refine imp fun _=>?_|(refine need ?_ ?_;first|trivial|omega|exact ⟨by assumption,by omega⟩|(simp only [zL,zM];omega))|refine choT (by assumption) ?_|refine choF (by assumption) ?_|refine choF' (by assumption) ?_|(refine altT ?_ ?_;first|omega|(simp only [zL,zM];omega))|refine altF ?_|refine all fun _=>?_|refine both ?_ ?_|(refine choT ?_ ?_;omega)|(refine choF ?_ ?_;omega)|refine cho (fun _=>?_) fun _=>?_)|(with_reducible refine fact ?_ ?_;first|trivial|exact ⟨rfl,rfl⟩|kernel_rfl))
          all_goals exact meet () trivial (Sub.refl _ _)
        · rw [if_neg hr] at hpn
          rw [hpn]
          have hr2 : 0 < R.length % (M - i) := by omega
          repeat' (first|with_reducible (first|apply Stp.go|refine imp fun _=>?_|(refine need ?_ ?_;first|trivial|omega|exact ⟨by assumption,by omega⟩|(simp only [zL,zM];omega))|refine choT (by assumption) ?_|refine choF (by assumption) ?_|refine choF' (by assumption) ?_|(refine altT ?_ ?_;first|omega|(simp only [zL,zM];omega))|refine altF ?_|refine all fun _=>?_|refine both ?_ ?_|(refine choT ?_ ?_;omega)|(refine choF ?_ ?_;omega)|refine cho (fun _=>?_) fun _=>?_)|(with_reducible refine fact ?_ ?_;first|trivial|exact ⟨rfl,rfl⟩|kernel_rfl))
          all_goals exact meet () trivial (Sub.refl _ _)
      · rintro ⟨⟩ -
        generalize partN R.length (k + 1) = n at *
        have hln : ((splitL l).take i).length ≤ 200000 := by rw [List.length_take]; omega
        have hRd : (R.drop n).length = R.length - n := List.length_drop
        repeat' (first|with_reducible (first|apply Stp.go|refine imp fun _=>?_|(refine need ?_ ?_;first|trivial|omega|exact ⟨by assumption,by omega⟩|(simp only [zL,zM];omega))|refine choT (by assumption) ?_|refine choF (by assumption) ?_|refine choF' (by assumption) ?_|(refine altT ?_ ?_;first|omega|(simp only [zL,zM];omega))|refine altF ?_|refine all fun _=>?_|refine both ?_ ?_|(refine choT ?_ ?_;omega)|(refine choF ?_ ?_;omega)|refine cho (fun _=>?_) fun _=>?_)|(with_reducible refine fact ?_ ?_;first|trivial|exact ⟨rfl,rfl⟩|kernel_rfl))
        rename_i w
        exact again (i + 1, w, R.drop n) (by dsimp only; omega) ⟨by dsimp only; omega, by dsimp only; omega, by dsimp only; omega, by dsimp only; rw [show M - (i + 1) = k by omega]; exact hdr.symm⟩ (by dsimp only; rw [htk]; exact subS _)
    · have e : i = M := by omega
      subst e
      rw [List.take_of_length_le (by omega)]
      repeat' (first|with_reducible (first|apply Stp.go|refine imp fun _=>?_|(refine need ?_ ?_;first|trivial|omega|exact ⟨by assumption,by omega⟩|(simp only [zL,zM];omega))|refine choT (by assumption) ?_|refine choF (by assumption) ?_|refine choF' (by assumption) ?_|(refine altT ?_ ?_;first|omega|(simp only [zL,zM];omega))|refine altF ?_|refine all fun _=>?_|refine both ?_ ?_|(refine choT ?_ ?_;omega)|(refine choF ?_ ?_;omega)|refine cho (fun _=>?_) fun _=>?_)|(with_reducible refine fact ?_ ?_;first|trivial|exact ⟨rfl,rfl⟩|kernel_rfl))
      exact ⟨_, _, _, rfl, retOwn (Sub.refl _ _), rfl, rfl⟩
instance {a : AV} {l : List En} {m : SM} [h : IsL a En.av 4 l m] : PC Go.Proofs.Tryz.prog 34 [a] (l.length ≤ 100000) (.lst 1 ((splitL l).map enL) .ro) := ⟨fun hl => ⟨[.lst 4 (l.map En.av) .ro], ⟨fun R v hv => SubV.ro _ _ _ R v (h.sub R v hv), trivial⟩, Split_ok l hl⟩⟩
end Go.Ab

/- A list behind the next merge: Inputs, Compact, walked. -/
set_option linter.unusedVariables false
set_option linter.unusedSimpArgs false
namespace Go.Ab
instance {a : AV} {ls : List (List En)} {b : Bool} {m : SM} [h : IsL a enL 1 ls m] : PC Go.Proofs.Tryz.prog 35 [a, .val (.bool b)] (ls.length ≤ 1000 ∧ ∀ l ∈ ls, l.length ≤ 1000) (.lst 4 ((mergeL b ls).map En.av) .ro) := ⟨fun hl => ⟨[.lst 1 (ls.map enL) m, B b], ⟨h.sub, SubV.refl _, trivial⟩, Merge_ok ls b m hl.1 hl.2⟩⟩
/-- What is merged next, as a list's reader sees it. -/
def inputsR (l : List TabR) : AV := if rightT l = true then pickR l else .tuple [.lst 1 (([] : List Int).map it) .ro, I .i64 0, B false]
def move_Inputs.mark : Mark := ⟨fun t => Nat.beq t 6 || Nat.beq t 9, fun t => false, fun t => false, fun t => false, fun t => false⟩
def move_Inputs.ann : Ann := ⟨fun n => [], fun n => none, fun n => none⟩
/-- 'marlstone/move.Inputs' -/
def move_Inputs.sh (a0 : AV) (σ : Store) (Q : AEnd → Store → Prop) : Prop :=
  Do (aPureC Go.Proofs.Tryz.prog 21 [a0]) fun t6 =>
  Do (aUn Go.Proofs.Tryz.prog .not t6) fun t7 =>
  aCond t7
    (Q (.ret (.tuple [(.val (.slice none 0 0)), (.val (.int .i64 0)), (.val (.bool false))])) σ)
    (Do (aPureC Go.Proofs.Tryz.prog 31 [a0]) fun t9 =>
  Do (aExt t9 0) fun t10 =>
  Do (aExt t9 1) fun t11 =>
  Do (aExt t9 2) fun t12 =>
  Q (.ret (.tuple [t10, t11, t12])) σ)
theorem move_Inputs.eq (a0 : AV) (σ : Store) (Q : AEnd → Store → Prop) : vc (semOf Go.Proofs.Tryz.prog move_Inputs.mark) Go.Proofs.Tryz.f9.ntmps move_Inputs.ann (bodyOf Go.Proofs.Tryz.f9) (endK [.tmp 2, .tmp 3, .tmp 4] Q) (argFr [a0]) σ = move_Inputs.sh a0 σ Q := by kernel_rfl
theorem move_Inputs.go {a0 : AV} {σ : Store} {Q : AEnd → Store → Prop} (h : move_Inputs.sh a0 σ Q) : ACalls Go.Proofs.Tryz.prog 9 [a0] σ Q :=
  acalls_of_eq [.tmp 2, .tmp 3, .tmp 4] Go.Proofs.Tryz.func9 (by kernel_rfl) (by kernel_rfl) (by kernel_rfl) (by kernel_rfl) (move_Inputs.eq a0 σ Q) h
theorem Inputs_ok (l : List TabR) (m : SM) (hl : l.length ≤ 1000000) : aPure Go.Proofs.Tryz.prog 9 [.lst 36 (l.map tbF) m] (inputsR l) := by
  refine ACalls.fin (move_Inputs.go ?_)
  unfold move_Inputs.sh inputsR
  by_cases hr : rightT l = true
  · rw [if_pos hr]
    have hp := Pick_ok l m hl
    unfold pickR at hp ⊢
    by_cases hk : lvlT l < 3
    · rw [if_pos hk] at hp ⊢
      have iP : PC Go.Proofs.Tryz.prog 31 [.lst 36 (l.map tbF) m] True _ := ⟨fun _ => PC.of hp⟩
      repeat' (first|with_reducible (first|apply Stp.go|refine imp fun _=>?_|(refine need ?_ ?_;first|trivial|omega|exact ⟨by assumption,by omega⟩|(simp only [zL,zM];omega))|refine choT (by assumption) ?_|refine choF (by assumption) ?_|refine choF' (by assumption) ?_|(refine altT ?_ ?_;first|omega|(simp only [zL,zM];omega))|refine altF ?_|refine all fun _=>?_|refine both ?_ ?_|(refine choT ?_ ?_;omega)|(refine choF ?_ ?_;omega)|refine cho (fun _=>?_) fun _=>?_)|(with_reducible refine fact ?_ ?_;first|trivial|exact ⟨rfl,rfl⟩|kernel_rfl))
      all_goals exact ⟨_, _, _, rfl, Sub.refl _ _, rfl, rfl⟩
    · rw [if_neg hk] at hp ⊢
      have iP : PC Go.Proofs.Tryz.prog 31 [.lst 36 (l.map tbF) m] True _ := ⟨fun _ => PC.of hp⟩
      repeat' (first|with_reducible (first|apply Stp.go|refine imp fun _=>?_|(refine need ?_ ?_;first|trivial|omega|exact ⟨by assumption,by omega⟩|(simp only [zL,zM];omega))|refine choT (by assumption) ?_|refine choF (by assumption) ?_|refine choF' (by assumption) ?_|(refine altT ?_ ?_;first|omega|(simp only [zL,zM];omega))|refine altF ?_|refine all fun _=>?_|refine both ?_ ?_|(refine choT ?_ ?_;omega)|(refine choF ?_ ?_;omega)|refine cho (fun _=>?_) fun _=>?_)|(with_reducible refine fact ?_ ?_;first|trivial|exact ⟨rfl,rfl⟩|kernel_rfl))
      all_goals exact ⟨_, _, _, rfl, Sub.refl _ _, rfl, rfl⟩
  · rw [if_neg hr]
    repeat' (first|with_reducible (first|apply Stp.go|refine imp fun _=>?_|(refine need ?_ ?_;first|trivial|omega|exact ⟨by assumption,by omega⟩|(simp only [zL,zM];omega))|refine choT (by assumption) ?_|refine choF (by assumption) ?_|refine choF' (by assumption) ?_|(refine altT ?_ ?_;first|omega|(simp only [zL,zM];omega))|refine altF ?_|refine all fun _=>?_|refine both ?_ ?_|(refine choT ?_ ?_;omega)|(refine choF ?_ ?_;omega)|refine cho (fun _=>?_) fun _=>?_)|(with_reducible refine fact ?_ ?_;first|trivial|exact ⟨rfl,rfl⟩|kernel_rfl))
    all_goals exact ⟨_, _, _, rfl, Sub.tuple (retNil it (sz := 1) (by decide) (Sub.app_nil _)), rfl, rfl⟩
/-- Whether a table tells of a row. -/
def okB (b : Int) (x : TabR) (row : List En) : Bool := fit row && decide (newT b x.lev.toNat row = x)
theorem okB_iff {b : Int} {x : TabR} {row : List En} (hx : mayT x = true) : okB b x row = true ↔ OkRow b x row := by
  have h1 := mayT_lev hx
  unfold okB
  rw [Bool.and_eq_true, decide_eq_true_eq]
  exact ⟨fun h => ⟨h.1, h1.1, h1.2.1, h.2⟩, fun h => ⟨h.fit, h.eq⟩⟩
/-- Whether all tables tell of their rows. -/
def allOk (b : Int) (l : List TabR) (ins : List Nat) (RS : List (List En)) : Bool := decide (∀ j, j < ins.length → okB b (l.getD (ins.getD j default) default) (RS.getD j default) = true)
/-- A list behind the next merge, its new rows; what is wrong. -/
def compactT (b : Int) (l : List TabR) (RS : List (List En)) : (List TabR × List (List En)) × Nat :=
  if rightT l = true then
    (if lvlT l < 3 then
      (if (inK l (lvlT l)).length = RS.length ∧ allOk b l (inK l (lvlT l)) RS = true then ((nextT b l (lvlT l) RS, partsT (lvlT l) RS), 0) else (([], []), 8))
    else (([], []), 5))
  else (([], []), 1)
theorem allOk_no {b : Int} {l : List TabR} {ins : List Nat} {RS : List (List En)} {j : Nat} (hj : j < ins.length) (h : ¬ okB b (l.getD (ins.getD j default) default) (RS.getD j default) = true) : ¬ allOk b l ins RS = true := by
  unfold allOk
  rw [decide_eq_true_eq]
  exact fun g => h (g j hj)
def move_Compact.mark : Mark := ⟨fun t => Nat.beq t 23 || Nat.beq t 27 || Nat.beq t 58 || Nat.beq t 75 || Nat.beq t 76 || Nat.beq t 87, fun t => false, fun t => Nat.beq t 3, fun t => Nat.beq t 46 || Nat.beq t 48 || Nat.beq t 53 || Nat.beq t 57 || Nat.beq t 68 || Nat.beq t 82 || Nat.beq t 84, fun t => false⟩
def move_Compact.ann : Ann := ⟨fun n => bif Nat.beq n 9 then [1, 2, 3, 9, 10, 40, 41, 42] else bif Nat.beq n 18 then [1, 3, 9, 10, 16, 17, 77, 78, 79] else [], fun n => none, fun n => none⟩
/-- 'marlstone/move.Compact' -/
def move_Compact.sh (a0 a1 a2 : AV) (σ : Store) (Q : AEnd → Store → Prop) : Prop :=
  Do (aFreeze ((a0 : AV)).cells) fun t3 =>
  Do (aPureC Go.Proofs.Tryz.prog 21 [a1]) fun t23 =>
  Do (aUn Go.Proofs.Tryz.prog .not t23) fun t24 =>
  aCond t24
    (Q (.ret (.tuple [(.val (.slice none 0 0)), (.val (.slice none 0 0)), (.val (.int .i64 1))])) σ)
    (Do (aPureC Go.Proofs.Tryz.prog 31 [a1]) fun t27 =>
  Do (aExt t27 0) fun t28 =>
  Do (aExt t27 1) fun t29 =>
  Do (aExt t27 2) fun t30 =>
  Do (aUn Go.Proofs.Tryz.prog .not t30) fun t33 =>
  aCond t33
    (Q (.ret (.tuple [(.val (.slice none 0 0)), (.val (.slice none 0 0)), (.val (.int .i64 5))])) σ)
    (Do (aBuiltin Go.Proofs.Tryz.prog .len #[23] [t28]) fun t36 =>
    Do (aBuiltin Go.Proofs.Tryz.prog .len #[22] [a2]) fun t38 =>
    Do (aBin Go.Proofs.Tryz.prog .neq 3 t36 t38) fun t39 =>
    aCond t39
      (Q (.ret (.tuple [(.val (.slice none 0 0)), (.val (.slice none 0 0)), (.val (.int .i64 8))])) σ)
      (Do (aBuiltin Go.Proofs.Tryz.prog .len #[23] [t28]) fun t41 =>
  aLoop (fun go vs σ =>
    At vs 0 fun s1 => At vs 1 fun s2 => At vs 2 fun s3 => At vs 3 fun s9 => At vs 4 fun s10 => At vs 5 fun s40 => At vs 6 fun s41 => At vs 7 fun s42 => Do (aBin Go.Proofs.Tryz.prog .lss 3 s42 s41) fun t43 =>
    aCond t43
      (Do (aIndexAddr .slice 1 s40 s42) fun t45 =>
    Do (loadF false 1 t45) fun t46 =>
    Do (loadF true 1 s3) fun t48 =>
    Do (aIndexAddr .slice 36 s1 t46) fun t51 =>
    Do (aFieldAddr 0 1 t51) fun t52 =>
    Do (loadF false 1 t52) fun t53 =>
    Do (aIndexAddr .slice 1 s2 s42) fun t56 =>
    Do (loadF false 1 t56) fun t57 =>
    Do (aPureC Go.Proofs.Tryz.prog 27 [t48, t53, t57]) fun t58 =>
    Do (aExt t58 0) fun t59 =>
    Do (aExt t58 1) fun t60 =>
    aNewVar 58 [.val (.int .i64 0), .val (.int .i64 0), .val (.int .u8 0), .val (.int .u8 0), .val (.int .u8 0), .val (.int .u8 0), .val (.int .u8 0), .val (.int .u8 0), .val (.int .u8 0), .val (.int .u8 0), .val (.int .u8 0), .val (.int .u8 0), .val (.int .u8 0), .val (.int .u8 0), .val (.int .u8 0), .val (.int .u8 0), .val (.int .u8 0), .val (.int .u8 0), .val (.int .u8 0), .val (.int .u8 0), .val (.int .u8 0), .val (.int .u8 0), .val (.int .u8 0), .val (.int .u8 0), .val (.int .u8 0), .val (.int .u8 0), .val (.int .u8 0), .val (.int .u8 0), .val (.int .u8 0), .val (.int .u8 0), .val (.int .u8 0), .val (.int .u8 0), .val (.int .u8 0), .val (.int .u8 0), .val (.string ⟨#[]⟩), .val (.string ⟨#[]⟩)] σ fun t14 σ_1 =>
    storeA 36 t14 t59 σ_1 fun u σ_2 =>
    Do (aBin Go.Proofs.Tryz.prog .neq 35 t60 (.val (.int .i64 0))) fun t62 =>
    Do (aGuard t62 false (loadA true 36 t14 σ_2)) fun t64 =>
    Do (aGuard t62 false (aIs s1)) fun t65 =>
    Do (aGuard t62 false (aIs t46)) fun t66 =>
    Do (aGuard t62 false (aIndexAddr .slice 36 t65 t66)) fun t67 =>
    Do (aGuard t62 false (loadF true 36 t67)) fun t68 =>
    Do (aGuard t62 false (aBin Go.Proofs.Tryz.prog .neq 58 t64 t68)) fun t69 =>
    Do (aPick t62 (.val (.bool true)) t69) fun t70 =>
    aCond t70
      (Q (.ret (.tuple [(.val (.slice none 0 0)), (.val (.slice none 0 0)), (.val (.int .i64 8))])) σ_2)
      (Do (aBin Go.Proofs.Tryz.prog .add 3 s42 (.val (.int .i64 1))) fun t71 =>
    go [s1, s2, s3, s9, s10, s40, s41, t71] σ_2))
      (Do (aBin Go.Proofs.Tryz.prog .eql 3 s10 (.val (.int .i64 3))) fun t74 =>
  Do (aPureC Go.Proofs.Tryz.prog 35 [s2, t74]) fun t75 =>
  Do (aPureC Go.Proofs.Tryz.prog 34 [t75]) fun t76 =>
  Do (aBuiltin Go.Proofs.Tryz.prog .len #[22] [t76]) fun t78 =>
  aLoop (fun go_1 vs_1 σ_3 =>
    At vs_1 0 fun s1_1 => At vs_1 1 fun s3_1 => At vs_1 2 fun s9_1 => At vs_1 3 fun s10_1 => At vs_1 4 fun s16 => At vs_1 5 fun s17 => At vs_1 6 fun s77 => At vs_1 7 fun s78 => At vs_1 8 fun s79 => Do (aBin Go.Proofs.Tryz.prog .lss 3 s79 s78) fun t80 =>
    aCond t80
      (Do (aIndexAddr .slice 1 s77 s79) fun t81 =>
    Do (loadF false 1 t81) fun t82 =>
    Do (loadF true 1 s3_1) fun t84 =>
    Do (aPureC Go.Proofs.Tryz.prog 27 [t84, s10_1, t82]) fun t87 =>
    Do (aExt t87 0) fun t88 =>
    Do (aExt t87 1) fun t89 =>
    aNewVar 58 [.val (.int .i64 0), .val (.int .i64 0), .val (.int .u8 0), .val (.int .u8 0), .val (.int .u8 0), .val (.int .u8 0), .val (.int .u8 0), .val (.int .u8 0), .val (.int .u8 0), .val (.int .u8 0), .val (.int .u8 0), .val (.int .u8 0), .val (.int .u8 0), .val (.int .u8 0), .val (.int .u8 0), .val (.int .u8 0), .val (.int .u8 0), .val (.int .u8 0), .val (.int .u8 0), .val (.int .u8 0), .val (.int .u8 0), .val (.int .u8 0), .val (.int .u8 0), .val (.int .u8 0), .val (.int .u8 0), .val (.int .u8 0), .val (.int .u8 0), .val (.int .u8 0), .val (.int .u8 0), .val (.int .u8 0), .val (.int .u8 0), .val (.int .u8 0), .val (.int .u8 0), .val (.int .u8 0), .val (.string ⟨#[]⟩), .val (.string ⟨#[]⟩)] σ_3 fun t20 σ_4 =>
    storeA 36 t20 t88 σ_4 fun u_1 σ_5 =>
    Do (loadA true 36 t20 σ_5) fun t91 =>
    Do (aSlLit (mkE [.val (.int .i64 0), .val (.int .i64 0), .val (.int .u8 0), .val (.int .u8 0), .val (.int .u8 0), .val (.int .u8 0), .val (.int .u8 0), .val (.int .u8 0), .val (.int .u8 0), .val (.int .u8 0), .val (.int .u8 0), .val (.int .u8 0), .val (.int .u8 0), .val (.int .u8 0), .val (.int .u8 0), .val (.int .u8 0), .val (.int .u8 0), .val (.int .u8 0), .val (.int .u8 0), .val (.int .u8 0), .val (.int .u8 0), .val (.int .u8 0), .val (.int .u8 0), .val (.int .u8 0), .val (.int .u8 0), .val (.int .u8 0), .val (.int .u8 0), .val (.int .u8 0), .val (.int .u8 0), .val (.int .u8 0), .val (.int .u8 0), .val (.int .u8 0), .val (.int .u8 0), .val (.int .u8 0), .val (.string ⟨#[]⟩), .val (.string ⟨#[]⟩)]) 36 1 [(0, t91)]) fun t92 =>
    aAppend 58 36 80 s17 t92 σ_5 (subK fun t93 σ_6 =>
    Do (aBin Go.Proofs.Tryz.prog .add 3 s79 (.val (.int .i64 1))) fun t94 =>
    go_1 [s1_1, s3_1, s9_1, s10_1, s16, t93, s77, s78, t94] σ_6))
      (aCall Go.Proofs.Tryz.prog 17 [s1_1, s9_1, s17] σ_3 (fun t98 σ_7 =>
  Q (.ret (.tuple [t98, s16, (.val (.int .i64 0))])) σ_7) (fun e σ_8 => Q (.pan e) σ_8)))
    [s1, s3, s9, s10, t76, (.val (.slice none 0 0)), t76, t78, (.val (.int .i64 0))] σ))
    [a1, a2, t3, t28, t29, t28, t41, (.val (.int .i64 0))] σ)))
theorem move_Compact.eq (a0 a1 a2 : AV) (σ : Store) (Q : AEnd → Store → Prop) : vc (semOf Go.Proofs.Tryz.prog move_Compact.mark) Go.Proofs.Tryz.f13.ntmps move_Compact.ann (bodyOf Go.Proofs.Tryz.f13) (endK [.tmp 6, .tmp 7, .tmp 8] Q) (argFr [a0, a1, a2]) σ = move_Compact.sh a0 a1 a2 σ Q := by kernel_rfl
theorem move_Compact.go {a0 a1 a2 : AV} {σ : Store} {Q : AEnd → Store → Prop} (h : move_Compact.sh a0 a1 a2 σ Q) : ACalls Go.Proofs.Tryz.prog 13 [a0, a1, a2] σ Q :=
  acalls_of_eq [.tmp 6, .tmp 7, .tmp 8] Go.Proofs.Tryz.func13 (by kernel_rfl) (by kernel_rfl) (by kernel_rfl) (by kernel_rfl) (move_Compact.eq a0 a1 a2 σ Q) h
theorem Compact_ok (b : Int) (l : List TabR) (RS : List (List En)) (m m' : SM) (hl : l.length ≤ 1000000) (hR : RS.length ≤ 1000000) (hRl : ∀ r ∈ RS, r.length ≤ 1000000) : aPure Go.Proofs.Tryz.prog 13 [trA b, .lst 36 (l.map tbF) m, .lst 1 (RS.map enL) m'] (.tuple [.lst 36 ((compactT b l RS).1.1.map tbF) .ro, .lst 1 ((compactT b l RS).1.2.map enL) .ro, I .i64 ((compactT b l RS).2 : Nat)]) := by
  refine ACalls.fin (move_Compact.go ?_)
  unfold move_Compact.sh compactT
  by_cases hr : rightT l = true
  · rw [if_pos hr]
    have hp := Pick_ok l m hl
    unfold pickR at hp
    obtain ⟨hm, hpw, h5⟩ := (rightT_iff l).1 hr
    by_cases hk : lvlT l < 3
    · rw [if_pos hk] at hp ⊢
      have hmI : ∀ j, j < (inK l (lvlT l)).length → (inK l (lvlT l)).getD j default < l.length := fun j hj => (inK_mem.1 (getD_memT hj)).1
      have hIl : (inK l (lvlT l)).length ≤ l.length := Nat.le_trans (List.length_filter_le _ _) (by rw [List.length_range]; exact Nat.le_refl _)
      generalize lvlT l = k at *
      rw [map_itN] at hp
      have iP : PC Go.Proofs.Tryz.prog 31 [.lst 36 (l.map tbF) m] True _ := ⟨fun _ => PC.of hp⟩
      have htt : (true : Bool) = true := rfl
      by_cases hn : (inK l k).length = RS.length
      · repeat' (first|with_reducible (first|apply Stp.go|refine imp fun _=>?_|(refine need ?_ ?_;first|trivial|omega|exact ⟨by assumption,by omega⟩|(simp only [zL,zM];omega))|refine choT (by assumption) ?_|refine choF (by assumption) ?_|refine choF' (by assumption) ?_|(refine altT ?_ ?_;first|omega|(simp only [zL,zM];omega))|refine altF ?_|refine all fun _=>?_|refine both ?_ ?_|(refine choT ?_ ?_;omega)|(refine choF ?_ ?_;omega)|refine cho (fun _=>?_) fun _=>?_)|(with_reducible refine fact ?_ ?_;first|trivial|exact ⟨rfl,rfl⟩|kernel_rfl))
        have hRn : RS.length ≤ 1000 := by omega
        refine loopI (β := Nat) (fun j => j ≤ (inK l k).length ∧ ∀ i, i < j → okB b (l.getD ((inK l k).getD i default) default) (RS.getD i default) = true)
          (fun j => [.lst 36 (l.map tbF) m, .lst 1 (RS.map enL) m', .rptr [I .i64 b], .lst 1 ((inK l k).map itN) .ro, I .i64 (k + 1 : Nat), .lst 1 ((inK l k).map itN) .ro, I .i64 ((inK l k).length : Nat), I .i64 (j : Nat)]) (fun _ => []) (fun j => (inK l k).length - j) 0 ⟨Nat.zero_le _, fun i h => absurd h (Nat.not_lt_zero _)⟩ (Sub.refl _ _) ?_
        rintro j ⟨j1, j2⟩
        by_cases hj : j < (inK l k).length
        · have hix := hmI j hj
          have hjR : j < RS.length := by omega
          have hrl := hRl _ (getD_memT hjR)
          have hmx := mayT_lev (hm _ (getD_memT hix))
          obtain ⟨lv, hlv⟩ : ∃ lv : Nat, (l.getD ((inK l k).getD j default) default).lev = (lv : Nat) := ⟨_, (Int.toNat_of_nonneg hmx.1).symm⟩
          have hlv4 : lv < 4 := by omega
          have hno := allOk_no (b := b) (l := l) (RS := RS) hj
          unfold okB at hno j2
          generalize hx : l.getD ((inK l k).getD j default) default = x at *
          generalize hrow : RS.getD j default = row at *
          have hlt : x.lev.toNat = lv := by rw [hlv, Int.toNat_natCast]
          rw [hlt] at hno
          by_cases hf : fit row = true
          · have iD : ∀ {a : AV} {m : SM} [h : IsL a En.av 4 row m], PC Go.Proofs.Tryz.prog 27 [trA b, .val (.int .i64 ((lv : Nat) : Int)), a] True (.tuple [tbF (newT b lv row), .val (.int .i64 0)]) := desc17 (b := b) (lev := lv) rfl hf hlv4
            by_cases he : newT b lv row = x
            · repeat' (first|with_reducible (first|apply Stp.go|refine imp fun _=>?_|(refine need ?_ ?_;first|trivial|omega|exact ⟨by assumption,by omega⟩|(simp only [zL,zM];omega))|refine choT (by assumption) ?_|refine choF (by assumption) ?_|refine choF' (by assumption) ?_|(refine altT ?_ ?_;first|omega|(simp only [zL,zM];omega))|refine altF ?_|refine all fun _=>?_|refine both ?_ ?_|(refine choT ?_ ?_;omega)|(refine choF ?_ ?_;omega)|refine cho (fun _=>?_) fun _=>?_)|(with_reducible refine fact ?_ ?_;first|trivial|exact ⟨rfl,rfl⟩|kernel_rfl))
              rw [hx, hlv, hrow]
              repeat' (first|with_reducible (first|apply Stp.go|refine imp fun _=>?_|(refine need ?_ ?_;first|trivial|omega|exact ⟨by assumption,by omega⟩|(simp only [zL,zM];omega))|refine choT (by assumption) ?_|refine choF (by assumption) ?_|refine choF' (by assumption) ?_|(refine altT ?_ ?_;first|omega|(simp only [zL,zM];omega))|refine altF ?_|refine all fun _=>?_|refine both ?_ ?_|(refine choT ?_ ?_;omega)|(refine choF ?_ ?_;omega)|refine cho (fun _=>?_) fun _=>?_)|(with_reducible refine fact ?_ ?_;first|trivial|exact ⟨rfl,rfl⟩|kernel_rfl))
              · refine again (j + 1) (by omega) ⟨by omega, fun i hi => ?_⟩ (Sub.app_nil _)
                by_cases e : i = j
                · subst e
                  unfold okB
                  rw [hx, hrow, hlt, hf, decide_eq_true he]
                  rfl
                · exact j2 i (by omega)
              · exfalso
                rename_i h
                exact h (he.trans hx.symm)
            · rw [if_neg fun h => hno (by rw [hf, decide_eq_false he]; exact Bool.false_ne_true) h.2]
              repeat' (first|with_reducible (first|apply Stp.go|refine imp fun _=>?_|(refine need ?_ ?_;first|trivial|omega|exact ⟨by assumption,by omega⟩|(simp only [zL,zM];omega))|refine choT (by assumption) ?_|refine choF (by assumption) ?_|refine choF' (by assumption) ?_|(refine altT ?_ ?_;first|omega|(simp only [zL,zM];omega))|refine altF ?_|refine all fun _=>?_|refine both ?_ ?_|(refine choT ?_ ?_;omega)|(refine choF ?_ ?_;omega)|refine cho (fun _=>?_) fun _=>?_)|(with_reducible refine fact ?_ ?_;first|trivial|exact ⟨rfl,rfl⟩|kernel_rfl))
              rw [hx, hlv, hrow]
              repeat' (first|with_reducible (first|apply Stp.go|refine imp fun _=>?_|(refine need ?_ ?_;first|trivial|omega|exact ⟨by assumption,by omega⟩|(simp only [zL,zM];omega))|refine choT (by assumption) ?_|refine choF (by assumption) ?_|refine choF' (by assumption) ?_|(refine altT ?_ ?_;first|omega|(simp only [zL,zM];omega))|refine altF ?_|refine all fun _=>?_|refine both ?_ ?_|(refine choT ?_ ?_;omega)|(refine choF ?_ ?_;omega)|refine cho (fun _=>?_) fun _=>?_)|(with_reducible refine fact ?_ ?_;first|trivial|exact ⟨rfl,rfl⟩|kernel_rfl))
              · exfalso
                rename_i h
                exact he (Eq.trans (show newT b lv row = _ from h) hx)
              · exact ⟨_, _, _, rfl, Sub.tuple (retNil tbF (sz := 36) (by decide) (retNil enL (sz := 1) (by decide) (Sub.app_nil _))), rfl, rfl⟩
          · rw [if_neg fun h => hno (by rw [Bool.eq_false_iff.2 hf, Bool.false_and]; exact Bool.false_ne_true) h.2]
            have hde : dErr lv row = 1 := by unfold dErr dFit; rw [Bool.eq_false_iff.2 hf]; rfl
            repeat' (first|with_reducible (first|apply Stp.go|refine imp fun _=>?_|(refine need ?_ ?_;first|trivial|omega|exact ⟨by assumption,by omega⟩|(simp only [zL,zM];omega))|refine choT (by assumption) ?_|refine choF (by assumption) ?_|refine choF' (by assumption) ?_|(refine altT ?_ ?_;first|omega|(simp only [zL,zM];omega))|refine altF ?_|refine all fun _=>?_|refine both ?_ ?_|(refine choT ?_ ?_;omega)|(refine choF ?_ ?_;omega)|refine cho (fun _=>?_) fun _=>?_)|(with_reducible refine fact ?_ ?_;first|trivial|exact ⟨rfl,rfl⟩|kernel_rfl))
            rw [hx, hlv, hrow]
            repeat' (first|with_reducible (first|apply Stp.go|refine imp fun _=>?_|(refine need ?_ ?_;first|trivial|omega|exact ⟨by assumption,by omega⟩|(simp only [zL,zM];omega))|refine choT (by assumption) ?_|refine choF (by assumption) ?_|refine choF' (by assumption) ?_|(refine altT ?_ ?_;first|omega|(simp only [zL,zM];omega))|refine altF ?_|refine all fun _=>?_|refine both ?_ ?_|(refine choT ?_ ?_;omega)|(refine choF ?_ ?_;omega)|refine cho (fun _=>?_) fun _=>?_)|(with_reducible refine fact ?_ ?_;first|trivial|exact ⟨rfl,rfl⟩|kernel_rfl))
            all_goals exact ⟨_, _, _, rfl, Sub.tuple (retNil tbF (sz := 36) (by decide) (retNil enL (sz := 1) (by decide) (Sub.app_nil _))), rfl, rfl⟩
        · have ej : j = (inK l k).length := by omega
          subst ej
          rw [if_pos ⟨hn, decide_eq_true j2⟩]
          have hRO : RowsOf b l (inK l k) RS := ⟨hn.symm, fun j hj => (okB_iff (hm _ (getD_memT (hmI j hj)))).1 (j2 j hj)⟩
          have hfit : ∀ r ∈ RS, fit r = true := fun r hr => hRO.fit hr
          have hRS : ∀ r ∈ RS, r.length ≤ 1000 := fun r hr => by have := (fit_right (hfit r hr)).1; omega
          have hpf : ∀ p ∈ partsT k RS, fit p = true := fun p hp => parts_fit hfit hp
          have hpl := parts_len17 (k := k) hfit
          have hmg := merge_le (decide (k + 1 = 3)) _ RS rfl
          have htl := totL_le' hRS
          have hm6 : (mergeL (decide (k + 1 = 3)) RS).length ≤ 100000 := by have := totL_le (RS := RS) fun r hr => (fit_right (hfit r hr)).1; omega
          have iI : IsL (.lst 1 ((inK l k).map itN) .ro) it 1 ((inK l k).map Int.ofNat) .ro := ⟨by rw [← map_itN]; exact SubV.refl _⟩
          repeat' (first|with_reducible (first|apply Stp.go|refine imp fun _=>?_|(refine need ?_ ?_;first|trivial|omega|exact ⟨by assumption,by omega⟩|(simp only [zL,zM];omega))|refine choT (by assumption) ?_|refine choF (by assumption) ?_|refine choF' (by assumption) ?_|(refine altT ?_ ?_;first|omega|(simp only [zL,zM];omega))|refine altF ?_|refine all fun _=>?_|refine both ?_ ?_|(refine choT ?_ ?_;omega)|(refine choF ?_ ?_;omega)|refine cho (fun _=>?_) fun _=>?_)|(with_reducible refine fact ?_ ?_;first|trivial|exact ⟨rfl,rfl⟩|kernel_rfl))
          rw [show splitL (mergeL (decide (k + 1 = 3)) RS) = partsT k RS from rfl]
          have hnx : nextT b l k RS = placeT l ((inK l k).map Int.ofNat) ((partsT k RS).map (newT b (k + 1))) := rfl
          rw [hnx]
          generalize partsT k RS = PP at *
          refine loopI (β := Nat × Value) (fun x => x.1 ≤ PP.length)
            (fun x => [.lst 36 (l.map tbF) m, .rptr [I .i64 b], .lst 1 ((inK l k).map itN) .ro, I .i64 (k + 1 : Nat), .lst 1 (PP.map enL) .ro, .own x.2 ((PP.take x.1).map (newT b (k + 1))).length, .lst 1 (PP.map enL) .ro, I .i64 (PP.length : Nat), I .i64 (x.1 : Nat)])
            (fun x => [.row x.2 TbE 36 (((PP.take x.1).map (newT b (k + 1))).map tbF) 0]) (fun x => PP.length - x.1) (0, .slice none 0 0) (Nat.zero_le _) (Sub.nil_own TbE (sz := 36) (by decide) _ [_, _, _, _, _] [_, _, _]) ?_
          rintro ⟨j, v⟩ q1
          dsimp only at q1 ⊢
          by_cases hjp : j < PP.length
          · have htk := congrArg (List.map (newT b (k + 1))) (take_succ_d hjp)
            rw [List.map_append] at htk
            have hjf := hpf _ (getD_memT hjp)
            have hln : ((PP.take j).map (newT b (k + 1))).length ≤ 10000 := by rw [List.length_map, List.length_take]; omega
            have iD : ∀ {a : AV} {m : SM} [h : IsL a En.av 4 (PP.getD j default) m], PC Go.Proofs.Tryz.prog 27 [trA b, .val (.int .i64 ((k + 1 : Nat) : Int)), a] True (.tuple [tbF (newT b (k + 1) (PP.getD j default)), .val (.int .i64 0)]) := desc17 (b := b) (lev := k + 1) rfl hjf (by omega)
            repeat' (first|with_reducible (first|apply Stp.go|refine imp fun _=>?_|(refine need ?_ ?_;first|trivial|omega|exact ⟨by assumption,by omega⟩|(simp only [zL,zM];omega))|refine choT (by assumption) ?_|refine choF (by assumption) ?_|refine choF' (by assumption) ?_|(refine altT ?_ ?_;first|omega|(simp only [zL,zM];omega))|refine altF ?_|refine all fun _=>?_|refine both ?_ ?_|(refine choT ?_ ?_;omega)|(refine choF ?_ ?_;omega)|refine cho (fun _=>?_) fun _=>?_)|(with_reducible refine fact ?_ ?_;first|trivial|exact ⟨rfl,rfl⟩|kernel_rfl))
            rename_i bx w
            exact again (j + 1, w) (by dsimp only; omega) (by dsimp only; omega) (by dsimp only; rw [htk]; exact Sub.drop_ (.cons _ (.cons_cons _ .slnil)) _)
          · have ej : j = PP.length := by omega
            subst ej
            rw [List.take_length]
            have hln : (PP.map (newT b (k + 1))).length ≤ 10000 := by rw [List.length_map]; omega
            repeat' (first|with_reducible (first|apply Stp.go|refine imp fun _=>?_|(refine need ?_ ?_;first|trivial|omega|exact ⟨by assumption,by omega⟩|(simp only [zL,zM];omega))|refine choT (by assumption) ?_|refine choF (by assumption) ?_|refine choF' (by assumption) ?_|(refine altT ?_ ?_;first|omega|(simp only [zL,zM];omega))|refine altF ?_|refine all fun _=>?_|refine both ?_ ?_|(refine choT ?_ ?_;omega)|(refine choF ?_ ?_;omega)|refine cho (fun _=>?_) fun _=>?_)|(with_reducible refine fact ?_ ?_;first|trivial|exact ⟨rfl,rfl⟩|kernel_rfl))
            exact ⟨_, _, _, rfl, Sub.refl _ _, rfl, rfl⟩
      · rw [if_neg fun h => hn h.1]
        repeat' (first|with_reducible (first|apply Stp.go|refine imp fun _=>?_|(refine need ?_ ?_;first|trivial|omega|exact ⟨by assumption,by omega⟩|(simp only [zL,zM];omega))|refine choT (by assumption) ?_|refine choF (by assumption) ?_|refine choF' (by assumption) ?_|(refine altT ?_ ?_;first|omega|(simp only [zL,zM];omega))|refine altF ?_|refine all fun _=>?_|refine both ?_ ?_|(refine choT ?_ ?_;omega)|(refine choF ?_ ?_;omega)|refine cho (fun _=>?_) fun _=>?_)|(with_reducible refine fact ?_ ?_;first|trivial|exact ⟨rfl,rfl⟩|kernel_rfl))
        all_goals exact ⟨_, _, _, rfl, Sub.tuple (retNil tbF (sz := 36) (by decide) (retNil enL (sz := 1) (by decide) (Sub.app_nil _))), rfl, rfl⟩
    · rw [if_neg hk] at hp ⊢
      have iP : PC Go.Proofs.Tryz.prog 31 [.lst 36 (l.map tbF) m] True _ := ⟨fun _ => PC.of hp⟩
      have hff : ¬ (false : Bool) = true := by decide
      repeat' (first|with_reducible (first|apply Stp.go|refine imp fun _=>?_|(refine need ?_ ?_;first|trivial|omega|exact ⟨by assumption,by omega⟩|(simp only [zL,zM];omega))|refine choT (by assumption) ?_|refine choF (by assumption) ?_|refine choF' (by assumption) ?_|(refine altT ?_ ?_;first|omega|(simp only [zL,zM];omega))|refine altF ?_|refine all fun _=>?_|refine both ?_ ?_|(refine choT ?_ ?_;omega)|(refine choF ?_ ?_;omega)|refine cho (fun _=>?_) fun _=>?_)|(with_reducible refine fact ?_ ?_;first|trivial|exact ⟨rfl,rfl⟩|kernel_rfl))
      all_goals exact ⟨_, _, _, rfl, Sub.tuple (retNil tbF (sz := 36) (by decide) (retNil enL (sz := 1) (by decide) (Sub.app_nil _))), rfl, rfl⟩
  · rw [if_neg hr]
    repeat' (first|with_reducible (first|apply Stp.go|refine imp fun _=>?_|(refine need ?_ ?_;first|trivial|omega|exact ⟨by assumption,by omega⟩|(simp only [zL,zM];omega))|refine choT (by assumption) ?_|refine choF (by assumption) ?_|refine choF' (by assumption) ?_|(refine altT ?_ ?_;first|omega|(simp only [zL,zM];omega))|refine altF ?_|refine all fun _=>?_|refine both ?_ ?_|(refine choT ?_ ?_;omega)|(refine choF ?_ ?_;omega)|refine cho (fun _=>?_) fun _=>?_)|(with_reducible refine fact ?_ ?_;first|trivial|exact ⟨rfl,rfl⟩|kernel_rfl))
    all_goals exact ⟨_, _, _, rfl, Sub.tuple (retNil tbF (sz := 36) (by decide) (retNil enL (sz := 1) (by decide) (Sub.app_nil _))), rfl, rfl⟩
end Go.Ab

/- The reference's fold. -/
set_option linter.unusedVariables false
set_option linter.unusedSimpArgs false
namespace Go.Ab
theorem foldE_take_succ {l : List En} {i : Nat} (h : i < l.length) : foldE (l.take (i + 1)) = putE (l.getD i default) (foldE (l.take i)) := by rw [take_succ_d h, foldE_snoc]
end Go.Ab

/- The code's fold. -/
set_option linter.unusedVariables false
set_option linter.unusedSimpArgs false
namespace Go.Ab
def entry_Fold.mark : Mark := ⟨fun t => false, fun t => false, fun t => false, fun t => Nat.beq t 17, fun t => Nat.beq t 40⟩
def entry_Fold.ann : Ann := ⟨fun n => bif Nat.beq n 3 then [3, 12, 13, 14] else bif Nat.beq n 11 then [8, 43] else [], fun n => none, fun n => none⟩
/-- 'marlstone/entry.Fold' -/
def entry_Fold.sh (a0 : AV) (σ : Store) (Q : AEnd → Store → Prop) : Prop :=
  aHook (eMakeMap σ) fun t11 σ =>
  Do (aBuiltin Go.Proofs.Tryz.prog .len #[33] [a0]) fun t13 =>
  aLoop (fun go vs σ_1 =>
    At vs 0 fun s3 => At vs 1 fun s12 => At vs 2 fun s13 => At vs 3 fun s14 => Do (aBin Go.Proofs.Tryz.prog .lss 3 s14 s13) fun t15 =>
    aCond t15
      (Do (aIndexAddr .slice 4 s12 s14) fun t16 =>
    Do (loadF true 4 t16) fun t17 =>
    aNewVar 50 [.val (.string ⟨#[]⟩), .val (.string ⟨#[]⟩), .val (.bool false), .val (.int .i64 0)] σ_1 fun t5 σ_2 =>
    storeA 4 t5 t17 σ_2 fun u σ_3 =>
    Do (aFieldAddr 0 1 t5) fun t20 =>
    Do (loadA false 1 t20 σ_3) fun t21 =>
    Do (lookA Go.Proofs.Tryz.prog 82 true s3 t21 σ_3) fun t22 =>
    Do (aExt t22 0) fun t23 =>
    Do (aExt t22 1) fun t24 =>
    aNewVar 50 [.val (.string ⟨#[]⟩), .val (.string ⟨#[]⟩), .val (.bool false), .val (.int .i64 0)] σ_3 fun t6 σ_4 =>
    storeA 4 t6 t23 σ_4 fun u_1 σ_5 =>
    Do (aUn Go.Proofs.Tryz.prog .not t24) fun t26 =>
    Do (aGuard t26 false (aFieldAddr 3 1 t5)) fun t28 =>
    Do (aGuard t26 false (loadA false 1 t28 σ_5)) fun t29 =>
    Do (aGuard t26 false (aFieldAddr 3 1 t6)) fun t30 =>
    Do (aGuard t26 false (loadA false 1 t30 σ_5)) fun t31 =>
    Do (aGuard t26 false (aBin Go.Proofs.Tryz.prog .geq 3 t29 t31)) fun t32 =>
    Do (aPick t26 (.val (.bool true)) t32) fun t33 =>
    aCond t33
      (Do (aFieldAddr 0 1 t5) fun t35 =>
      Do (loadA false 1 t35 σ_5) fun t36 =>
      Do (loadA true 4 t5 σ_5) fun t37 =>
      aHook (eMapUpd Go.Proofs.Tryz.prog 82 s3 t36 t37 σ_5) fun u_2 σ_6 =>
      Do (aBin Go.Proofs.Tryz.prog .add 3 s14 (.val (.int .i64 1))) fun t38 =>
    go [s3, s12, s13, t38] σ_6)
      (Do (aBin Go.Proofs.Tryz.prog .add 3 s14 (.val (.int .i64 1))) fun t38_1 =>
    go [s3, s12, s13, t38_1] σ_5))
      (Do (lenMA Go.Proofs.Tryz.prog 82 s3 σ_1) fun t40 =>
  aMake 50 [(.string ⟨#[]⟩), (.string ⟨#[]⟩), (.bool false), (.int .i64 0)] 4 48 (.val (.int .i64 0)) t40 σ_1 (subK fun t41 σ_7 =>
  aHook (eRange Go.Proofs.Tryz.prog 82 s3 σ_7) fun t43 σ_8 =>
  aLoop (fun go_1 vs_1 σ_9 =>
    At vs_1 0 fun s8 => At vs_1 1 fun s43 => aHook (eNext s43 σ_9) fun t44 σ_10 =>
    Do (aExt t44 0) fun t45 =>
    aCond t45
      (Do (entryA s43 σ_10) fun t46 =>
    Do (aExt t46 1) fun t47 =>
    aNewVar 50 [.val (.string ⟨#[]⟩), .val (.string ⟨#[]⟩), .val (.bool false), .val (.int .i64 0)] σ_10 fun t10 σ_11 =>
    storeA 4 t10 t47 σ_11 fun u_3 σ_12 =>
    Do (loadA true 4 t10 σ_12) fun t49 =>
    Do (aSlLit (mkE [.val (.string ⟨#[]⟩), .val (.string ⟨#[]⟩), .val (.bool false), .val (.int .i64 0)]) 4 1 [(0, t49)]) fun t50 =>
    aAppend 50 4 48 s8 t50 σ_12 (subK fun t51 σ_13 =>
    go_1 [t51, s43] σ_13))
      (aCall Go.Proofs.Tryz.prog 51 [s8, (.val (.func (.func 80) #[] #[]))] σ_10 (fun t53 σ_14 =>
  Q (.ret s8) σ_14) (fun e σ_15 => Q (.pan e) σ_15)))
    [t41, t43] σ_8)))
    [t11, a0, t13, (.val (.int .i64 0))] σ
theorem entry_Fold.eq (a0 : AV) (σ : Store) (Q : AEnd → Store → Prop) : vc (semOf Go.Proofs.Tryz.prog entry_Fold.mark) Go.Proofs.Tryz.f45.ntmps entry_Fold.ann (bodyOf Go.Proofs.Tryz.f45) (endK [.tmp 2] Q) (argFr [a0]) σ = entry_Fold.sh a0 σ Q := by kernel_rfl
theorem entry_Fold.go {a0 : AV} {σ : Store} {Q : AEnd → Store → Prop} (h : entry_Fold.sh a0 σ Q) : ACalls Go.Proofs.Tryz.prog 45 [a0] σ Q :=
  acalls_of_eq [.tmp 2] Go.Proofs.Tryz.func45 (by kernel_rfl) (by kernel_rfl) (by kernel_rfl) (by kernel_rfl) (entry_Fold.eq a0 σ Q) h
theorem Fold_ok (l : List En) (m : SM) (hl : l.length ≤ 1000000000) : ACalls Go.Proofs.Tryz.prog 45 [.lst 4 (l.map En.av) m] [] fun x σ' => ∃ v, x = .ret (.own v (foldE l).length) ∧ σ' = [.row v 50 4 ((foldE l).map En.av) 0] := by
  refine ACalls.fin (entry_Fold.go ?_)
  unfold entry_Fold.sh
  repeat' (first|with_reducible (first|apply Stp.go|refine imp fun _=>?_|(refine need ?_ ?_;first|trivial|omega|exact ⟨by assumption,by omega⟩|(simp only [zL,zM];omega))|refine choT (by assumption) ?_|refine choF (by assumption) ?_|refine choF' (by assumption) ?_|(refine altT ?_ ?_;first|omega|(simp only [zL,zM];omega))|refine altF ?_|refine all fun _=>?_|refine both ?_ ?_|(refine hyp ?_ ?_;first|assumption|exact leftT_mem (by assumption))|(refine choT ?_ ?_;omega)|(refine choF ?_ ?_;omega)|refine cho (fun _=>?_) fun _=>?_)|(with_reducible refine fact ?_ ?_;first|trivial|exact ⟨rfl,rfl⟩|kernel_rfl))
  rename_i mb
  refine loopI (β := Nat × List (Nat × List UInt8 × En) × Nat) (fun x => x.1 ≤ l.length ∧ Tbl x.2.1 x.2.2 (foldE (l.take x.1)) ∧ x.2.1.length ≤ x.1) (fun x => [.val (.map (some mb)), .lst 4 (l.map En.av) m, I .i64 (l.length : Nat), I .i64 (x.1 : Nat)])
    (fun x => [.map mb (mkM keyS En.av x.2.1) x.2.2]) (fun x => l.length - x.1) (0, [], 0) ⟨Nat.zero_le _, Tbl.nil, Nat.le_refl _⟩ (Sub.refl _ _) ?_
  rintro ⟨i, L, c⟩ ⟨hi, ht, hL⟩
  dsimp only at hi ht hL ⊢
  have hF := foldE_rises (l.take i)
  by_cases hlt : i < l.length
  · have hs := foldE_take_succ hlt
    have hset := ht.set hF (e := l.getD i default)
    have hkeep := fun x => ht.keep hF (e := l.getD i default) (x := x)
    have hsl := setT_length (l.getD i default).key (l.getD i default) c L
    rw [← hs] at hset hkeep
    repeat' (first|with_reducible (first|apply Stp.go|refine imp fun _=>?_|(refine need ?_ ?_;first|trivial|omega|exact ⟨by assumption,by omega⟩|(simp only [zL,zM];omega))|refine choT (by assumption) ?_|refine choF (by assumption) ?_|refine choF' (by assumption) ?_|(refine altT ?_ ?_;first|omega|(simp only [zL,zM];omega))|refine altF ?_|refine all fun _=>?_|refine both ?_ ?_|(refine hyp ?_ ?_;first|assumption|exact leftT_mem (by assumption))|(refine choT ?_ ?_;omega)|(refine choF ?_ ?_;omega)|refine cho (fun _=>?_) fun _=>?_)|(with_reducible refine fact ?_ ?_;first|trivial|exact ⟨rfl,rfl⟩|kernel_rfl))
    · rename_i h1 h2
      refine again (i + 1, setT (l.getD i default).key (l.getD i default) c L, bif hasT (l.getD i default).key L then c else c + 1) (by dsimp only; omega) ⟨by dsimp only; omega, hset fun x hx => by rw [hx] at h2; exact h2, by dsimp only; omega⟩ ?_
      exact subS _
    · rename_i h1 h2
      obtain ⟨x, hx⟩ := Option.isSome_iff_exists.1 h1
      rw [hx] at h2
      refine again (i + 1, L, c) (by dsimp only; omega) ⟨by dsimp only; omega, hkeep x hx h2, by dsimp only; omega⟩ ?_
      exact subS _
    · rename_i h1
      refine again (i + 1, setT (l.getD i default).key (l.getD i default) c L, bif hasT (l.getD i default).key L then c else c + 1) (by dsimp only; omega) ⟨by dsimp only; omega, hset fun x hx => by rw [hx] at h1; exact absurd rfl h1, by dsimp only; omega⟩ ?_
      exact subS _
  · have e : l.take i = l := List.take_of_length_le (by omega)
    rw [e] at ht hF
    repeat' (first|with_reducible (first|apply Stp.go|refine imp fun _=>?_|(refine need ?_ ?_;first|trivial|omega|exact ⟨by assumption,by omega⟩|(simp only [zL,zM];omega))|refine choT (by assumption) ?_|refine choF (by assumption) ?_|refine choF' (by assumption) ?_|(refine altT ?_ ?_;first|omega|(simp only [zL,zM];omega))|refine altF ?_|refine all fun _=>?_|refine both ?_ ?_|(refine hyp ?_ ?_;first|assumption|exact leftT_mem (by assumption))|(refine choT ?_ ?_;omega)|(refine choF ?_ ?_;omega)|refine cho (fun _=>?_) fun _=>?_)|(with_reducible refine fact ?_ ?_;first|trivial|exact ⟨rfl,rfl⟩|kernel_rfl))
    rename_i v0 it
    refine loopI (β := Value × List En × List Nat) (fun x => (x.2.1 ++ (leftT L x.2.2).map (·.2.2)).Perm (L.map (·.2.2))) (fun x => [.own x.1 x.2.1.length, ptrAt it 0])
      (fun x => [.iter it mb c x.2.2 c, .row x.1 50 4 (x.2.1.map En.av) 0, .map mb (mkM keyS En.av L) c]) (fun x => (leftT L x.2.2).length) (v0, [], []) ?_ (Sub.refl _ _) ?_
    · dsimp only
      rw [left_nil]
      exact List.Perm.refl _
    · rintro ⟨v, o, seen⟩ hp
      dsimp only at hp ⊢
      have hol : o.length ≤ L.length := by
        have := hp.length_eq
        simp only [List.length_append, List.length_map] at this
        omega
      repeat' (first|with_reducible (first|apply Stp.go|refine imp fun _=>?_|(refine need ?_ ?_;first|trivial|omega|exact ⟨by assumption,by omega⟩|(simp only [zL,zM];omega))|refine choT (by assumption) ?_|refine choF (by assumption) ?_|refine choF' (by assumption) ?_|(refine altT ?_ ?_;first|omega|(simp only [zL,zM];omega))|refine altF ?_|refine all fun _=>?_|refine both ?_ ?_|(refine hyp ?_ ?_;first|assumption|exact leftT_mem (by assumption))|(refine choT ?_ ?_;omega)|(refine choF ?_ ?_;omega)|refine cho (fun _=>?_) fun _=>?_)|(with_reducible refine fact ?_ ?_;first|trivial|exact ⟨rfl,rfl⟩|kernel_rfl))
      · rename_i h0 o' hq
        rw [h0, List.map_nil, List.append_nil] at hp
        have e1 : o' = foldE l := ht.sorted hF (hq.1.trans hp) hq.2
        have e2 : o.length = (foldE l).length := by rw [← e1]; exact hq.1.length_eq.symm
        subst e1
        exact ⟨_, _, _, rfl, subS _, v, by rw [e2], rfl⟩
      · rename_i x hx t w
        have hlt := left_take ht.nb hx
        refine again (w, o ++ [x.2.2], seen ++ [x.1]) ?_ ?_ ?_
        · have := hlt.length_eq
          simp only [List.length_cons] at this
          dsimp only
          omega
        · dsimp only
          rw [List.append_assoc]
          exact ((((hlt.map (·.2.2)).symm).append_left o)).trans hp
        · exact subS _
theorem Fold_pure (l : List En) (m : SM) (hl : l.length ≤ 1000000000) : aPure Go.Proofs.Tryz.prog 45 [.lst 4 (l.map En.av) m] (.lst 4 ((foldE l).map En.av) .ro) :=
  ACalls.fin ((Fold_ok l m hl).mono fun x τ ⟨v, e1, e2⟩ => ⟨_, _, _, e1, by rw [e2]; exact retOwn (Sub.refl _ _), rfl, rfl⟩)
instance {a : AV} {l : List En} {m : SM} [h : IsL a En.av 4 l m] : PC Go.Proofs.Tryz.prog 45 [a] (l.length ≤ 1000000000) (.lst 4 ((foldE l).map En.av) .ro) := ⟨fun hl => ⟨[.lst 4 (l.map En.av) m], ⟨h.sub, trivial⟩, Fold_pure l m hl⟩⟩
end Go.Ab

/- Entries that are right, folded; the rows of a list behind a merge. -/
set_option linter.unusedVariables false
set_option linter.unusedSimpArgs false
namespace Go.Ab
/-- Entries that are right, folded, at most so many. -/
def fit17 (k : Nat) (l : List En) : List En := ((foldE ((l.take 30).map (cutE 130 200))).filter right).take k
theorem fit17_fit {k : Nat} {l : List En} (hk : k ≤ 64) (h : 0 < (fit17 k l).length) : fit (fit17 k l) = true := by
  refine fit_of h (by unfold fit17; rw [List.length_take]; omega) (((foldE_rises _).sublist List.filter_sublist).sublist (List.take_sublist _ _)) fun e he => ?_
  have := List.mem_of_mem_take he
  exact (List.mem_filter.1 this).2
theorem fit17_len (k : Nat) (l : List En) : (fit17 k l).length ≤ k := by unfold fit17; rw [List.length_take]; omega
def law17_fit.mark : Mark := ⟨fun t => Nat.beq t 9 || Nat.beq t 10 || Nat.beq t 27, fun t => false, fun t => false, fun t => Nat.beq t 26 || Nat.beq t 32, fun t => false⟩
def law17_fit.ann : Ann := ⟨fun n => bif Nat.beq n 4 then [1, 5, 6, 7] else [], fun n => none, fun n => none⟩
/-- 'marlstone/marlstonelaw17.fit' -/
def law17_fit.sh (a0 a1 : AV) (σ : Store) (Q : AEnd → Store → Prop) : Prop :=
  Do (aPureC Go.Proofs.Tryz.prog 12 [a0, (.val (.int .i64 30))]) fun t9 =>
  Do (aPureC Go.Proofs.Tryz.prog 45 [t9]) fun t10 =>
  aLoop (fun go vs σ =>
    At vs 0 fun s1 => At vs 1 fun s5 => At vs 2 fun s6 => At vs 3 fun s7 => Do (aBuiltin Go.Proofs.Tryz.prog .len #[33] [s6]) fun t13 =>
    Do (aBin Go.Proofs.Tryz.prog .lss 3 s7 t13) fun t14 =>
    Do (aGuard t14 true (aIs s5)) fun t16 =>
    Do (aGuard t14 true (aBuiltin Go.Proofs.Tryz.prog .len #[33] [t16])) fun t17 =>
    Do (aGuard t14 true (aIs s1)) fun t18 =>
    Do (aGuard t14 true (aBin Go.Proofs.Tryz.prog .lss 3 t17 t18)) fun t19 =>
    Do (aPick t14 t19 (.val (.bool false))) fun t20 =>
    aCond t20
      (Do (aIndexAddr .slice 4 s6 s7) fun t25 =>
    Do (loadF true 4 t25) fun t26 =>
    Do (aPureC Go.Proofs.Tryz.prog 46 [t26]) fun t27 =>
    aCond t27
      (Do (aIndexAddr .slice 4 s6 s7) fun t31 =>
      Do (loadF true 4 t31) fun t32 =>
      Do (aSlLit (mkE [.val (.string ⟨#[]⟩), .val (.string ⟨#[]⟩), .val (.bool false), .val (.int .i64 0)]) 4 1 [(0, t32)]) fun t33 =>
      aAppend 50 4 48 s5 t33 σ (subK fun t34 σ_1 =>
      Do (aBin Go.Proofs.Tryz.prog .add 3 s7 (.val (.int .i64 1))) fun t22 =>
    go [s1, t34, s6, t22] σ_1))
      (Do (aBin Go.Proofs.Tryz.prog .add 3 s7 (.val (.int .i64 1))) fun t22_1 =>
    go [s1, s5, s6, t22_1] σ))
      (Q (.ret s5) σ))
    [a1, (.val (.slice none 0 0)), t10, (.val (.int .i64 0))] σ
theorem law17_fit.eq (a0 a1 : AV) (σ : Store) (Q : AEnd → Store → Prop) : vc (semOf Go.Proofs.Tryz.prog law17_fit.mark) Go.Proofs.Tryz.f19.ntmps law17_fit.ann (bodyOf Go.Proofs.Tryz.f19) (endK [.tmp 4] Q) (argFr [a0, a1]) σ = law17_fit.sh a0 a1 σ Q := by kernel_rfl
theorem law17_fit.go {a0 a1 : AV} {σ : Store} {Q : AEnd → Store → Prop} (h : law17_fit.sh a0 a1 σ Q) : ACalls Go.Proofs.Tryz.prog 19 [a0, a1] σ Q :=
  acalls_of_eq [.tmp 4] Go.Proofs.Tryz.func19 (by kernel_rfl) (by kernel_rfl) (by kernel_rfl) (by kernel_rfl) (law17_fit.eq a0 a1 σ Q) h
theorem fit17_ok (l : List En) (m : SM) (k : Nat) (hl : l.length ≤ 9223372036854775807) (hk : k ≤ 1000) : aPure Go.Proofs.Tryz.prog 19 [.lst 4 (l.map En.av) m, I .i64 (k : Nat)] (.lst 4 ((fit17 k l).map En.av) .ro) := by
  refine ACalls.fin (law17_fit.go ?_)
  unfold law17_fit.sh
  obtain ⟨L, hL⟩ : ∃ L, L = (l.take 30).map (cutE 130 200) := ⟨_, rfl⟩
  have h70 : L.length ≤ 30 := by rw [hL]; simp; omega
  have hf := foldE_length L
  repeat' (first|with_reducible (first|apply Stp.go|refine imp fun _=>?_|(refine need ?_ ?_;first|trivial|omega|exact ⟨by assumption,by omega⟩|(simp only [zL,zM];omega))|refine choT (by assumption) ?_|refine choF (by assumption) ?_|refine choF' (by assumption) ?_|(refine altT ?_ ?_;first|omega|(simp only [zL,zM];omega))|refine altF ?_|refine all fun _=>?_|refine both ?_ ?_|(refine choT ?_ ?_;omega)|(refine choF ?_ ?_;omega)|refine cho (fun _=>?_) fun _=>?_)|(with_reducible refine fact ?_ ?_;first|trivial|exact ⟨rfl,rfl⟩|kernel_rfl))
  unfold fit17
  rw [← hL] at *
  generalize foldE L = F at *
  refine loopI (β := Nat × Value) (fun x => x.1 ≤ F.length ∧ ((F.take x.1).filter right).length ≤ k) (fun x => [I .i64 (k : Nat), .own x.2 ((F.take x.1).filter right).length, .lst 4 (F.map En.av) .ro, I .i64 (x.1 : Nat)]) (fun x => [.row x.2 50 4 (((F.take x.1).filter right).map En.av) 0]) (fun x => F.length - x.1) (0, .slice none 0 0) ⟨Nat.zero_le _, by simp⟩ (Sub.nil_own 50 (by decide) _ [_] [_, _]) ?_
  rintro ⟨i, v⟩ ⟨hi, h64⟩
  dsimp only at hi h64 ⊢
  have hfin : (i = F.length ∨ ((F.take i).filter right).length = k) → (F.filter right).take k = (F.take i).filter right := by
    intro h
    have hs : F.filter right = (F.take i).filter right ++ (F.drop i).filter right := by rw [← List.filter_append, List.take_append_drop]
    rw [hs]
    rcases h with h | h
    · rw [h, List.drop_length, List.filter_nil, List.append_nil, List.take_of_length_le (by rw [← h]; exact h64)]
    · rw [List.take_append_of_le_length (by omega), List.take_of_length_le (by omega)]
  by_cases hlt : i < F.length
  · have hs : (F.take (i + 1)).filter right = (F.take i).filter right ++ (if right (F.getD i default) = true then [F.getD i default] else []) := by
      rw [take_succ_d hlt, List.filter_append]
      generalize F.getD i default = y
      by_cases hy : right y = true <;> simp [hy]
    by_cases hc : ((F.take i).filter right).length < k
    · repeat' (first|with_reducible (first|apply Stp.go|refine imp fun _=>?_|(refine need ?_ ?_;first|trivial|omega|exact ⟨by assumption,by omega⟩|(simp only [zL,zM];omega))|refine choT (by assumption) ?_|refine choF (by assumption) ?_|refine choF' (by assumption) ?_|(refine altT ?_ ?_;first|omega|(simp only [zL,zM];omega))|refine altF ?_|refine all fun _=>?_|refine both ?_ ?_|(refine choT ?_ ?_;omega)|(refine choF ?_ ?_;omega)|refine cho (fun _=>?_) fun _=>?_)|(with_reducible refine fact ?_ ?_;first|trivial|exact ⟨rfl,rfl⟩|kernel_rfl))
      · rename_i hr w
        rw [if_pos hr] at hs
        refine again (i + 1, w) (by dsimp only; omega) ⟨by dsimp only; omega, ?_⟩ ?_
        · dsimp only
          rw [hs, List.length_append]
          simp only [List.length_cons, List.length_nil]
          omega
        · dsimp only
          rw [hs]
          exact Sub.refl _ _
      · rename_i hr
        rw [if_neg hr, List.append_nil] at hs
        refine again (i + 1, v) (by dsimp only; omega) ⟨by dsimp only; omega, ?_⟩ ?_
        · dsimp only
          rw [hs]
          exact h64
        · dsimp only
          rw [hs]
          exact Sub.refl _ _
    · rw [hfin (.inr (by omega))]
      repeat' (first|with_reducible (first|apply Stp.go|refine imp fun _=>?_|(refine need ?_ ?_;first|trivial|omega|exact ⟨by assumption,by omega⟩|(simp only [zL,zM];omega))|refine choT (by assumption) ?_|refine choF (by assumption) ?_|refine choF' (by assumption) ?_|(refine altT ?_ ?_;first|omega|(simp only [zL,zM];omega))|refine altF ?_|refine all fun _=>?_|refine both ?_ ?_|(refine choT ?_ ?_;omega)|(refine choF ?_ ?_;omega)|refine cho (fun _=>?_) fun _=>?_)|(with_reducible refine fact ?_ ?_;first|trivial|exact ⟨rfl,rfl⟩|kernel_rfl))
      exact ⟨_, _, _, rfl, retOwn (Sub.refl _ _), rfl, rfl⟩
  · rw [hfin (.inl (by omega))]
    repeat' (first|with_reducible (first|apply Stp.go|refine imp fun _=>?_|(refine need ?_ ?_;first|trivial|omega|exact ⟨by assumption,by omega⟩|(simp only [zL,zM];omega))|refine choT (by assumption) ?_|refine choF (by assumption) ?_|refine choF' (by assumption) ?_|(refine altT ?_ ?_;first|omega|(simp only [zL,zM];omega))|refine altF ?_|refine all fun _=>?_|refine both ?_ ?_|(refine choT ?_ ?_;omega)|(refine choF ?_ ?_;omega)|refine cho (fun _=>?_) fun _=>?_)|(with_reducible refine fact ?_ ?_;first|trivial|exact ⟨rfl,rfl⟩|kernel_rfl))
    exact ⟨_, _, _, rfl, retOwn (Sub.refl _ _), rfl, rfl⟩
instance {a : AV} {l : List En} {m : SM} {k : Nat} {x : Int} [h : IsL a En.av 4 l m] [hk : NatOf x k] : PC Go.Proofs.Tryz.prog 19 [a, .val (.int .i64 x)] (l.length ≤ 9223372036854775807 ∧ k ≤ 1000) (.lst 4 ((fit17 k l).map En.av) .ro) := ⟨fun hl => by rw [hk.eq]; exact ⟨[.lst 4 (l.map En.av) m, I .i64 (k : Nat)], ⟨h.sub, SubVs.refl _⟩, fit17_ok l m k hl.1 hl.2⟩⟩
def law17_placed.mark : Mark := ⟨fun t => false, fun t => false, fun t => false, fun t => Nat.beq t 39 || Nat.beq t 104, fun t => false⟩
def law17_placed.ann : Ann := ⟨fun n => bif Nat.beq n 4 then [0, 1, 2, 3, 4, 5, 13, 14, 15] else bif Nat.beq n 8 then [0, 1, 2, 3, 4, 5, 13, 14, 15, 16, 17] else bif Nat.beq n 18 then [3, 4, 5, 13, 14, 18, 19, 20, 21] else [], fun n => none, fun n => none⟩
/-- 'marlstone/marlstonelaw17.placed' -/
def law17_placed.sh (a0 a1 a2 a3 a4 a5 : AV) (σ : Store) (Q : AEnd → Store → Prop) : Prop :=
  aLoop (fun go vs σ =>
    At vs 0 fun s0 => At vs 1 fun s1 => At vs 2 fun s2 => At vs 3 fun s3 => At vs 4 fun s4 => At vs 5 fun s5 => At vs 6 fun s13 => At vs 7 fun s14 => At vs 8 fun s15 => Do (aBuiltin Go.Proofs.Tryz.prog .len #[24] [s0]) fun t24 =>
    Do (aBin Go.Proofs.Tryz.prog .lss 3 s15 t24) fun t25 =>
    aCond t25
      (aLoop (fun go_1 vs_1 σ_1 =>
      At vs_1 0 fun s0_1 => At vs_1 1 fun s1_1 => At vs_1 2 fun s2_1 => At vs_1 3 fun s3_1 => At vs_1 4 fun s4_1 => At vs_1 5 fun s5_1 => At vs_1 6 fun s13_1 => At vs_1 7 fun s14_1 => At vs_1 8 fun s15_1 => At vs_1 9 fun s16 => At vs_1 10 fun s17 => Do (aBuiltin Go.Proofs.Tryz.prog .len #[23] [s2_1]) fun t30 =>
      Do (aBin Go.Proofs.Tryz.prog .lss 3 s17 t30) fun t31 =>
      aCond t31
        (Do (aGuard s16 false (aIs s2_1)) fun t36 =>
      Do (aGuard s16 false (aIs s17)) fun t37 =>
      Do (aGuard s16 false (aIndexAddr .slice 1 t36 t37)) fun t38 =>
      Do (aGuard s16 false (loadF false 1 t38)) fun t39 =>
      Do (aGuard s16 false (aIs s15_1)) fun t40 =>
      Do (aGuard s16 false (aBin Go.Proofs.Tryz.prog .eql 3 t39 t40)) fun t41 =>
      Do (aPick s16 (.val (.bool true)) t41) fun t42 =>
      Do (aBin Go.Proofs.Tryz.prog .add 3 s17 (.val (.int .i64 1))) fun t33 =>
      go_1 [s0_1, s1_1, s2_1, s3_1, s4_1, s5_1, s13_1, s14_1, s15_1, t42, t33] σ_1)
        (Do (aUn Go.Proofs.Tryz.prog .not s16) fun t44 =>
    Do (aGuard t44 true (aIs s15_1)) fun t46 =>
    Do (aGuard t44 true (aIs s1_1)) fun t47 =>
    Do (aGuard t44 true (aBuiltin Go.Proofs.Tryz.prog .len #[22] [t47])) fun t48 =>
    Do (aGuard t44 true (aBin Go.Proofs.Tryz.prog .lss 3 t46 t48)) fun t49 =>
    Do (aPick t44 t49 (.val (.bool false))) fun t50 =>
    aCond t50
      (Do (aIndexAddr .slice 1 s1_1 s15_1) fun t54 =>
      Do (loadA false 1 t54 σ_1) fun t55 =>
      Do (aSlLit (mkE [.val (.slice none 0 0)]) 1 1 [(0, t55)]) fun t56 =>
      aAppend 33 1 24 s13_1 t56 σ_1 (subK fun t57 σ_2 =>
      Do (aIndexAddr .slice 36 s0_1 s15_1) fun t61 =>
      Do (loadA true 36 t61 σ_2) fun t62 =>
      Do (aSlLit (mkE [.val (.int .i64 0), .val (.int .i64 0), .val (.int .u8 0), .val (.int .u8 0), .val (.int .u8 0), .val (.int .u8 0), .val (.int .u8 0), .val (.int .u8 0), .val (.int .u8 0), .val (.int .u8 0), .val (.int .u8 0), .val (.int .u8 0), .val (.int .u8 0), .val (.int .u8 0), .val (.int .u8 0), .val (.int .u8 0), .val (.int .u8 0), .val (.int .u8 0), .val (.int .u8 0), .val (.int .u8 0), .val (.int .u8 0), .val (.int .u8 0), .val (.int .u8 0), .val (.int .u8 0), .val (.int .u8 0), .val (.int .u8 0), .val (.int .u8 0), .val (.int .u8 0), .val (.int .u8 0), .val (.int .u8 0), .val (.int .u8 0), .val (.int .u8 0), .val (.int .u8 0), .val (.int .u8 0), .val (.string ⟨#[]⟩), .val (.string ⟨#[]⟩)]) 36 1 [(0, t62)]) fun t63 =>
      aAppend 58 36 80 s14_1 t63 σ_2 (subK fun t64 σ_3 =>
      Do (aBin Go.Proofs.Tryz.prog .add 3 s15_1 (.val (.int .i64 1))) fun t27 =>
    go [s0_1, s1_1, s2_1, s3_1, s4_1, s5_1, t57, t64, t27] σ_3)))
      (Do (aBin Go.Proofs.Tryz.prog .add 3 s15_1 (.val (.int .i64 1))) fun t27_1 =>
    go [s0_1, s1_1, s2_1, s3_1, s4_1, s5_1, s13_1, s14_1, t27_1] σ_1)))
      [s0, s1, s2, s3, s4, s5, s13, s14, s15, (.val (.bool false)), (.val (.int .i64 0))] σ)
      (aLoop (fun go_2 vs_2 σ_4 =>
    At vs_2 0 fun s3_2 => At vs_2 1 fun s4_2 => At vs_2 2 fun s5_2 => At vs_2 3 fun s13_2 => At vs_2 4 fun s14_2 => At vs_2 5 fun s18 => At vs_2 6 fun s19 => At vs_2 7 fun s20 => At vs_2 8 fun s21 => Do (aBuiltin Go.Proofs.Tryz.prog .len #[24] [s5_2]) fun t67 =>
    Do (aBin Go.Proofs.Tryz.prog .lss 3 s21 t67) fun t68 =>
    aCond t68
      (Do (aBuiltin Go.Proofs.Tryz.prog .len #[22] [s4_2]) fun t73 =>
    Do (aBin Go.Proofs.Tryz.prog .lss 3 s20 t73) fun t74 =>
    Do (aGuard t74 true (aIs s5_2)) fun t76 =>
    Do (aGuard t74 true (aIs s21)) fun t77 =>
    Do (aGuard t74 true (aIndexAddr .slice 36 t76 t77)) fun t78 =>
    Do (aGuard t74 true (aFieldAddr 0 1 t78)) fun t79 =>
    Do (aGuard t74 true (loadA false 1 t79 σ_4)) fun t80 =>
    Do (aGuard t74 true (aIs s3_2)) fun t81 =>
    Do (aGuard t74 true (aBin Go.Proofs.Tryz.prog .eql 3 t80 t81)) fun t82 =>
    Do (aPick t74 t82 (.val (.bool false))) fun t83 =>
    Do (aGuard t83 true (aIs s4_2)) fun t85 =>
    Do (aGuard t83 true (aIs s20)) fun t86 =>
    Do (aGuard t83 true (aIndexAddr .slice 1 t85 t86)) fun t87 =>
    Do (aGuard t83 true (loadA false 1 t87 σ_4)) fun t88 =>
    Do (aGuard t83 true (aBuiltin Go.Proofs.Tryz.prog .len #[33] [t88])) fun t89 =>
    Do (aGuard t83 true (aBin Go.Proofs.Tryz.prog .gtr 3 t89 (.val (.int .i64 0)))) fun t90 =>
    Do (aPick t83 t90 (.val (.bool false))) fun t91 =>
    Do (aGuard t91 true (aIs s5_2)) fun t93 =>
    Do (aGuard t91 true (aIs s21)) fun t94 =>
    Do (aGuard t91 true (aIndexAddr .slice 36 t93 t94)) fun t95 =>
    Do (aGuard t91 true (aFieldAddr 34 1 t95)) fun t96 =>
    Do (aGuard t91 true (loadA false 1 t96 σ_4)) fun t97 =>
    Do (aGuard t91 true (aIs s4_2)) fun t98 =>
    Do (aGuard t91 true (aIs s20)) fun t99 =>
    Do (aGuard t91 true (aIndexAddr .slice 1 t98 t99)) fun t100 =>
    Do (aGuard t91 true (loadA false 1 t100 σ_4)) fun t101 =>
    Do (aGuard t91 true (aIndexAddr .slice 4 t101 (.val (.int .i64 0)))) fun t102 =>
    Do (aGuard t91 true (aFieldAddr 0 1 t102)) fun t103 =>
    Do (aGuard t91 true (loadF false 1 t103)) fun t104 =>
    Do (aGuard t91 true (aBin Go.Proofs.Tryz.prog .eql 9 t97 t104)) fun t105 =>
    Do (aPick t91 t105 (.val (.bool false))) fun t106 =>
    Do (aGuard t106 true (aIs s19)) fun t108 =>
    Do (aGuard t106 true (aIs s14_2)) fun t109 =>
    Do (aGuard t106 true (aBuiltin Go.Proofs.Tryz.prog .len #[24] [t109])) fun t110 =>
    Do (aGuard t106 true (aBin Go.Proofs.Tryz.prog .geq 3 t108 t110)) fun t111 =>
    Do (aGuard t106 true (aIs t111)) fun t112 =>
    Do (aGuard t112 false (aIs s5_2)) fun t113 =>
    Do (aGuard t112 false (aIs s21)) fun t114 =>
    Do (aGuard t112 false (aIndexAddr .slice 36 t113 t114)) fun t115 =>
    Do (aGuard t112 false (loadA true 36 t115 σ_4)) fun t116 =>
    Do (aGuard t112 false (aIs s14_2)) fun t117 =>
    Do (aGuard t112 false (aIs s19)) fun t118 =>
    Do (aGuard t112 false (aIndexAddr .slice 36 t117 t118)) fun t119 =>
    Do (aGuard t112 false (loadA true 36 t119 σ_4)) fun t120 =>
    Do (aGuard t112 false (aBin Go.Proofs.Tryz.prog .neq 58 t116 t120)) fun t121 =>
    Do (aGuard t106 true (aPick t112 (.val (.bool true)) t121)) fun t122 =>
    Do (aPick t106 t122 (.val (.bool false))) fun t123 =>
    aCond t123
      (Do (aIndexAddr .slice 1 s4_2 s20) fun t127 =>
      Do (loadA false 1 t127 σ_4) fun t128 =>
      Do (aSlLit (mkE [.val (.slice none 0 0)]) 1 1 [(0, t128)]) fun t129 =>
      aAppend 33 1 24 s18 t129 σ_4 (subK fun t130 σ_5 =>
      Do (aBin Go.Proofs.Tryz.prog .add 3 s20 (.val (.int .i64 1))) fun t132 =>
      Do (aBin Go.Proofs.Tryz.prog .add 3 s21 (.val (.int .i64 1))) fun t70 =>
    go_2 [s3_2, s4_2, s5_2, s13_2, s14_2, t130, s19, t132, t70] σ_5))
      (Do (aBuiltin Go.Proofs.Tryz.prog .len #[22] [s13_2]) fun t135 =>
      Do (aBin Go.Proofs.Tryz.prog .lss 3 s19 t135) fun t136 =>
      aCond t136
        (Do (aIndexAddr .slice 1 s13_2 s19) fun t140 =>
        Do (loadA false 1 t140 σ_4) fun t141 =>
        Do (aSlLit (mkE [.val (.slice none 0 0)]) 1 1 [(0, t141)]) fun t142 =>
        aAppend 33 1 24 s18 t142 σ_4 (subK fun t143 σ_6 =>
        Do (aBin Go.Proofs.Tryz.prog .add 3 s19 (.val (.int .i64 1))) fun t145 =>
        Do (aBin Go.Proofs.Tryz.prog .add 3 s21 (.val (.int .i64 1))) fun t70_1 =>
    go_2 [s3_2, s4_2, s5_2, s13_2, s14_2, t143, t145, s20, t70_1] σ_6))
        (Do (aBin Go.Proofs.Tryz.prog .add 3 s21 (.val (.int .i64 1))) fun t70_2 =>
    go_2 [s3_2, s4_2, s5_2, s13_2, s14_2, s18, s19, s20, t70_2] σ_4)))
      (Q (.ret s18) σ_4))
    [s3, s4, s5, s13, s14, (.val (.slice none 0 0)), (.val (.int .i64 0)), (.val (.int .i64 0)), (.val (.int .i64 0))] σ))
    [a0, a1, a2, a3, a4, a5, (.val (.slice none 0 0)), (.val (.slice none 0 0)), (.val (.int .i64 0))] σ
theorem law17_placed.eq (a0 a1 a2 a3 a4 a5 : AV) (σ : Store) (Q : AEnd → Store → Prop) : vc (semOf Go.Proofs.Tryz.prog law17_placed.mark) Go.Proofs.Tryz.f55.ntmps law17_placed.ann (bodyOf Go.Proofs.Tryz.f55) (endK [.tmp 12] Q) (argFr [a0, a1, a2, a3, a4, a5]) σ = law17_placed.sh a0 a1 a2 a3 a4 a5 σ Q := by kernel_rfl
theorem law17_placed.go {a0 a1 a2 a3 a4 a5 : AV} {σ : Store} {Q : AEnd → Store → Prop} (h : law17_placed.sh a0 a1 a2 a3 a4 a5 σ Q) : ACalls Go.Proofs.Tryz.prog 55 [a0, a1, a2, a3, a4, a5] σ Q :=
  acalls_of_eq [.tmp 12] Go.Proofs.Tryz.func55 (by kernel_rfl) (by kernel_rfl) (by kernel_rfl) (by kernel_rfl) (law17_placed.eq a0 a1 a2 a3 a4 a5 σ Q) h
theorem stayR_nat (l : List (List En)) (ins : List Int) (k : Nat) : (stayR l ins k).length ≤ k := by
  unfold stayR
  rw [List.length_map]
  exact Nat.le_trans (List.length_filter_le _ _) (by rw [List.length_range]; exact Nat.le_refl _)
instance lenEn {P : Program} {t : TypeId} {l : List En} {K : AV → Prop} [h : SlT P t] : Stp (Do (aBuiltin P .len #[t] [enL l]) K) (K (.val (.int .i64 ((l.length : Nat) : Int)))) :=
  inferInstanceAs (Stp (Do (aBuiltin P .len #[t] [.lst 4 (l.map En.av) .ro]) K) _)
instance ixEn {l : List En} {K : AV → Prop} {x : Int} {b : Nat} {kk : IntKind} [h : NatOf x b] : Stp (Do (aIndexAddr .slice 4 (enL l) (.val (.int kk x))) K) (Need (b < l.length) (K (.rptr (En.cs (l.getD b default))))) :=
  inferInstanceAs (Stp (Do (aIndexAddr .slice 4 (.lst 4 (l.map En.av) .ro) (.val (.int kk x))) K) _)
theorem drop_getD {α : Type} [Inhabited α] (l : List α) (i : Nat) : (l.drop i).getD 0 default = l.getD i default := by
  simp [List.getD_eq_getElem?_getD, List.getElem?_drop]
/-- Whether what stands next is the next part, told by places. -/
theorem isPart_iff {to : Int} {x : TabR} {T : List TabR} {P : List (List En)} {a b : Nat} : isPart to x (T.drop a) (P.drop b) = true ↔ b < P.length ∧ x.lev = to ∧ 0 < (P.getD b default).length ∧ x.fst = ((P.getD b default).getD 0 default).key ∧ (T.length ≤ a ∨ ¬ x = T.getD a default) := by
  unfold isPart
  rw [drop_getD, drop_getD]
  simp only [Bool.and_eq_true, Bool.or_eq_true, decide_eq_true_eq, Bool.not_eq_true', decide_eq_false_iff_not, List.length_drop]
  constructor
  · rintro ⟨h1, h2, h3, h4, h5⟩
    exact ⟨by omega, h2, h3, h4, h5.imp (by omega) id⟩
  · rintro ⟨h1, h2, h3, h4, h5⟩
    exact ⟨by omega, h2, h3, h4, h5.imp (by omega) id⟩
theorem placed_ok (l : List TabR) (rows : List (List En)) (J : List Int) (to : Nat) (P : List (List En)) (nx : List TabR) (hr : rows.length = l.length) (hl : l.length ≤ 100000) (hi : J.length ≤ 100000) (hP : P.length ≤ 100000) (hn : nx.length ≤ 100000) (hPl : ∀ p ∈ P, p.length ≤ 100000) :
    aPure Go.Proofs.Tryz.prog 55 [.lst 36 (l.map tbF) .ro, .lst 1 (rows.map enL) .ro, .lst 1 (J.map it) .ro, I .i64 (to : Nat), .lst 1 (P.map enL) .ro, .lst 36 (nx.map tbF) .ro]
      (.lst 1 ((placedF (to : Nat) nx (stayT l J l.length) (stayR rows J l.length) P).map enL) .ro) := by
  refine ACalls.fin (law17_placed.go ?_)
  unfold law17_placed.sh
  repeat' (first|with_reducible (first|apply Stp.go|refine imp fun _=>?_|(refine need ?_ ?_;first|trivial|omega|exact ⟨by assumption,by omega⟩|(simp only [zL,zM];omega))|refine choT (by assumption) ?_|refine choF (by assumption) ?_|refine choF' (by assumption) ?_|(refine altT ?_ ?_;first|omega|(simp only [zL,zM];omega))|refine altF ?_|refine all fun _=>?_|refine both ?_ ?_|(refine choT ?_ ?_;omega)|(refine choF ?_ ?_;omega)|refine cho (fun _=>?_) fun _=>?_)|(with_reducible refine fact ?_ ?_;first|trivial|exact ⟨rfl,rfl⟩|kernel_rfl))
  refine loopI (β := Nat × Value × Value) (fun x => x.1 ≤ l.length)
    (fun x => [.lst 36 (l.map tbF) .ro, .lst 1 (rows.map enL) .ro, .lst 1 (J.map it) .ro, I .i64 (to : Nat), .lst 1 (P.map enL) .ro, .lst 36 (nx.map tbF) .ro, .own x.2.1 (stayR rows J x.1).length, .own x.2.2 (stayT l J x.1).length, I .i64 (x.1 : Nat)])
    (fun x => [.row x.2.2 TbE 36 ((stayT l J x.1).map tbF) 0, .row x.2.1 EsT 1 ((stayR rows J x.1).map enL) 0]) (fun x => l.length - x.1) (0, .slice none 0 0, .slice none 0 0) (Nat.zero_le _)
    ((Sub.nil_own EsT (sz := 1) (by decide) _ [_, _, _, _, _, _] [_, _]).trans (Sub.nil_own TbE (sz := 36) (by decide) _ [_, _, _, _, _, _, _] [_])) ?_
  rintro ⟨i, v, w⟩ h1
  dsimp only at h1 ⊢
  have hsi := stayT_len l J i
  have hri := stayR_nat rows J i
  by_cases hlt : i < l.length
  · have hs := stayT_succ l J i
    have hs2 := stayR_succ rows J i
    repeat' (first|with_reducible (first|apply Stp.go|refine imp fun _=>?_|(refine need ?_ ?_;first|trivial|omega|exact ⟨by assumption,by omega⟩|(simp only [zL,zM];omega))|refine choT (by assumption) ?_|refine choF (by assumption) ?_|refine choF' (by assumption) ?_|(refine altT ?_ ?_;first|omega|(simp only [zL,zM];omega))|refine altF ?_|refine all fun _=>?_|refine both ?_ ?_|(refine choT ?_ ?_;omega)|(refine choF ?_ ?_;omega)|refine cho (fun _=>?_) fun _=>?_)|(with_reducible refine fact ?_ ?_;first|trivial|exact ⟨rfl,rfl⟩|kernel_rfl))
    refine loopI (β := Nat) (fun k => k ≤ J.length)
      (fun k => [.lst 36 (l.map tbF) .ro, .lst 1 (rows.map enL) .ro, .lst 1 (J.map it) .ro, I .i64 (to : Nat), .lst 1 (P.map enL) .ro, .lst 36 (nx.map tbF) .ro, .own v (stayR rows J i).length, .own w (stayT l J i).length, I .i64 (i : Nat), B (decide ((i : Int) ∈ J.take k)), I .i64 (k : Nat)])
      (fun _ => [.row w TbE 36 ((stayT l J i).map tbF) 0, .row v EsT 1 ((stayR rows J i).map enL) 0]) (fun k => J.length - k) 0 (Nat.zero_le _) (Sub.refl _ _) ?_
    intro k hk
    by_cases hkl : k < J.length
    · have hst : (i : Int) ∈ J.take (k + 1) ↔ ((i : Int) ∈ J.take k ∨ J.getD k default = i) := by
        rw [take_succ_d hkl, List.mem_append, List.mem_singleton]
        exact or_congr Iff.rfl eq_comm
      by_cases hg : (i : Int) ∈ J.take k
      · rw [decide_eq_true hg]
        repeat' (first|with_reducible (first|apply Stp.go|refine imp fun _=>?_|(refine need ?_ ?_;first|trivial|omega|exact ⟨by assumption,by omega⟩|(simp only [zL,zM];omega))|refine choT (by assumption) ?_|refine choF (by assumption) ?_|refine choF' (by assumption) ?_|(refine altT ?_ ?_;first|omega|(simp only [zL,zM];omega))|refine altF ?_|refine all fun _=>?_|refine both ?_ ?_|(refine choT ?_ ?_;omega)|(refine choF ?_ ?_;omega)|refine cho (fun _=>?_) fun _=>?_)|(with_reducible refine fact ?_ ?_;first|trivial|exact ⟨rfl,rfl⟩|kernel_rfl))
        exact again (k + 1) (by omega) (by omega) (by rw [decide_eq_true (hst.2 (.inl hg))]; exact Sub.refl _ _)
      · rw [decide_eq_false hg]
        have hff : ¬ (false : Bool) = true := by decide
        have he : decide ((i : Int) ∈ J.take (k + 1)) = decide (J.getD k default = (i : Int)) := by
          rw [Bool.eq_iff_iff, decide_eq_true_eq, decide_eq_true_eq, hst]
          exact ⟨fun h => h.resolve_left hg, .inr⟩
        repeat' (first|with_reducible (first|apply Stp.go|refine imp fun _=>?_|(refine need ?_ ?_;first|trivial|omega|exact ⟨by assumption,by omega⟩|(simp only [zL,zM];omega))|refine choT (by assumption) ?_|refine choF (by assumption) ?_|refine choF' (by assumption) ?_|(refine altT ?_ ?_;first|omega|(simp only [zL,zM];omega))|refine altF ?_|refine all fun _=>?_|refine both ?_ ?_|(refine choT ?_ ?_;omega)|(refine choF ?_ ?_;omega)|refine cho (fun _=>?_) fun _=>?_)|(with_reducible refine fact ?_ ?_;first|trivial|exact ⟨rfl,rfl⟩|kernel_rfl))
        exact again (k + 1) (by omega) (by omega) (by rw [he]; exact Sub.refl _ _)
    · have ek : k = J.length := by omega
      subst ek
      rw [List.take_length]
      by_cases hc : (i : Int) ∈ J
      · rw [decide_eq_true hc]
        rw [if_pos hc, List.append_nil] at hs hs2
        have htt : (true : Bool) = true := rfl
        repeat' (first|with_reducible (first|apply Stp.go|refine imp fun _=>?_|(refine need ?_ ?_;first|trivial|omega|exact ⟨by assumption,by omega⟩|(simp only [zL,zM];omega))|refine choT (by assumption) ?_|refine choF (by assumption) ?_|refine choF' (by assumption) ?_|(refine altT ?_ ?_;first|omega|(simp only [zL,zM];omega))|refine altF ?_|refine all fun _=>?_|refine both ?_ ?_|(refine choT ?_ ?_;omega)|(refine choF ?_ ?_;omega)|refine cho (fun _=>?_) fun _=>?_)|(with_reducible refine fact ?_ ?_;first|trivial|exact ⟨rfl,rfl⟩|kernel_rfl))
        exact again (i + 1, v, w) (by dsimp only; omega) (by dsimp only; omega) (by dsimp only; rw [hs, hs2]; exact Sub.refl _ _)
      · rw [decide_eq_false hc]
        rw [if_neg hc] at hs hs2
        have hff : ¬ (false : Bool) = true := by decide
        repeat' (first|with_reducible (first|apply Stp.go|refine imp fun _=>?_|(refine need ?_ ?_;first|trivial|omega|exact ⟨by assumption,by omega⟩|(simp only [zL,zM];omega))|refine choT (by assumption) ?_|refine choF (by assumption) ?_|refine choF' (by assumption) ?_|(refine altT ?_ ?_;first|omega|(simp only [zL,zM];omega))|refine altF ?_|refine all fun _=>?_|refine both ?_ ?_|(refine choT ?_ ?_;omega)|(refine choF ?_ ?_;omega)|refine cho (fun _=>?_) fun _=>?_)|(with_reducible refine fact ?_ ?_;first|trivial|exact ⟨rfl,rfl⟩|kernel_rfl))
        rename_i v2 w2
        exact again (i + 1, v2, w2) (by dsimp only; omega) (by dsimp only; omega) (by dsimp only; rw [hs, hs2]; exact Sub.refl _ _)
  · have e : i = l.length := by omega
    subst e
    have hsr := stayR_len l rows J l.length
    generalize stayT l J l.length = T at *
    generalize stayR rows J l.length = S at *
    repeat' (first|with_reducible (first|apply Stp.go|refine imp fun _=>?_|(refine need ?_ ?_;first|trivial|omega|exact ⟨by assumption,by omega⟩|(simp only [zL,zM];omega))|refine choT (by assumption) ?_|refine choF (by assumption) ?_|refine choF' (by assumption) ?_|(refine altT ?_ ?_;first|omega|(simp only [zL,zM];omega))|refine altF ?_|refine all fun _=>?_|refine both ?_ ?_|(refine choT ?_ ?_;omega)|(refine choF ?_ ?_;omega)|refine cho (fun _=>?_) fun _=>?_)|(with_reducible refine fact ?_ ?_;first|trivial|exact ⟨rfl,rfl⟩|kernel_rfl))
    refine loopI (β := Nat × Nat × Nat × Value × List (List En)) (fun x => x.1 ≤ nx.length ∧ x.2.1 ≤ T.length ∧ x.2.2.1 ≤ P.length ∧ x.2.2.2.2.length ≤ x.1 ∧ x.2.2.2.2 ++ placedF (to : Nat) (nx.drop x.1) (T.drop x.2.1) (S.drop x.2.1) (P.drop x.2.2.1) = placedF (to : Nat) nx T S P)
      (fun x => [I .i64 (to : Nat), .lst 1 (P.map enL) .ro, .lst 36 (nx.map tbF) .ro, .own v S.length, .own w T.length, .own x.2.2.2.1 x.2.2.2.2.length, I .i64 (x.2.1 : Nat), I .i64 (x.2.2.1 : Nat), I .i64 (x.1 : Nat)])
      (fun x => [.row x.2.2.2.1 EsT 1 (x.2.2.2.2.map enL) 0, .row w TbE 36 (T.map tbF) 0, .row v EsT 1 (S.map enL) 0]) (fun x => nx.length - x.1) (0, 0, 0, .slice none 0 0, []) ⟨Nat.zero_le _, Nat.zero_le _, Nat.zero_le _, Nat.zero_le _, rfl⟩ (Sub.nil_own EsT (sz := 1) (by decide) _ [_, _, _, _, _] [_, _, _]) ?_
    rintro ⟨i, a, b, u, out⟩ ⟨q1, q2, q3, q4, q5⟩
    dsimp only at q1 q2 q3 q4 q5 ⊢
    by_cases hin : i < nx.length
    · rw [drop_cons_d hin] at q5
      generalize hx : nx.getD i default = x at *
      by_cases hip : isPart (to : Nat) x (T.drop a) (P.drop b) = true
      · have hst : placedF (to : Nat) (x :: nx.drop (i + 1)) (T.drop a) (S.drop a) (P.drop b) = P.getD b default :: placedF (to : Nat) (nx.drop (i + 1)) (T.drop a) (S.drop a) (P.drop (b + 1)) := by
          show (if isPart _ _ _ _ = true then _ else _) = _
          rw [if_pos hip, drop_getD, List.drop_drop]
        rw [hst] at q5
        obtain ⟨c1, c2, c3, c4, c5⟩ := isPart_iff.1 hip
        clear hip
        rw [← hx] at c2 c4 c5
        have hfin : ∀ u2 : Value, i + 1 ≤ nx.length ∧ a ≤ T.length ∧ b + 1 ≤ P.length ∧ (out ++ [P.getD b default]).length ≤ i + 1 ∧ (out ++ [P.getD b default]) ++ placedF (to : Nat) (nx.drop (i + 1)) (T.drop a) (S.drop a) (P.drop (b + 1)) = placedF (to : Nat) nx T S P := fun _ =>
          ⟨by omega, q2, by omega, by rw [List.length_append, List.length_singleton]; omega, by rw [List.append_assoc]; exact q5⟩
        by_cases c6 : T.length ≤ a
        · repeat' (first|with_reducible (first|apply Stp.go|refine imp fun _=>?_|(refine need ?_ ?_;first|trivial|omega|exact ⟨by assumption,by omega⟩|(simp only [zL,zM];omega))|refine choT (by assumption) ?_|refine choF (by assumption) ?_|refine choF' (by assumption) ?_|(refine altT ?_ ?_;first|omega|(simp only [zL,zM];omega))|refine altF ?_|refine all fun _=>?_|refine both ?_ ?_|(refine choT ?_ ?_;omega)|(refine choF ?_ ?_;omega)|refine cho (fun _=>?_) fun _=>?_)|(with_reducible refine fact ?_ ?_;first|trivial|exact ⟨rfl,rfl⟩|kernel_rfl))
          rename_i u2
          exact again (i + 1, a, b + 1, u2, out ++ [P.getD b default]) (by dsimp only; omega) (hfin u2) (Sub.refl _ _)
        · have c7 := c5.resolve_left c6
          have c8 : ¬ (⟨(nx.getD i default).lev, (nx.getD i default).cnt, ⟨(nx.getD i default).root.val, Len32.len⟩, (nx.getD i default).fst, (nx.getD i default).lst⟩ : TabR) = ⟨(T.getD a default).lev, (T.getD a default).cnt, ⟨(T.getD a default).root.val, Len32.len⟩, (T.getD a default).fst, (T.getD a default).lst⟩ := c7
          repeat' (first|with_reducible (first|apply Stp.go|refine imp fun _=>?_|(refine need ?_ ?_;first|trivial|omega|exact ⟨by assumption,by omega⟩|(simp only [zL,zM];omega))|refine choT (by assumption) ?_|refine choF (by assumption) ?_|refine choF' (by assumption) ?_|(refine altT ?_ ?_;first|omega|(simp only [zL,zM];omega))|refine altF ?_|refine all fun _=>?_|refine both ?_ ?_|(refine choT ?_ ?_;omega)|(refine choF ?_ ?_;omega)|refine cho (fun _=>?_) fun _=>?_)|(with_reducible refine fact ?_ ?_;first|trivial|exact ⟨rfl,rfl⟩|kernel_rfl))
          rename_i u2
          exact again (i + 1, a, b + 1, u2, out ++ [P.getD b default]) (by dsimp only; omega) (hfin u2) (Sub.refl _ _)
      · have hpa : isPart (to : Nat) x (T.drop a) (P.drop b) = false := Bool.eq_false_iff.2 hip
        rw [isPart_iff] at hip
        rw [← hx] at hip
        by_cases ha : a < S.length
        · have hst : placedF (to : Nat) (x :: nx.drop (i + 1)) (T.drop a) (S.drop a) (P.drop b) = S.getD a default :: placedF (to : Nat) (nx.drop (i + 1)) (T.drop (a + 1)) (S.drop (a + 1)) (P.drop b) := by
            show (if isPart _ _ _ _ = true then _ else if 0 < (S.drop a).length then _ else _) = _
            rw [if_neg (by rw [hpa]; decide), if_pos (by rw [List.length_drop]; omega), drop_getD, List.drop_drop, List.drop_drop]
          rw [hst] at q5
          have hfin : ∀ u2 : Value, i + 1 ≤ nx.length ∧ a + 1 ≤ T.length ∧ b ≤ P.length ∧ (out ++ [S.getD a default]).length ≤ i + 1 ∧ (out ++ [S.getD a default]) ++ placedF (to : Nat) (nx.drop (i + 1)) (T.drop (a + 1)) (S.drop (a + 1)) (P.drop b) = placedF (to : Nat) nx T S P := fun _ =>
            ⟨by omega, by omega, q3, by rw [List.length_append, List.length_singleton]; omega, by rw [List.append_assoc]; exact q5⟩
          repeat' (first|with_reducible (first|apply Stp.go|refine imp fun _=>?_|(refine need ?_ ?_;first|trivial|omega|exact ⟨by assumption,by omega⟩|(simp only [zL,zM];omega))|refine choT (by assumption) ?_|refine choF (by assumption) ?_|refine choF' (by assumption) ?_|(refine altT ?_ ?_;first|omega|(simp only [zL,zM];omega))|refine altF ?_|refine all fun _=>?_|refine both ?_ ?_|(refine choT ?_ ?_;omega)|(refine choF ?_ ?_;omega)|refine cho (fun _=>?_) fun _=>?_)|(with_reducible refine fact ?_ ?_;first|trivial|exact ⟨rfl,rfl⟩|kernel_rfl))
          all_goals first
          | (rename_i u2
             exact again (i + 1, a + 1, b, u2, out ++ [S.getD a default]) (by dsimp only; omega) (hfin u2) (Sub.refl _ _))
          | (rename_i g1 g2 g3 g4 g5 _
             exact (hip ⟨g1, g2, g3, g4, .inr g5⟩).elim)
        · have hst : placedF (to : Nat) (x :: nx.drop (i + 1)) (T.drop a) (S.drop a) (P.drop b) = placedF (to : Nat) (nx.drop (i + 1)) (T.drop a) (S.drop a) (P.drop b) := by
            show (if isPart _ _ _ _ = true then _ else if 0 < (S.drop a).length then _ else _) = _
            rw [if_neg (by rw [hpa]; decide), if_neg (by rw [List.length_drop]; omega)]
          rw [hst] at q5
          repeat' (first|with_reducible (first|apply Stp.go|refine imp fun _=>?_|(refine need ?_ ?_;first|trivial|omega|exact ⟨by assumption,by omega⟩|(simp only [zL,zM];omega))|refine choT (by assumption) ?_|refine choF (by assumption) ?_|refine choF' (by assumption) ?_|(refine altT ?_ ?_;first|omega|(simp only [zL,zM];omega))|refine altF ?_|refine all fun _=>?_|refine both ?_ ?_|(refine choT ?_ ?_;omega)|(refine choF ?_ ?_;omega)|refine cho (fun _=>?_) fun _=>?_)|(with_reducible refine fact ?_ ?_;first|trivial|exact ⟨rfl,rfl⟩|kernel_rfl))
          all_goals first
          | exact again (i + 1, a, b, u, out) (by dsimp only; omega) ⟨by dsimp only; omega, q2, q3, by dsimp only; omega, q5⟩ (Sub.refl _ _)
          | (rename_i g1 g2 g3 g4 _
             exact (hip ⟨g1, g2, g3, g4, .inl (by omega)⟩).elim)
    · have e : i = nx.length := by omega
      subst e
      rw [List.drop_length] at q5
      have q6 : out = placedF (to : Nat) nx T S P := by rw [← q5]; exact (List.append_nil _).symm
      rw [← q6]
      repeat' (first|with_reducible (first|apply Stp.go|refine imp fun _=>?_|(refine need ?_ ?_;first|trivial|omega|exact ⟨by assumption,by omega⟩|(simp only [zL,zM];omega))|refine choT (by assumption) ?_|refine choF (by assumption) ?_|refine choF' (by assumption) ?_|(refine altT ?_ ?_;first|omega|(simp only [zL,zM];omega))|refine altF ?_|refine all fun _=>?_|refine both ?_ ?_|(refine choT ?_ ?_;omega)|(refine choF ?_ ?_;omega)|refine cho (fun _=>?_) fun _=>?_)|(with_reducible refine fact ?_ ?_;first|trivial|exact ⟨rfl,rfl⟩|kernel_rfl))
      exact ⟨_, _, _, rfl, retOwn (Sub.app_nil _), rfl, rfl⟩
instance {a b c e f : AV} {l nx : List TabR} {rows P : List (List En)} {J : List Int} {to : Nat} {x : Int} {m1 m2 m3 m4 m5 : SM} [h1 : IsL a tbF 36 l m1] [h2 : IsL b enL 1 rows m2] [h3 : IsL c it 1 J m3] [h4 : NatOf x to] [h5 : IsL e enL 1 P m4] [h6 : IsL f tbF 36 nx m5] :
    PC Go.Proofs.Tryz.prog 55 [a, b, c, .val (.int .i64 x), e, f] (rows.length = l.length ∧ l.length ≤ 100000 ∧ J.length ≤ 100000 ∧ P.length ≤ 100000 ∧ nx.length ≤ 100000 ∧ ∀ p ∈ P, p.length ≤ 100000)
      (.lst 1 ((placedF (to : Nat) nx (stayT l J l.length) (stayR rows J l.length) P).map enL) .ro) := ⟨fun hl => by
  rw [h4.eq]
  exact ⟨[.lst 36 (l.map tbF) .ro, .lst 1 (rows.map enL) .ro, .lst 1 (J.map it) .ro, I .i64 (to : Nat), .lst 1 (P.map enL) .ro, .lst 36 (nx.map tbF) .ro],
    ⟨fun R v hv => SubV.ro _ _ _ R v (h1.sub R v hv), fun R v hv => SubV.ro _ _ _ R v (h2.sub R v hv), fun R v hv => SubV.ro _ _ _ R v (h3.sub R v hv), SubV.refl _, fun R v hv => SubV.ro _ _ _ R v (h5.sub R v hv), fun R v hv => SubV.ro _ _ _ R v (h6.sub R v hv), trivial⟩, placed_ok l rows J to P nx hl.1 hl.2.1 hl.2.2.1 hl.2.2.2.1 hl.2.2.2.2.1 hl.2.2.2.2.2⟩⟩
end Go.Ab

/- A store behind its next merge, walked. -/
set_option linter.unusedVariables false
set_option linter.unusedSimpArgs false
namespace Go.Ab
theorem compact_store {b : Int} {l : List TabR} {rows : List (List En)} (h : StoreOk b l rows) (hk : lvlT l < 3) : compactT b l (rowsIn l (lvlT l) rows) = ((nextT b l (lvlT l) (rowsIn l (lvlT l) rows), partsT (lvlT l) (rowsIn l (lvlT l) rows)), 0) := by
  have hR := rowsIn_ok (k := lvlT l) h
  obtain ⟨hm, _, _⟩ := (rightT_iff l).1 h.right
  unfold compactT
  rw [if_pos h.right, if_pos hk, if_pos]
  refine ⟨hR.1.symm, ?_⟩
  unfold allOk
  rw [decide_eq_true_eq]
  intro j hj
  exact (okB_iff (hm _ (getD_memT (inK_mem.1 (getD_memT hj)).1))).2 (hR.2 j hj)
/-- What merged tells. -/
def mergedR (b : Int) (l : List TabR) (rows : List (List En)) : AV :=
  if lvlT l < 3 then .tuple [.lst 36 ((mergedT b l rows).1.map tbF) .ro, .lst 1 ((mergedT b l rows).2.map enL) .ro, B true]
  else .tuple [.lst 36 (([] : List TabR).map tbF) .ro, .lst 1 (([] : List (List En)).map enL) .ro, B false]
theorem tells_len {b : Int} : ∀ {l : List TabR} {rows : List (List En)}, Tells b l rows → ∀ r ∈ rows, fit r = true
  | _, _, .nil, r, hr => by cases hr
  | _, _, .cons h h2, r, hr => by
    rcases List.mem_cons.1 hr with rfl | hr
    · exact h.fit
    · exact tells_len h2 r hr
def law17_merged.mark : Mark := ⟨fun t => Nat.beq t 19 || Nat.beq t 72, fun t => false, fun t => Nat.beq t 3, fun t => Nat.beq t 34 || Nat.beq t 40 || Nat.beq t 50 || Nat.beq t 52 || Nat.beq t 56, fun t => false⟩
def law17_merged.ann : Ann := ⟨fun n => bif Nat.beq n 6 then [1, 2, 3, 9, 10, 12, 13] else [], fun n => none, fun n => none⟩
/-- 'marlstone/marlstonelaw17.merged' -/
def law17_merged.sh (a0 a1 a2 : AV) (σ : Store) (Q : AEnd → Store → Prop) : Prop :=
  Do (aFreeze ((a0 : AV)).cells) fun t3 =>
  Do (aPureC Go.Proofs.Tryz.prog 9 [a1]) fun t19 =>
  Do (aExt t19 0) fun t20 =>
  Do (aExt t19 1) fun t21 =>
  Do (aExt t19 2) fun t22 =>
  Do (aUn Go.Proofs.Tryz.prog .not t22) fun t24 =>
  aCond t24
    (Q (.ret (.tuple [(.val (.slice none 0 0)), (.val (.slice none 0 0)), (.val (.bool false))])) σ)
    (aLoop (fun go vs σ =>
    At vs 0 fun s1 => At vs 1 fun s2 => At vs 2 fun s3 => At vs 3 fun s9 => At vs 4 fun s10 => At vs 5 fun s12 => At vs 6 fun s13 => Do (aBuiltin Go.Proofs.Tryz.prog .len #[23] [s9]) fun t27 =>
    Do (aBin Go.Proofs.Tryz.prog .lss 3 s13 t27) fun t28 =>
    aCond t28
      (Do (aIndexAddr .slice 1 s9 s13) fun t33 =>
    Do (loadF false 1 t33) fun t34 =>
    Do (aBin Go.Proofs.Tryz.prog .lss 3 t34 (.val (.int .i64 0))) fun t35 =>
    Do (aGuard t35 false (aIs s9)) fun t37 =>
    Do (aGuard t35 false (aIs s13)) fun t38 =>
    Do (aGuard t35 false (aIndexAddr .slice 1 t37 t38)) fun t39 =>
    Do (aGuard t35 false (loadF false 1 t39)) fun t40 =>
    Do (aGuard t35 false (aIs s2)) fun t41 =>
    Do (aGuard t35 false (aBuiltin Go.Proofs.Tryz.prog .len #[22] [t41])) fun t42 =>
    Do (aGuard t35 false (aBin Go.Proofs.Tryz.prog .geq 3 t40 t42)) fun t43 =>
    Do (aPick t35 (.val (.bool true)) t43) fun t44 =>
    aCond t44
      (Q (.ret (.tuple [(.val (.slice none 0 0)), (.val (.slice none 0 0)), (.val (.bool false))])) σ)
      (Do (aIndexAddr .slice 1 s9 s13) fun t49 =>
    Do (loadF false 1 t49) fun t50 =>
    Do (aIndexAddr .slice 1 s2 t50) fun t51 =>
    Do (loadF false 1 t51) fun t52 =>
    Do (aSlLit (mkE [.val (.slice none 0 0)]) 1 1 [(0, t52)]) fun t53 =>
    aAppend 33 1 24 s12 t53 σ (subK fun t54 σ_1 =>
    Do (aBin Go.Proofs.Tryz.prog .add 3 s13 (.val (.int .i64 1))) fun t30 =>
    go [s1, s2, s3, s9, s10, t54, t30] σ_1)))
      (Do (loadF true 1 s3) fun t56 =>
  aCall Go.Proofs.Tryz.prog 13 [t56, s1, s12] σ (fun t59 σ_2 =>
  Do (aExt t59 0) fun t60 =>
  Do (aExt t59 1) fun t61 =>
  Do (aExt t59 2) fun t62 =>
  Do (aBin Go.Proofs.Tryz.prog .neq 35 t62 (.val (.int .i64 0))) fun t64 =>
  aCond t64
    (Q (.ret (.tuple [(.val (.slice none 0 0)), (.val (.slice none 0 0)), (.val (.bool false))])) σ_2)
    (Do (aPureC Go.Proofs.Tryz.prog 55 [s1, s2, s9, s10, t61, t60]) fun t72 =>
  Q (.ret (.tuple [t60, t72, (.val (.bool true))])) σ_2)) (fun e σ_3 => Q (.pan e) σ_3)))
    [a1, a2, t3, t20, t21, (.val (.slice none 0 0)), (.val (.int .i64 0))] σ)
theorem law17_merged.eq (a0 a1 a2 : AV) (σ : Store) (Q : AEnd → Store → Prop) : vc (semOf Go.Proofs.Tryz.prog law17_merged.mark) Go.Proofs.Tryz.f26.ntmps law17_merged.ann (bodyOf Go.Proofs.Tryz.f26) (endK [.tmp 6, .tmp 7, .tmp 8] Q) (argFr [a0, a1, a2]) σ = law17_merged.sh a0 a1 a2 σ Q := by kernel_rfl
theorem law17_merged.go {a0 a1 a2 : AV} {σ : Store} {Q : AEnd → Store → Prop} (h : law17_merged.sh a0 a1 a2 σ Q) : ACalls Go.Proofs.Tryz.prog 26 [a0, a1, a2] σ Q :=
  acalls_of_eq [.tmp 6, .tmp 7, .tmp 8] Go.Proofs.Tryz.func26 (by kernel_rfl) (by kernel_rfl) (by kernel_rfl) (by kernel_rfl) (law17_merged.eq a0 a1 a2 σ Q) h
theorem merged_ok (b : Int) (l : List TabR) (rows : List (List En)) (h : StoreOk b l rows) : aPure Go.Proofs.Tryz.prog 26 [trA b, .lst 36 (l.map tbF) .ro, .lst 1 (rows.map enL) .ro] (mergedR b l rows) := by
  refine ACalls.fin (law17_merged.go ?_)
  unfold law17_merged.sh mergedR
  obtain ⟨hm, hpw, h5⟩ := (rightT_iff l).1 h.right
  have hrl := h.tells.len
  have hp := Inputs_ok l .ro (by omega)
  unfold inputsR pickR at hp
  rw [if_pos h.right] at hp
  have hfr := tells_len h.tells
  by_cases hk : lvlT l < 3
  · rw [if_pos hk] at hp ⊢
    rw [map_itN] at hp
    have iP : PC Go.Proofs.Tryz.prog 9 [.lst 36 (l.map tbF) .ro] True _ := ⟨fun _ => PC.of hp⟩
    have htt : (true : Bool) = true := rfl
    have hmI : ∀ j, j < (inK l (lvlT l)).length → (inK l (lvlT l)).getD j default < l.length := fun j hj => (inK_mem.1 (getD_memT hj)).1
    have hIl : (inK l (lvlT l)).length ≤ l.length := Nat.le_trans (List.length_filter_le _ _) (by rw [List.length_range]; exact Nat.le_refl _)
    have hR := rowsIn_ok (k := lvlT l) h
    have hf : ∀ r ∈ rowsIn l (lvlT l) rows, fit r = true := fun r hr => hR.fit hr
    have hnl := (merged_all h hk).1
    have hnl2 := (merged_all h hk).2.1
    have hRl : (rowsIn l (lvlT l) rows).length = (inK l (lvlT l)).length := hR.1
    have hpl := parts_len17 (k := lvlT l) hf
    have hpf : ∀ p ∈ partsT (lvlT l) (rowsIn l (lvlT l) rows), p.length ≤ 100000 := fun p hp => by have := (fit_right (parts_fit hf hp)).1; omega
    have hC := Compact_ok b l (rowsIn l (lvlT l) rows) .ro .ro (by omega) (by omega) (fun r hr => by have := (fit_right (hf r hr)).1; omega)
    rw [compact_store h hk] at hC
    dsimp only at hC
    have iC : ∀ {a c : AV} {m m' : SM} [h1 : IsL a tbF 36 l m] [h2 : IsL c enL 1 (rowsIn l (lvlT l) rows) m'], PC Go.Proofs.Tryz.prog 13 [trA b, a, c] True (.tuple [.lst 36 ((nextT b l (lvlT l) (rowsIn l (lvlT l) rows)).map tbF) .ro, .lst 1 ((partsT (lvlT l) (rowsIn l (lvlT l) rows)).map enL) .ro, I .i64 ((0 : Nat) : Int)]) := by
      intro a c m m' h1 h2
      exact ⟨fun _ => ⟨[trA b, .lst 36 (l.map tbF) .ro, .lst 1 ((rowsIn l (lvlT l) rows).map enL) .ro], ⟨SubV.refl _, fun R v hv => SubV.ro _ _ _ R v (h1.sub R v hv), fun R v hv => SubV.ro _ _ _ R v (h2.sub R v hv), trivial⟩, hC⟩⟩
    have hnn : (nextT b l (lvlT l) (rowsIn l (lvlT l) rows)).length ≤ l.length := hnl2
    repeat' (first|with_reducible (first|apply Stp.go|refine imp fun _=>?_|(refine need ?_ ?_;first|trivial|omega|exact ⟨by assumption,by omega⟩|(simp only [zL,zM];omega))|refine choT (by assumption) ?_|refine choF (by assumption) ?_|refine choF' (by assumption) ?_|(refine altT ?_ ?_;first|omega|(simp only [zL,zM];omega))|refine altF ?_|refine all fun _=>?_|refine both ?_ ?_|(refine choT ?_ ?_;omega)|(refine choF ?_ ?_;omega)|refine cho (fun _=>?_) fun _=>?_)|(with_reducible refine fact ?_ ?_;first|trivial|exact ⟨rfl,rfl⟩|kernel_rfl))
    refine loopI (β := Nat × Value) (fun x => x.1 ≤ (inK l (lvlT l)).length)
      (fun x => [.lst 36 (l.map tbF) .ro, .lst 1 (rows.map enL) .ro, .rptr [I .i64 b], .lst 1 ((inK l (lvlT l)).map itN) .ro, I .i64 (lvlT l + 1 : Nat), .own x.2 (((inK l (lvlT l)).take x.1).map fun i => rows.getD i default).length, I .i64 (x.1 : Nat)])
      (fun x => [.row x.2 EsT 1 ((((inK l (lvlT l)).take x.1).map fun i => rows.getD i default).map enL) 0]) (fun x => (inK l (lvlT l)).length - x.1) (0, .slice none 0 0) (Nat.zero_le _) (Sub.nil_own EsT (sz := 1) (by decide) _ [_, _, _, _, _] [_]) ?_
    rintro ⟨i, v⟩ q1
    dsimp only at q1 ⊢
    by_cases hi : i < (inK l (lvlT l)).length
    · have hx := hmI i hi
      have htk := congrArg (List.map fun i => rows.getD i default) (take_succ_d hi)
      rw [List.map_append] at htk
      have hln : (((inK l (lvlT l)).take i).map fun i => rows.getD i default).length ≤ 1000 := by rw [List.length_map, List.length_take]; omega
      repeat' (first|with_reducible (first|apply Stp.go|refine imp fun _=>?_|(refine need ?_ ?_;first|trivial|omega|exact ⟨by assumption,by omega⟩|(simp only [zL,zM];omega))|refine choT (by assumption) ?_|refine choF (by assumption) ?_|refine choF' (by assumption) ?_|(refine altT ?_ ?_;first|omega|(simp only [zL,zM];omega))|refine altF ?_|refine all fun _=>?_|refine both ?_ ?_|(refine choT ?_ ?_;omega)|(refine choF ?_ ?_;omega)|refine cho (fun _=>?_) fun _=>?_)|(with_reducible refine fact ?_ ?_;first|trivial|exact ⟨rfl,rfl⟩|kernel_rfl))
      rename_i w
      exact again (i + 1, w) (by dsimp only; omega) (by dsimp only; omega) (by dsimp only; rw [htk]; exact Sub.refl _ _)
    · have ei : i = (inK l (lvlT l)).length := by omega
      subst ei
      rw [List.take_length, show ((inK l (lvlT l)).map fun i => rows.getD i default) = rowsIn l (lvlT l) rows from rfl]
      have iI : IsL (.lst 1 ((inK l (lvlT l)).map itN) .ro) it 1 ((inK l (lvlT l)).map Int.ofNat) .ro := ⟨by rw [← map_itN]; exact SubV.refl _⟩
      have hJl : ((inK l (lvlT l)).map Int.ofNat).length ≤ 100000 := by rw [List.length_map]; omega
      repeat' (first|with_reducible (first|apply Stp.go|refine imp fun _=>?_|(refine need ?_ ?_;first|trivial|omega|exact ⟨by assumption,by omega⟩|(simp only [zL,zM];omega))|refine choT (by assumption) ?_|refine choF (by assumption) ?_|refine choF' (by assumption) ?_|(refine altT ?_ ?_;first|omega|(simp only [zL,zM];omega))|refine altF ?_|refine all fun _=>?_|refine both ?_ ?_|(refine choT ?_ ?_;omega)|(refine choF ?_ ?_;omega)|refine cho (fun _=>?_) fun _=>?_)|(with_reducible refine fact ?_ ?_;first|trivial|exact ⟨rfl,rfl⟩|kernel_rfl))
      refine ⟨⟨hrl, by omega, hJl, by omega, by omega, hpf⟩, ?_⟩
      exact ⟨_, _, _, rfl, Sub.refl _ _, rfl, rfl⟩
  · rw [if_neg hk] at hp ⊢
    have iP : PC Go.Proofs.Tryz.prog 9 [.lst 36 (l.map tbF) .ro] True _ := ⟨fun _ => PC.of hp⟩
    have hff : ¬ (false : Bool) = true := by decide
    repeat' (first|with_reducible (first|apply Stp.go|refine imp fun _=>?_|(refine need ?_ ?_;first|trivial|omega|exact ⟨by assumption,by omega⟩|(simp only [zL,zM];omega))|refine choT (by assumption) ?_|refine choF (by assumption) ?_|refine choF' (by assumption) ?_|(refine altT ?_ ?_;first|omega|(simp only [zL,zM];omega))|refine altF ?_|refine all fun _=>?_|refine both ?_ ?_|(refine choT ?_ ?_;omega)|(refine choF ?_ ?_;omega)|refine cho (fun _=>?_) fun _=>?_)|(with_reducible refine fact ?_ ?_;first|trivial|exact ⟨rfl,rfl⟩|kernel_rfl))
    all_goals exact ⟨_, _, _, rfl, Sub.tuple (retNil tbF (sz := 36) (by decide) (retNil enL (sz := 1) (by decide) (Sub.app_nil _))), rfl, rfl⟩
end Go.Ab

/- A store: rows that are flushed one behind the other, and merges; walked. -/
set_option linter.unusedVariables false
set_option linter.unusedSimpArgs false
namespace Go.Ab
/-- So many merges, as long as there is one. -/
def mergesT (b : Int) : Nat → List TabR × List (List En) → List TabR × List (List En)
  | 0, s => s
  | n + 1, s => if lvlT s.1 < 3 then mergesT b n (mergedT b s.1 s.2) else s
/-- How many merges are asked for behind a row. -/
def cntM (merges : List Int) (i : Nat) : Nat := if i < merges.length then (merges.getD i default % 4).toNat else 0
/-- A store of the first rows. -/
def storeT (b : Int) (news : List (List En)) (merges : List Int) : Nat → List TabR × List (List En)
  | 0 => ([], [])
  | i + 1 => if (fit17 20 (news.getD i default)).length = 0 then storeT b news merges i
    else mergesT b (cntM merges i) (newT b 0 (fit17 20 (news.getD i default)) :: (storeT b news merges i).1, fit17 20 (news.getD i default) :: (storeT b news merges i).2)
theorem merges_ok {b : Int} : ∀ (n : Nat) {s : List TabR × List (List En)}, StoreOk b s.1 s.2 → StoreOk b (mergesT b n s).1 (mergesT b n s).2 ∧ (mergesT b n s).1.length ≤ s.1.length
  | 0, s, h => ⟨h, Nat.le_refl _⟩
  | n + 1, s, h => by
    unfold mergesT
    split
    · rename_i hk
      have h1 := merged_all h hk
      have h2 := merges_ok n (s := mergedT b s.1 s.2) h1.1
      exact ⟨h2.1, by have := h1.2.1; omega⟩
    · exact ⟨h, Nat.le_refl _⟩
theorem store_nil (b : Int) : StoreOk b [] [] := ⟨(rightT_iff _).2 ⟨fun x hx => (by cases hx), .nil, Nat.zero_le _⟩, .nil⟩
theorem store_all (b : Int) (news : List (List En)) (merges : List Int) : ∀ i, i ≤ 14 → StoreOk b (storeT b news merges i).1 (storeT b news merges i).2 ∧ (storeT b news merges i).1.length ≤ i
  | 0, _ => ⟨store_nil b, Nat.le_refl _⟩
  | i + 1, hi => by
    have ih := store_all b news merges i (by omega)
    unfold storeT
    split
    · exact ⟨ih.1, by omega⟩
    · rename_i h0
      have hf := fit17_fit (k := 20) (l := news.getD i default) (by decide) (by omega)
      have h1 := flush_all ih.1 hf (by omega)
      have h2 := merges_ok (cntM merges i) (s := (newT b 0 (fit17 20 (news.getD i default)) :: (storeT b news merges i).1, fit17 20 (news.getD i default) :: (storeT b news merges i).2)) h1
      refine ⟨h2.1, Nat.le_trans h2.2 ?_⟩
      dsimp only
      rw [List.length_cons]
      omega
instance mask2 {P : Program} {t : TypeId} {x : Int} {K : AV → Prop} : Stp (Do (aBin P .and t (.val (.int .i64 x)) (.val (.int .i64 3))) K) (K (.val (.int .i64 ((x % 4).toNat : Nat)))) := ⟨fun h => s_mask 2 (by decide) h⟩
def law17_store.mark : Mark := ⟨fun t => Nat.beq t 33 || Nat.beq t 41 || Nat.beq t 70, fun t => Nat.beq t 48, fun t => Nat.beq t 3, fun t => Nat.beq t 32 || Nat.beq t 38 || Nat.beq t 60 || Nat.beq t 67, fun t => false⟩
def law17_store.ann : Ann := ⟨fun n => bif Nat.beq n 4 then [1, 2, 3, 9, 10, 11] else bif Nat.beq n 14 then [1, 2, 3, 9, 10, 11, 15] else [], fun n => none, fun n => none⟩
/-- 'marlstone/marlstonelaw17.store' -/
def law17_store.sh (a0 a1 a2 : AV) (σ : Store) (Q : AEnd → Store → Prop) : Prop :=
  Do (aFreeze ((a0 : AV)).cells) fun t3 =>
  aLoop (fun go vs σ =>
    At vs 0 fun s1 => At vs 1 fun s2 => At vs 2 fun s3 => At vs 3 fun s9 => At vs 4 fun s10 => At vs 5 fun s11 => Do (aBuiltin Go.Proofs.Tryz.prog .len #[22] [s1]) fun t21 =>
    Do (aBin Go.Proofs.Tryz.prog .lss 3 s11 t21) fun t22 =>
    Do (aGuard t22 true (aIs s11)) fun t24 =>
    Do (aGuard t22 true (aBin Go.Proofs.Tryz.prog .lss 3 t24 (.val (.int .i64 14)))) fun t25 =>
    Do (aPick t22 t25 (.val (.bool false))) fun t26 =>
    aCond t26
      (Do (aIndexAddr .slice 1 s1 s11) fun t31 =>
    Do (loadF false 1 t31) fun t32 =>
    Do (aPureC Go.Proofs.Tryz.prog 19 [t32, (.val (.int .i64 20))]) fun t33 =>
    Do (aBuiltin Go.Proofs.Tryz.prog .len #[33] [t33]) fun t35 =>
    Do (aBin Go.Proofs.Tryz.prog .eql 3 t35 (.val (.int .i64 0))) fun t36 =>
    aCond t36
      (Do (aBin Go.Proofs.Tryz.prog .add 3 s11 (.val (.int .i64 1))) fun t28 =>
    go [s1, s2, s3, s9, s10, t28] σ)
      (Do (loadF true 1 s3) fun t38 =>
    Do (aPureC Go.Proofs.Tryz.prog 20 [t38, s9, t33]) fun t41 =>
    Do (aExt t41 0) fun t42 =>
    Do (aExt t41 1) fun t43 =>
    Do (aBin Go.Proofs.Tryz.prog .neq 35 t43 (.val (.int .i64 0))) fun t45 =>
    aCond t45
      (Q (.ret (.tuple [(.val (.slice none 0 0)), (.val (.slice none 0 0)), (.val (.bool false))])) σ)
      (aRowL 33 (mkE [.val (.slice none 0 0)]) 1 1 [(0, t33)] σ fun t48 σ_1 =>
    aAppend 33 1 24 t48 s10 σ_1 (subK fun t50 σ_2 =>
    aLoop (fun go_1 vs_1 σ_3 =>
      At vs_1 0 fun s1_1 => At vs_1 1 fun s2_1 => At vs_1 2 fun s3_1 => At vs_1 3 fun s9_1 => At vs_1 4 fun s10_1 => At vs_1 5 fun s11_1 => At vs_1 6 fun s15 => Do (aBuiltin Go.Proofs.Tryz.prog .len #[23] [s2_1]) fun t53 =>
      Do (aBin Go.Proofs.Tryz.prog .lss 3 s11_1 t53) fun t54 =>
      Do (aGuard t54 true (aIs s15)) fun t56 =>
      Do (aGuard t54 true (aIs s2_1)) fun t57 =>
      Do (aGuard t54 true (aIs s11_1)) fun t58 =>
      Do (aGuard t54 true (aIndexAddr .slice 1 t57 t58)) fun t59 =>
      Do (aGuard t54 true (loadF false 1 t59)) fun t60 =>
      Do (aGuard t54 true (aBin Go.Proofs.Tryz.prog .and 3 t60 (.val (.int .i64 3)))) fun t61 =>
      Do (aGuard t54 true (aBin Go.Proofs.Tryz.prog .lss 3 t56 t61)) fun t62 =>
      Do (aPick t54 t62 (.val (.bool false))) fun t63 =>
      aCond t63
        (Do (loadF true 1 s3_1) fun t67 =>
      Do (aPureC Go.Proofs.Tryz.prog 26 [t67, s9_1, s10_1]) fun t70 =>
      Do (aExt t70 0) fun t71 =>
      Do (aExt t70 1) fun t72 =>
      Do (aExt t70 2) fun t73 =>
      Do (aUn Go.Proofs.Tryz.prog .not t73) fun t75 =>
      aCond t75
        (Do (aBin Go.Proofs.Tryz.prog .add 3 s11_1 (.val (.int .i64 1))) fun t28_1 =>
    go [s1_1, s2_1, s3_1, s9_1, s10_1, t28_1] σ_3)
        (Do (aBin Go.Proofs.Tryz.prog .add 3 s15 (.val (.int .i64 1))) fun t65 =>
      go_1 [s1_1, s2_1, s3_1, t71, t72, s11_1, t65] σ_3))
        (Do (aBin Go.Proofs.Tryz.prog .add 3 s11_1 (.val (.int .i64 1))) fun t28_2 =>
    go [s1_1, s2_1, s3_1, s9_1, s10_1, t28_2] σ_3))
      [s1, s2, s3, t42, t50, s11, (.val (.int .i64 0))] σ_2))))
      (Q (.ret (.tuple [s9, s10, (.val (.bool true))])) σ))
    [a1, a2, t3, (.val (.slice none 0 0)), (.val (.slice none 0 0)), (.val (.int .i64 0))] σ
theorem law17_store.eq (a0 a1 a2 : AV) (σ : Store) (Q : AEnd → Store → Prop) : vc (semOf Go.Proofs.Tryz.prog law17_store.mark) Go.Proofs.Tryz.f8.ntmps law17_store.ann (bodyOf Go.Proofs.Tryz.f8) (endK [.tmp 6, .tmp 7, .tmp 8] Q) (argFr [a0, a1, a2]) σ = law17_store.sh a0 a1 a2 σ Q := by kernel_rfl
theorem law17_store.go {a0 a1 a2 : AV} {σ : Store} {Q : AEnd → Store → Prop} (h : law17_store.sh a0 a1 a2 σ Q) : ACalls Go.Proofs.Tryz.prog 8 [a0, a1, a2] σ Q :=
  acalls_of_eq [.tmp 6, .tmp 7, .tmp 8] Go.Proofs.Tryz.func8 (by kernel_rfl) (by kernel_rfl) (by kernel_rfl) (by kernel_rfl) (law17_store.eq a0 a1 a2 σ Q) h
theorem store_ok (b : Int) (news : List (List En)) (merges : List Int) (m m' : SM) (hn : news.length ≤ 9223372036854775807) (hm : merges.length ≤ 9223372036854775807) (hnl : ∀ r ∈ news, r.length ≤ 9223372036854775807) :
    aPure Go.Proofs.Tryz.prog 8 [trA b, .lst 1 (news.map enL) m, .lst 1 (merges.map it) m']
      (.tuple [.lst 36 ((storeT b news merges (min news.length 14)).1.map tbF) .ro, .lst 1 ((storeT b news merges (min news.length 14)).2.map enL) .ro, B true]) := by
  refine ACalls.fin (law17_store.go ?_)
  unfold law17_store.sh
  repeat' (first|with_reducible (first|apply Stp.go|refine imp fun _=>?_|(refine need ?_ ?_;first|trivial|omega|exact ⟨by assumption,by omega⟩|(simp only [zL,zM];omega))|refine choT (by assumption) ?_|refine choF (by assumption) ?_|refine choF' (by assumption) ?_|(refine altT ?_ ?_;first|omega|(simp only [zL,zM];omega))|refine altF ?_|refine all fun _=>?_|refine both ?_ ?_|(refine choT ?_ ?_;omega)|(refine choF ?_ ?_;omega)|refine cho (fun _=>?_) fun _=>?_)|(with_reducible refine fact ?_ ?_;first|trivial|exact ⟨rfl,rfl⟩|kernel_rfl))
  refine loopI (β := Nat) (fun i => i ≤ news.length ∧ i ≤ 14)
    (fun i => [.lst 1 (news.map enL) m, .lst 1 (merges.map it) m', .rptr [I .i64 b], .lst 36 ((storeT b news merges i).1.map tbF) .ro, .lst 1 ((storeT b news merges i).2.map enL) .ro, I .i64 (i : Nat)])
    (fun _ => []) (fun i => 14 - i) 0 ⟨Nat.zero_le _, Nat.zero_le _⟩
    (Sub.vals ⟨SubV.refl _, SubV.refl _, SubV.refl _, fun R v h => SubV.ro _ _ _ R v (SubV.nil 36 (by decide) R v h), fun R v h => SubV.ro _ _ _ R v (SubV.nil 1 (by decide) R v h), SubV.refl _, trivial⟩) ?_
  rintro i ⟨h1, h2⟩
  have hsi := store_all b news merges i h2
  by_cases hi : i < news.length ∧ i < 14
  · obtain ⟨hi1, hi2⟩ := hi
    have hrl := hnl _ (getD_memT hi1)
    have hfl := fit17_len 20 (news.getD i default)
    have hst : storeT b news merges (i + 1) = if (fit17 20 (news.getD i default)).length = 0 then storeT b news merges i
      else mergesT b (cntM merges i) (newT b 0 (fit17 20 (news.getD i default)) :: (storeT b news merges i).1, fit17 20 (news.getD i default) :: (storeT b news merges i).2) := rfl
    have hff := fit17_fit (k := 20) (l := news.getD i default) (by decide)
    generalize hS : storeT b news merges i = s at *
    obtain ⟨l, rows⟩ := s
    dsimp only at hsi hst ⊢
    by_cases h0 : (fit17 20 (news.getD i default)).length = 0
    · rw [if_pos h0] at hst
      repeat' (first|with_reducible (first|apply Stp.go|refine imp fun _=>?_|(refine need ?_ ?_;first|trivial|omega|exact ⟨by assumption,by omega⟩|(simp only [zL,zM];omega))|refine choT (by assumption) ?_|refine choF (by assumption) ?_|refine choF' (by assumption) ?_|(refine altT ?_ ?_;first|omega|(simp only [zL,zM];omega))|refine altF ?_|refine all fun _=>?_|refine both ?_ ?_|(refine choT ?_ ?_;omega)|(refine choF ?_ ?_;omega)|refine cho (fun _=>?_) fun _=>?_)|(with_reducible refine fact ?_ ?_;first|trivial|exact ⟨rfl,rfl⟩|kernel_rfl))
      exact again (i + 1) (by omega) ⟨by omega, by omega⟩ (by rw [hst]; exact Sub.refl _ _)
    · rw [if_neg h0] at hst
      have hf := hff (by omega)
      have hrl2 := hsi.1.tells.len
      have hF := Flush_ok b l (fit17 20 (news.getD i default)) .ro .ro (by omega) (by omega)
      unfold flushT at hF
      rw [if_pos ⟨hsi.1.right, hf⟩, if_pos (by omega)] at hF
      dsimp only at hF
      have hso := flush_all hsi.1 hf (by omega)
      have iF : ∀ {a c : AV} {m m' : SM} [h1 : IsL a tbF 36 l m] [h2 : IsL c En.av 4 (fit17 20 (news.getD i default)) m'], PC Go.Proofs.Tryz.prog 20 [trA b, a, c] True (.tuple [.lst 36 ((newT b 0 (fit17 20 (news.getD i default)) :: l).map tbF) .ro, I .i64 ((0 : Nat) : Int)]) := by
        intro a c m m' h1 h2
        exact ⟨fun _ => ⟨[trA b, .lst 36 (l.map tbF) .ro, .lst 4 ((fit17 20 (news.getD i default)).map En.av) .ro], ⟨SubV.refl _, fun R v hv => SubV.ro _ _ _ R v (h1.sub R v hv), fun R v hv => SubV.ro _ _ _ R v (h2.sub R v hv), trivial⟩, hF⟩⟩
      repeat' (first|with_reducible (first|apply Stp.go|refine imp fun _=>?_|(refine need ?_ ?_;first|trivial|omega|exact ⟨by assumption,by omega⟩|(simp only [zL,zM];omega))|refine choT (by assumption) ?_|refine choF (by assumption) ?_|refine choF' (by assumption) ?_|(refine altT ?_ ?_;first|omega|(simp only [zL,zM];omega))|refine altF ?_|refine all fun _=>?_|refine both ?_ ?_|(refine choT ?_ ?_;omega)|(refine choF ?_ ?_;omega)|refine cho (fun _=>?_) fun _=>?_)|(with_reducible refine fact ?_ ?_;first|trivial|exact ⟨rfl,rfl⟩|kernel_rfl))
      rename_i v0 v1
      refine loopI (β := Nat × List TabR × List (List En)) (fun x => StoreOk b x.2.1 x.2.2 ∧ x.2.1.length ≤ i + 1 ∧ x.1 ≤ cntM merges i ∧ mergesT b (cntM merges i - x.1) x.2 = storeT b news merges (i + 1))
        (fun x => [.lst 1 (news.map enL) m, .lst 1 (merges.map it) m', .rptr [I .i64 b], .lst 36 (x.2.1.map tbF) .ro, .lst 1 (x.2.2.map enL) .ro, I .i64 (i : Nat), I .i64 (x.1 : Nat)])
        (fun _ => []) (fun x => cntM merges i - x.1) (0, newT b 0 (fit17 20 (news.getD i default)) :: l, fit17 20 (news.getD i default) :: rows) ⟨hso, by dsimp only; rw [List.length_cons]; omega, Nat.zero_le _, hst.symm⟩
        (Sub.cons_same _ (Sub.cons_same _ (Sub.cons_same _ (Sub.cons_same _ (retOwn (Sub.app_nil _)))))) ?_
      rintro ⟨k, l2, rows2⟩ ⟨q1, q2, q3, q4⟩
      dsimp only at q1 q2 q3 q4 ⊢
      have hM := merged_ok b l2 rows2 q1
      have hcn : cntM merges i = if i < merges.length then (merges.getD i default % 4).toNat else 0 := rfl
      by_cases him : i < merges.length
      · rw [if_pos him] at hcn
        by_cases hk : k < cntM merges i
        · rw [show cntM merges i - k = (cntM merges i - (k + 1)) + 1 by omega] at q4
          unfold mergesT at q4
          unfold mergedR at hM
          have hk2 : k < (merges.getD i default % 4).toNat := by omega
          by_cases hlv : lvlT l2 < 3
          · rw [if_pos hlv] at q4 hM
            have iM : PC Go.Proofs.Tryz.prog 26 [trA b, .lst 36 (l2.map tbF) .ro, .lst 1 (rows2.map enL) .ro] True _ := ⟨fun _ => PC.of hM⟩
            have htt : (true : Bool) = true := rfl
            have hma := merged_all q1 hlv
            repeat' (first|with_reducible (first|apply Stp.go|refine imp fun _=>?_|(refine need ?_ ?_;first|trivial|omega|exact ⟨by assumption,by omega⟩|(simp only [zL,zM];omega))|refine choT (by assumption) ?_|refine choF (by assumption) ?_|refine choF' (by assumption) ?_|(refine altT ?_ ?_;first|omega|(simp only [zL,zM];omega))|refine altF ?_|refine all fun _=>?_|refine both ?_ ?_|(refine choT ?_ ?_;omega)|(refine choF ?_ ?_;omega)|refine cho (fun _=>?_) fun _=>?_)|(with_reducible refine fact ?_ ?_;first|trivial|exact ⟨rfl,rfl⟩|kernel_rfl))
            exact again (k + 1, mergedT b l2 rows2) (by dsimp only; omega) ⟨hma.1, by have := hma.2.1; dsimp only; omega, by dsimp only; omega, q4⟩ (Sub.refl _ _)
          · rw [if_neg hlv] at q4 hM
            have iM : PC Go.Proofs.Tryz.prog 26 [trA b, .lst 36 (l2.map tbF) .ro, .lst 1 (rows2.map enL) .ro] True _ := ⟨fun _ => PC.of hM⟩
            have hff : ¬ (false : Bool) = true := by decide
            repeat' (first|with_reducible (first|apply Stp.go|refine imp fun _=>?_|(refine need ?_ ?_;first|trivial|omega|exact ⟨by assumption,by omega⟩|(simp only [zL,zM];omega))|refine choT (by assumption) ?_|refine choF (by assumption) ?_|refine choF' (by assumption) ?_|(refine altT ?_ ?_;first|omega|(simp only [zL,zM];omega))|refine altF ?_|refine all fun _=>?_|refine both ?_ ?_|(refine choT ?_ ?_;omega)|(refine choF ?_ ?_;omega)|refine cho (fun _=>?_) fun _=>?_)|(with_reducible refine fact ?_ ?_;first|trivial|exact ⟨rfl,rfl⟩|kernel_rfl))
            exact again (i + 1) (by omega) ⟨by omega, by omega⟩ (by rw [← q4]; exact Sub.refl _ _)
        · have hk2 : ¬ k < (merges.getD i default % 4).toNat := by omega
          rw [show cntM merges i - k = 0 by omega] at q4
          repeat' (first|with_reducible (first|apply Stp.go|refine imp fun _=>?_|(refine need ?_ ?_;first|trivial|omega|exact ⟨by assumption,by omega⟩|(simp only [zL,zM];omega))|refine choT (by assumption) ?_|refine choF (by assumption) ?_|refine choF' (by assumption) ?_|(refine altT ?_ ?_;first|omega|(simp only [zL,zM];omega))|refine altF ?_|refine all fun _=>?_|refine both ?_ ?_|(refine choT ?_ ?_;omega)|(refine choF ?_ ?_;omega)|refine cho (fun _=>?_) fun _=>?_)|(with_reducible refine fact ?_ ?_;first|trivial|exact ⟨rfl,rfl⟩|kernel_rfl))
          exact again (i + 1) (by omega) ⟨by omega, by omega⟩ (by rw [← q4]; exact Sub.refl _ _)
      · rw [if_neg him] at hcn
        rw [show cntM merges i - k = 0 by omega] at q4
        repeat' (first|with_reducible (first|apply Stp.go|refine imp fun _=>?_|(refine need ?_ ?_;first|trivial|omega|exact ⟨by assumption,by omega⟩|(simp only [zL,zM];omega))|refine choT (by assumption) ?_|refine choF (by assumption) ?_|refine choF' (by assumption) ?_|(refine altT ?_ ?_;first|omega|(simp only [zL,zM];omega))|refine altF ?_|refine all fun _=>?_|refine both ?_ ?_|(refine choT ?_ ?_;omega)|(refine choF ?_ ?_;omega)|refine cho (fun _=>?_) fun _=>?_)|(with_reducible refine fact ?_ ?_;first|trivial|exact ⟨rfl,rfl⟩|kernel_rfl))
        exact again (i + 1) (by omega) ⟨by omega, by omega⟩ (by rw [← q4]; exact Sub.refl _ _)
  · have e : min news.length 14 = i := by omega
    rw [e]
    by_cases hi1 : i < news.length
    · repeat' (first|with_reducible (first|apply Stp.go|refine imp fun _=>?_|(refine need ?_ ?_;first|trivial|omega|exact ⟨by assumption,by omega⟩|(simp only [zL,zM];omega))|refine choT (by assumption) ?_|refine choF (by assumption) ?_|refine choF' (by assumption) ?_|(refine altT ?_ ?_;first|omega|(simp only [zL,zM];omega))|refine altF ?_|refine all fun _=>?_|refine both ?_ ?_|(refine choT ?_ ?_;omega)|(refine choF ?_ ?_;omega)|refine cho (fun _=>?_) fun _=>?_)|(with_reducible refine fact ?_ ?_;first|trivial|exact ⟨rfl,rfl⟩|kernel_rfl))
      all_goals exact ⟨_, _, _, rfl, Sub.refl _ _, rfl, rfl⟩
    · repeat' (first|with_reducible (first|apply Stp.go|refine imp fun _=>?_|(refine need ?_ ?_;first|trivial|omega|exact ⟨by assumption,by omega⟩|(simp only [zL,zM];omega))|refine choT (by assumption) ?_|refine choF (by assumption) ?_|refine choF' (by assumption) ?_|(refine altT ?_ ?_;first|omega|(simp only [zL,zM];omega))|refine altF ?_|refine all fun _=>?_|refine both ?_ ?_|(refine choT ?_ ?_;omega)|(refine choF ?_ ?_;omega)|refine cho (fun _=>?_) fun _=>?_)|(with_reducible refine fact ?_ ?_;first|trivial|exact ⟨rfl,rfl⟩|kernel_rfl))
      all_goals exact ⟨_, _, _, rfl, Sub.refl _ _, rfl, rfl⟩
end Go.Ab

/- All that a store has, walked. -/
set_option linter.unusedVariables false
set_option linter.unusedSimpArgs false
namespace Go.Ab
def proof_Whole.mark : Mark := ⟨fun t => false, fun t => false, fun t => false, fun t => Nat.beq t 19 || Nat.beq t 25, fun t => false⟩
def proof_Whole.ann : Ann := ⟨fun n => bif Nat.beq n 3 then [3, 14, 15, 16] else bif Nat.beq n 6 then [3, 14, 15, 16, 20, 21, 22] else bif Nat.beq n 15 then [10, 42] else [], fun n => none, fun n => none⟩
/-- 'marlstone/proof.Whole' -/
def proof_Whole.sh (a0 : AV) (σ : Store) (Q : AEnd → Store → Prop) : Prop :=
  aHook (eMakeMap σ) fun t13 σ =>
  Do (aBuiltin Go.Proofs.Tryz.prog .len #[22] [a0]) fun t15 =>
  aLoop (fun go vs σ_1 =>
    At vs 0 fun s3 => At vs 1 fun s14 => At vs 2 fun s15 => At vs 3 fun s16 => Do (aBin Go.Proofs.Tryz.prog .lss 3 s16 s15) fun t17 =>
    aCond t17
      (Do (aIndexAddr .slice 1 s14 s16) fun t18 =>
    Do (loadF false 1 t18) fun t19 =>
    Do (aBuiltin Go.Proofs.Tryz.prog .len #[33] [t19]) fun t21 =>
    aLoop (fun go_1 vs_1 σ_2 =>
      At vs_1 0 fun s3_1 => At vs_1 1 fun s14_1 => At vs_1 2 fun s15_1 => At vs_1 3 fun s16_1 => At vs_1 4 fun s20 => At vs_1 5 fun s21 => At vs_1 6 fun s22 => Do (aBin Go.Proofs.Tryz.prog .lss 3 s22 s21) fun t23 =>
      aCond t23
        (Do (aIndexAddr .slice 4 s20 s22) fun t24 =>
      Do (loadF true 4 t24) fun t25 =>
      aNewVar 50 [.val (.string ⟨#[]⟩), .val (.string ⟨#[]⟩), .val (.bool false), .val (.int .i64 0)] σ_2 fun t7 σ_3 =>
      storeA 4 t7 t25 σ_3 fun u σ_4 =>
      Do (aFieldAddr 0 1 t7) fun t28 =>
      Do (loadA false 1 t28 σ_4) fun t29 =>
      Do (lookA Go.Proofs.Tryz.prog 82 true s3_1 t29 σ_4) fun t30 =>
      Do (aExt t30 0) fun t31 =>
      Do (aExt t30 1) fun t32 =>
      aNewVar 50 [.val (.string ⟨#[]⟩), .val (.string ⟨#[]⟩), .val (.bool false), .val (.int .i64 0)] σ_4 fun t8 σ_5 =>
      storeA 4 t8 t31 σ_5 fun u_1 σ_6 =>
      Do (aUn Go.Proofs.Tryz.prog .not t32) fun t34 =>
      aCond t34
        (Do (aFieldAddr 0 1 t7) fun t36 =>
        Do (loadA false 1 t36 σ_6) fun t37 =>
        Do (loadA true 4 t7 σ_6) fun t38 =>
        aHook (eMapUpd Go.Proofs.Tryz.prog 82 s3_1 t37 t38 σ_6) fun u_2 σ_7 =>
        Do (aBin Go.Proofs.Tryz.prog .add 3 s22 (.val (.int .i64 1))) fun t39 =>
      go_1 [s3_1, s14_1, s15_1, s16_1, s20, s21, t39] σ_7)
        (Do (aBin Go.Proofs.Tryz.prog .add 3 s22 (.val (.int .i64 1))) fun t39_1 =>
      go_1 [s3_1, s14_1, s15_1, s16_1, s20, s21, t39_1] σ_6))
        (Do (aBin Go.Proofs.Tryz.prog .add 3 s16_1 (.val (.int .i64 1))) fun t40 =>
    go [s3_1, s14_1, s15_1, t40] σ_2))
      [s3, s14, s15, s16, t19, t21, (.val (.int .i64 0))] σ_1)
      (aHook (eRange Go.Proofs.Tryz.prog 82 s3 σ_1) fun t42 σ_8 =>
  aLoop (fun go_2 vs_2 σ_9 =>
    At vs_2 0 fun s10 => At vs_2 1 fun s42 => aHook (eNext s42 σ_9) fun t43 σ_10 =>
    Do (aExt t43 0) fun t44 =>
    aCond t44
      (Do (entryA s42 σ_10) fun t45 =>
    Do (aExt t45 1) fun t46 =>
    aNewVar 50 [.val (.string ⟨#[]⟩), .val (.string ⟨#[]⟩), .val (.bool false), .val (.int .i64 0)] σ_10 fun t12 σ_11 =>
    storeA 4 t12 t46 σ_11 fun u_3 σ_12 =>
    Do (aFieldAddr 2 1 t12) fun t47 =>
    Do (loadA false 1 t47 σ_12) fun t48 =>
    Do (aUn Go.Proofs.Tryz.prog .not t48) fun t49 =>
    aCond t49
      (Do (loadA true 4 t12 σ_12) fun t51 =>
      Do (aSlLit (mkE [.val (.string ⟨#[]⟩), .val (.string ⟨#[]⟩), .val (.bool false), .val (.int .i64 0)]) 4 1 [(0, t51)]) fun t52 =>
      aAppend 50 4 48 s10 t52 σ_12 (subK fun t53 σ_13 =>
      go_2 [t53, s42] σ_13))
      (go_2 [s10, s42] σ_12))
      (aCall Go.Proofs.Tryz.prog 51 [s10, (.val (.func (.func 52) #[] #[]))] σ_10 (fun t55 σ_14 =>
  Q (.ret s10) σ_14) (fun e σ_15 => Q (.pan e) σ_15)))
    [(.val (.slice none 0 0)), t42] σ_8))
    [t13, a0, t15, (.val (.int .i64 0))] σ
theorem proof_Whole.eq (a0 : AV) (σ : Store) (Q : AEnd → Store → Prop) : vc (semOf Go.Proofs.Tryz.prog proof_Whole.mark) Go.Proofs.Tryz.f22.ntmps proof_Whole.ann (bodyOf Go.Proofs.Tryz.f22) (endK [.tmp 2] Q) (argFr [a0]) σ = proof_Whole.sh a0 σ Q := by kernel_rfl
theorem proof_Whole.go {a0 : AV} {σ : Store} {Q : AEnd → Store → Prop} (h : proof_Whole.sh a0 σ Q) : ACalls Go.Proofs.Tryz.prog 22 [a0] σ Q :=
  acalls_of_eq [.tmp 2] Go.Proofs.Tryz.func22 (by kernel_rfl) (by kernel_rfl) (by kernel_rfl) (by kernel_rfl) (proof_Whole.eq a0 σ Q) h
theorem Whole_ok (rows : List (List En)) (m : SM) (hr : rows.length ≤ 10000) (hl : ∀ r ∈ rows, r.length ≤ 10000) : aPure Go.Proofs.Tryz.prog 22 [.lst 1 (rows.map enL) m] (.lst 4 ((wholeT rows).map En.av) .ro) := by
  refine ACalls.fin (proof_Whole.go ?_)
  unfold proof_Whole.sh
  repeat' (first|with_reducible (first|apply Stp.go|refine imp fun _=>?_|(refine need ?_ ?_;first|trivial|omega|exact ⟨by assumption,by omega⟩|(simp only [zL,zM];omega))|refine choT (by assumption) ?_|refine choF (by assumption) ?_|refine choF' (by assumption) ?_|(refine altT ?_ ?_;first|omega|(simp only [zL,zM];omega))|refine altF ?_|refine all fun _=>?_|refine both ?_ ?_|(refine hyp ?_ ?_;first|assumption|exact leftT_mem (by assumption))|(refine choT ?_ ?_;omega)|(refine choF ?_ ?_;omega)|refine cho (fun _=>?_) fun _=>?_)|(with_reducible refine fact ?_ ?_;first|trivial|exact ⟨rfl,rfl⟩|kernel_rfl))
  rename_i mb
  refine loopI (β := Nat × List (Nat × List UInt8 × En) × Nat) (fun x => x.1 ≤ rows.length ∧ Tbl x.2.1 x.2.2 (firstsF (rows.take x.1).flatten) ∧ x.2.1.length ≤ 10000 * x.1) (fun x => [.val (.map (some mb)), .lst 1 (rows.map enL) m, I .i64 (rows.length : Nat), I .i64 (x.1 : Nat)])
    (fun x => [.map mb (mkM keyS En.av x.2.1) x.2.2]) (fun x => rows.length - x.1) (0, [], 0) ⟨Nat.zero_le _, Tbl.nil, Nat.le_refl _⟩ (Sub.refl _ _) ?_
  rintro ⟨i, L, c⟩ ⟨hi, ht, hL⟩
  dsimp only at hi ht hL ⊢
  by_cases hlt : i < rows.length
  · have hrl := hl _ (getD_memT hlt)
    have hfs : (rows.take (i + 1)).flatten = (rows.take i).flatten ++ rows.getD i default := by rw [take_succ_d hlt, List.flatten_append, List.flatten_cons, List.flatten_nil, List.append_nil]
    repeat' (first|with_reducible (first|apply Stp.go|refine imp fun _=>?_|(refine need ?_ ?_;first|trivial|omega|exact ⟨by assumption,by omega⟩|(simp only [zL,zM];omega))|refine choT (by assumption) ?_|refine choF (by assumption) ?_|refine choF' (by assumption) ?_|(refine altT ?_ ?_;first|omega|(simp only [zL,zM];omega))|refine altF ?_|refine all fun _=>?_|refine both ?_ ?_|(refine hyp ?_ ?_;first|assumption|exact leftT_mem (by assumption))|(refine choT ?_ ?_;omega)|(refine choF ?_ ?_;omega)|refine cho (fun _=>?_) fun _=>?_)|(with_reducible refine fact ?_ ?_;first|trivial|exact ⟨rfl,rfl⟩|kernel_rfl))
    generalize hrow : rows.getD i default = row at *
    generalize (rows.take i).flatten = B0 at *
    refine loopI (β := Nat × List (Nat × List UInt8 × En) × Nat) (fun x => x.1 ≤ row.length ∧ Tbl x.2.1 x.2.2 (firstsF (B0 ++ row.take x.1)) ∧ x.2.1.length ≤ 10000 * i + x.1) (fun x => [.val (.map (some mb)), .lst 1 (rows.map enL) m, I .i64 (rows.length : Nat), I .i64 (i : Nat), enL row, I .i64 (row.length : Nat), I .i64 (x.1 : Nat)])
      (fun x => [.map mb (mkM keyS En.av x.2.1) x.2.2]) (fun x => row.length - x.1) (0, L, c) ⟨Nat.zero_le _, by dsimp only; rw [List.take_zero, List.append_nil]; exact ht, by dsimp only; omega⟩ (Sub.refl _ _) ?_
    rintro ⟨j, L2, c2⟩ ⟨hj, ht2, hL2⟩
    dsimp only at hj ht2 hL2 ⊢
    have hF := (firsts_all (B0 ++ row.take j)).1
    by_cases hjl : j < row.length
    · have hs : firstsF (B0 ++ row.take (j + 1)) = putN (row.getD j default) (firstsF (B0 ++ row.take j)) := by rw [take_succ_d hjl, ← List.append_assoc, firstsF_snoc]
      have hset := ht2.putN hF (e := row.getD j default)
      have hkeep := fun x => ht2.keepN (e := row.getD j default) (x := x)
      have hsl := setT_length (row.getD j default).key (row.getD j default) c2 L2
      rw [← hs] at hset hkeep
      repeat' (first|with_reducible (first|apply Stp.go|refine imp fun _=>?_|(refine need ?_ ?_;first|trivial|omega|exact ⟨by assumption,by omega⟩|(simp only [zL,zM];omega))|refine choT (by assumption) ?_|refine choF (by assumption) ?_|refine choF' (by assumption) ?_|(refine altT ?_ ?_;first|omega|(simp only [zL,zM];omega))|refine altF ?_|refine all fun _=>?_|refine both ?_ ?_|(refine hyp ?_ ?_;first|assumption|exact leftT_mem (by assumption))|(refine choT ?_ ?_;omega)|(refine choF ?_ ?_;omega)|refine cho (fun _=>?_) fun _=>?_)|(with_reducible refine fact ?_ ?_;first|trivial|exact ⟨rfl,rfl⟩|kernel_rfl))
      · rename_i h1
        obtain ⟨x, hx⟩ := Option.isSome_iff_exists.1 h1
        refine again (j + 1, L2, c2) (by dsimp only; omega) ⟨by dsimp only; omega, hkeep x hx, by dsimp only; omega⟩ ?_
        exact subS _
      · rename_i h1
        refine again (j + 1, setT (row.getD j default).key (row.getD j default) c2 L2, bif hasT (row.getD j default).key L2 then c2 else c2 + 1) (by dsimp only; omega) ⟨by dsimp only; omega, hset (by simpa using h1), by dsimp only; omega⟩ ?_
        exact subS _
    · have ej : j = row.length := by omega
      subst ej
      rw [List.take_length, ← hfs] at ht2
      repeat' (first|with_reducible (first|apply Stp.go|refine imp fun _=>?_|(refine need ?_ ?_;first|trivial|omega|exact ⟨by assumption,by omega⟩|(simp only [zL,zM];omega))|refine choT (by assumption) ?_|refine choF (by assumption) ?_|refine choF' (by assumption) ?_|(refine altT ?_ ?_;first|omega|(simp only [zL,zM];omega))|refine altF ?_|refine all fun _=>?_|refine both ?_ ?_|(refine hyp ?_ ?_;first|assumption|exact leftT_mem (by assumption))|(refine choT ?_ ?_;omega)|(refine choF ?_ ?_;omega)|refine cho (fun _=>?_) fun _=>?_)|(with_reducible refine fact ?_ ?_;first|trivial|exact ⟨rfl,rfl⟩|kernel_rfl))
      exact again (i + 1, L2, c2) (by dsimp only; omega) ⟨by dsimp only; omega, ht2, by dsimp only; omega⟩ (Sub.refl _ _)
  · have e : rows.take i = rows := List.take_of_length_le (by omega)
    rw [e] at ht
    have hF := (firsts_all rows.flatten).1
    repeat' (first|with_reducible (first|apply Stp.go|refine imp fun _=>?_|(refine need ?_ ?_;first|trivial|omega|exact ⟨by assumption,by omega⟩|(simp only [zL,zM];omega))|refine choT (by assumption) ?_|refine choF (by assumption) ?_|refine choF' (by assumption) ?_|(refine altT ?_ ?_;first|omega|(simp only [zL,zM];omega))|refine altF ?_|refine all fun _=>?_|refine both ?_ ?_|(refine hyp ?_ ?_;first|assumption|exact leftT_mem (by assumption))|(refine choT ?_ ?_;omega)|(refine choF ?_ ?_;omega)|refine cho (fun _=>?_) fun _=>?_)|(with_reducible refine fact ?_ ?_;first|trivial|exact ⟨rfl,rfl⟩|kernel_rfl))
    rename_i v0
    refine loopI (β := Value × List En × List Nat) (fun x => (x.2.1 ++ (((leftT L x.2.2).map (·.2.2)).filter fun e => !e.del)).Perm ((L.map (·.2.2)).filter fun e => !e.del)) (fun x => [.own x.1 x.2.1.length, ptrAt v0 0])
      (fun x => [.iter v0 mb c x.2.2 c, .row x.1 50 4 (x.2.1.map En.av) 0, .map mb (mkM keyS En.av L) c]) (fun x => (leftT L x.2.2).length) (.slice none 0 0, [], []) ?_ ?_ ?_
    · dsimp only
      rw [left_nil]
      exact List.Perm.refl _
    · exact (Sub.nil_own 50 (sz := 4) (by decide) _ [] [_]).trans (Sub.perm (List.Perm.swap _ _ _) _)
    · rintro ⟨v, o, seen⟩ hp
      dsimp only at hp ⊢
      have hol : o.length ≤ L.length := by
        have := hp.length_eq
        have h2 := List.length_filter_le (fun e : En => !e.del) (L.map (·.2.2))
        simp only [List.length_append, List.length_map] at this h2
        omega
      repeat' (first|with_reducible (first|apply Stp.go|refine imp fun _=>?_|(refine need ?_ ?_;first|trivial|omega|exact ⟨by assumption,by omega⟩|(simp only [zL,zM];omega))|refine choT (by assumption) ?_|refine choF (by assumption) ?_|refine choF' (by assumption) ?_|(refine altT ?_ ?_;first|omega|(simp only [zL,zM];omega))|refine altF ?_|refine all fun _=>?_|refine both ?_ ?_|(refine hyp ?_ ?_;first|assumption|exact leftT_mem (by assumption))|(refine choT ?_ ?_;omega)|(refine choF ?_ ?_;omega)|refine cho (fun _=>?_) fun _=>?_)|(with_reducible refine fact ?_ ?_;first|trivial|exact ⟨rfl,rfl⟩|kernel_rfl))
      · rename_i h0 o' hq
        rw [h0, List.map_nil, List.filter_nil, List.append_nil] at hp
        have e1 : o' = wholeT rows := ht.sortedP hF (hq.1.trans hp) hq.2
        have e2 : o.length = (wholeT rows).length := by rw [← e1]; exact hq.1.length_eq.symm
        subst e1
        rw [e2]
        exact ⟨_, _, _, rfl, retOwn (Sub.app_nil _), rfl, rfl⟩
      · rename_i x hx t hd
        have hlt := left_take ht.nb hx
        have hf := (hlt.map (·.2.2)).filter fun e => !e.del
        rw [List.map_cons, List.filter_cons_of_neg (by rw [hd]; decide)] at hf
        refine again (v, o, seen ++ [x.1]) ?_ ((hf.symm.append_left o).trans hp) (subS _)
        have := hlt.length_eq
        simp only [List.length_cons] at this
        dsimp only
        omega
      · rename_i x hx t hd w
        have hlt := left_take ht.nb hx
        have hf := (hlt.map (·.2.2)).filter fun e => !e.del
        rw [List.map_cons, List.filter_cons_of_pos (by rw [Bool.eq_false_iff.2 hd]; rfl)] at hf
        refine again (w, o ++ [x.2.2], seen ++ [x.1]) ?_ ?_ (subS _)
        · have := hlt.length_eq
          simp only [List.length_cons] at this
          dsimp only
          omega
        · dsimp only
          rw [List.append_assoc]
          exact (hf.symm.append_left o).trans hp
end Go.Ab

/- Layer 17: what must be in any case; MoveFlushes. -/
set_option linter.unusedVariables false
set_option linter.unusedSimpArgs false
namespace Go.Ab
theorem lvlT_few {l : List TabR} (h : l.length ≤ 4) : lvlT l = 3 := lvlT_none fun j hj => by
  have h1 := ownP_len l j
  unfold hot
  rw [decide_eq_false_iff_not]
  have h2 : 4 ≤ capT j := by unfold capT; split <;> decide
  omega
def law17_shown.mark : Mark := ⟨fun t => Nat.beq t 15 || Nat.beq t 21 || Nat.beq t 27, fun t => false, fun t => false, fun t => Nat.beq t 38 || Nat.beq t 45, fun t => false⟩
def law17_shown.ann : Ann := ⟨fun n => [], fun n => none, fun n => none⟩
/-- 'marlstone/marlstonelaw17.shown' -/
def law17_shown.sh (σ : Store) (Q : AEnd → Store → Prop) : Prop :=
  Do (aLit [.val (.int .i64 0)] [(0, 1)] [(0, (.val (.int .i64 256)))]) fun t10 =>
  aNewVar 27 [.val (.int .i64 0)] σ fun t1 σ =>
  storeA 1 t1 t10 σ fun u σ_1 =>
  Do (loadA true 1 t1 σ_1) fun t12 =>
  Do (aLit [.val (.string ⟨#[]⟩), .val (.string ⟨#[]⟩), .val (.bool false), .val (.int .i64 0)] [(0, 1), (1, 1), (2, 1), (3, 1)] [(0, (.val (.string ⟨#[97]⟩))), (3, (.val (.int .i64 1)))]) fun t13 =>
  Do (aSlLit (mkE [.val (.string ⟨#[]⟩), .val (.string ⟨#[]⟩), .val (.bool false), .val (.int .i64 0)]) 4 1 [(0, t13)]) fun t14 =>
  Do (aPureC Go.Proofs.Tryz.prog 20 [t12, (.val (.slice none 0 0)), t14]) fun t15 =>
  Do (aExt t15 0) fun t16 =>
  Do (aExt t15 1) fun t17 =>
  Do (loadA true 1 t1 σ_1) fun t19 =>
  Do (aPureC Go.Proofs.Tryz.prog 13 [t19, t16, (.val (.slice none 0 0))]) fun t21 =>
  Do (aExt t21 0) fun t22 =>
  Do (aExt t21 1) fun t23 =>
  Do (aExt t21 2) fun t24 =>
  Do (aPureC Go.Proofs.Tryz.prog 9 [t16]) fun t27 =>
  Do (aExt t27 0) fun t28 =>
  Do (aExt t27 1) fun t29 =>
  Do (aExt t27 2) fun t30 =>
  Do (aBuiltin Go.Proofs.Tryz.prog .len #[24] [t16]) fun t32 =>
  Do (aBin Go.Proofs.Tryz.prog .eql 3 t32 (.val (.int .i64 1))) fun t33 =>
  Do (aGuard t33 true (aIs t16)) fun t35 =>
  Do (aGuard t33 true (aIndexAddr .slice 36 t35 (.val (.int .i64 0)))) fun t36 =>
  Do (aGuard t33 true (aFieldAddr 0 1 t36)) fun t37 =>
  Do (aGuard t33 true (loadF false 1 t37)) fun t38 =>
  Do (aGuard t33 true (aBin Go.Proofs.Tryz.prog .eql 3 t38 (.val (.int .i64 0)))) fun t39 =>
  Do (aPick t33 t39 (.val (.bool false))) fun t40 =>
  Do (aGuard t40 true (aIs t16)) fun t42 =>
  Do (aGuard t40 true (aIndexAddr .slice 36 t42 (.val (.int .i64 0)))) fun t43 =>
  Do (aGuard t40 true (aFieldAddr 1 1 t43)) fun t44 =>
  Do (aGuard t40 true (loadF false 1 t44)) fun t45 =>
  Do (aGuard t40 true (aBin Go.Proofs.Tryz.prog .eql 3 t45 (.val (.int .i64 1)))) fun t46 =>
  Do (aPick t40 t46 (.val (.bool false))) fun t47 =>
  Do (aGuard t47 true (aIs t17)) fun t49 =>
  Do (aGuard t47 true (aBin Go.Proofs.Tryz.prog .eql 35 t49 (.val (.int .i64 0)))) fun t50 =>
  Do (aPick t47 t50 (.val (.bool false))) fun t51 =>
  Do (aGuard t51 true (aIs t24)) fun t53 =>
  Do (aGuard t51 true (aBin Go.Proofs.Tryz.prog .eql 35 t53 (.val (.int .i64 5)))) fun t54 =>
  Do (aPick t51 t54 (.val (.bool false))) fun t55 =>
  Do (aGuard t55 true (aIs t30)) fun t57 =>
  Do (aGuard t55 true (aUn Go.Proofs.Tryz.prog .not t57)) fun t58 =>
  Do (aPick t55 t58 (.val (.bool false))) fun t59 =>
  Q (.ret t59) σ_1
theorem law17_shown.eq (σ : Store) (Q : AEnd → Store → Prop) : vc (semOf Go.Proofs.Tryz.prog law17_shown.mark) Go.Proofs.Tryz.f7.ntmps law17_shown.ann (bodyOf Go.Proofs.Tryz.f7) (endK [.tmp 0] Q) (argFr []) σ = law17_shown.sh  σ Q := by kernel_rfl
theorem law17_shown.go {σ : Store} {Q : AEnd → Store → Prop} (h : law17_shown.sh  σ Q) : ACalls Go.Proofs.Tryz.prog 7 [] σ Q :=
  acalls_of_eq [.tmp 0] Go.Proofs.Tryz.func7 (by kernel_rfl) (by kernel_rfl) (by kernel_rfl) (by kernel_rfl) (law17_shown.eq  σ Q) h
theorem shown17_ok : aPure Go.Proofs.Tryz.prog 7 [] (B true) := by
  refine ACalls.fin (law17_shown.go ?_)
  unfold law17_shown.sh
  have hf : fit [⟨[97], [], false, 1⟩] = true := by decide
  have hF : flushT 256 [] [⟨[97], [], false, 1⟩] = ([newT 256 0 [⟨[97], [], false, 1⟩]], 0) := by
    unfold flushT
    rw [if_pos ⟨by decide, hf⟩]
    rfl
  obtain ⟨N, hN⟩ : ∃ N, N = newT 256 0 [⟨[97], [], false, 1⟩] := ⟨_, rfl⟩
  have n1 : N.lev = 0 := by rw [hN]; rfl
  have n2 : N.cnt = 1 := by rw [hN]; rfl
  have n3 : N.fst = [97] := by rw [hN]; rfl
  have n4 : N.lst = [97] := by rw [hN]; rfl
  rw [← hN] at hF
  clear hN
  have hr : rightT [N] = true := by
    unfold rightT
    rw [Bool.and_eq_true, decide_eq_true_eq, decide_eq_true_eq]
    refine ⟨fun i hi => ?_, by simp⟩
    have : i = 0 := by simpa using hi
    subst this
    unfold okT
    show (mayT N && (decide (0 = 0) || _)) = true
    unfold mayT
    rw [n1, n2, n3, n4]
    rfl
  have hc : lvlT [N] = 3 := lvlT_few (by simp)
  have iF : ∀ {a c : AV} {m m' : SM} [h : IsL a tbF 36 ([] : List TabR) m] [h' : IsL c En.av 4 [⟨[97], [], false, 1⟩] m'], PC Go.Proofs.Tryz.prog 20 [trA 256, a, c] True (.tuple [.lst 36 ([N].map tbF) .ro, I .i64 (0 : Nat)]) := fun {a c m m'} h h' => ⟨fun _ => by
    have := (inferInstance : PC Go.Proofs.Tryz.prog 20 [trA 256, a, c] _ _).ct ⟨by decide, by decide⟩
    rw [hF] at this
    exact this⟩
  have iI : PC Go.Proofs.Tryz.prog 9 [.lst 36 ([N].map tbF) .ro] True (.tuple [.lst 1 (([] : List Int).map it) .ro, I .i64 0, B false]) := ⟨fun _ => PC.of (by have := Inputs_ok [N] .ro (by simp); unfold inputsR pickR at this; rw [if_pos hr, hc, if_neg (by decide)] at this; exact this)⟩
  have hC := Compact_ok 256 [N] [] .ro .nil (by simp) (by simp) (fun r hr => by cases hr)
  unfold compactT at hC
  rw [if_pos hr, hc, if_neg (by decide)] at hC
  have iC : PC Go.Proofs.Tryz.prog 13 [trA 256, .lst 36 ([N].map tbF) .ro, .val (.slice none 0 0)] True (.tuple [.lst 36 (([] : List TabR).map tbF) .ro, .lst 1 (([] : List (List En)).map enL) .ro, I .i64 ((5 : Nat) : Int)]) := ⟨fun _ => ⟨[trA 256, .lst 36 ([N].map tbF) .ro, .lst 1 (([] : List (List En)).map enL) .nil], ⟨SubV.refl _, SubV.refl _, SubV.nil 1 (by decide), trivial⟩, hC⟩⟩
  repeat' (first|with_reducible (first|apply Stp.go|refine imp fun _=>?_|(refine need ?_ ?_;first|trivial|omega|exact ⟨by assumption,by omega⟩|(simp only [zL,zM];omega))|refine choT (by assumption) ?_|refine choF (by assumption) ?_|refine choF' (by assumption) ?_|(refine altT ?_ ?_;first|omega|(simp only [zL,zM];omega))|refine altF ?_|refine all fun _=>?_|refine both ?_ ?_|(refine choT ?_ ?_;omega)|(refine choF ?_ ?_;omega)|refine cho (fun _=>?_) fun _=>?_)|(with_reducible refine fact ?_ ?_;first|trivial|exact ⟨rfl,rfl⟩|kernel_rfl))
  all_goals first
    | exact ⟨_, _, _, rfl, Sub.app_nil _, rfl, rfl⟩
    | (exfalso; simp_all; done)
instance : PC Go.Proofs.Tryz.prog 7 [] True (B true) := ⟨fun _ => PC.of shown17_ok⟩
end Go.Ab

/- A merge keeps what a store has. No program in sight. -/
set_option linter.unusedVariables false
set_option linter.unusedSimpArgs false
namespace Go.Ab
theorem Inter.filter {α : Type} {p : α → Bool} : ∀ {s t o : List α}, Inter s t o → Inter (s.filter p) (t.filter p) (o.filter p)
  | _, _, _, .nil => .nil
  | _, _, _, .left x h => by
    rw [List.filter_cons, List.filter_cons]
    split
    · exact .left x (Inter.filter h)
    · exact Inter.filter h
  | _, _, _, .right x h => by
    rw [List.filter_cons, List.filter_cons]
    split
    · exact .right x (Inter.filter h)
    · exact Inter.filter h
theorem Inter.map {α β : Type} (f : α → β) : ∀ {s t o : List α}, Inter s t o → Inter (s.map f) (t.map f) (o.map f)
  | _, _, _, .nil => .nil
  | _, _, _, .left x h => .left _ (Inter.map f h)
  | _, _, _, .right x h => .right _ (Inter.map f h)
theorem Inter.of_filter {α : Type} (q : α → Bool) : ∀ xs : List α, Inter (xs.filter fun x => !q x) (xs.filter q) xs
  | [] => .nil
  | x :: xs => by
    cases h : q x with
    | true =>
      rw [List.filter_cons_of_neg (by rw [h]; decide), List.filter_cons_of_pos h]
      exact .right x (Inter.of_filter q xs)
    | false =>
      rw [List.filter_cons_of_pos (by rw [h]; decide), List.filter_cons_of_neg (by rw [h]; decide)]
      exact .left x (Inter.of_filter q xs)
/-- Tables and rows, as pairs. -/
abbrev Pr := TabR × List En
def atL (j : Int) (z : Pr) : Bool := decide (z.1.lev = j)
/-- What the rows of a level have of a key. -/
def firstZ (k : List UInt8) (zs : List Pr) : Option En := firstK k (zs.map (·.2))
theorem firstZ_cons (k : List UInt8) (z : Pr) (zs : List Pr) : firstZ k (z :: zs) = (getE k z.2).or (firstZ k zs) := firstK_cons k z.2 _
theorem firstZ_none {k : List UInt8} : ∀ {zs : List Pr}, (∀ z ∈ zs, getE k z.2 = none) → firstZ k zs = none
  | [], _ => rfl
  | z :: zs, h => by
    rw [firstZ_cons, h z List.mem_cons_self, firstZ_none fun y hy => h y (List.mem_cons_of_mem _ hy)]
    rfl
theorem firstZ_some {k : List UInt8} {e : En} : ∀ {zs : List Pr}, firstZ k zs = some e → ∃ z ∈ zs, getE k z.2 = some e
  | [], h => by cases h
  | z :: zs, h => by
    rw [firstZ_cons] at h
    cases hg : getE k z.2 with
    | some x =>
      rw [hg] at h
      injection h with h
      subst h
      exact ⟨z, List.mem_cons_self, hg⟩
    | none =>
      rw [hg] at h
      obtain ⟨y, hy, h2⟩ := firstZ_some (zs := zs) h
      exact ⟨y, List.mem_cons_of_mem _ hy, h2⟩
theorem firstZ_left {k : List UInt8} : ∀ {s t o : List Pr}, Inter s t o → (∀ z ∈ t, getE k z.2 = none) → firstZ k o = firstZ k s
  | _, _, _, .nil, _ => rfl
  | _, _, _, .left x h, ht => by rw [firstZ_cons, firstZ_cons, firstZ_left h ht]
  | _, _, _, .right x h, ht => by
    rw [firstZ_cons, ht x List.mem_cons_self, firstZ_left h fun y hy => ht y (List.mem_cons_of_mem _ hy)]
    rfl
theorem firstZ_right {k : List UInt8} : ∀ {s t o : List Pr}, Inter s t o → (∀ z ∈ s, getE k z.2 = none) → firstZ k o = firstZ k t
  | _, _, _, .nil, _ => rfl
  | _, _, _, .right x h, ht => by rw [firstZ_cons, firstZ_cons, firstZ_right h ht]
  | _, _, _, .left x h, ht => by
    rw [firstZ_cons, ht x List.mem_cons_self, firstZ_right h fun y hy => ht y (List.mem_cons_of_mem _ hy)]
    rfl
/-- Levels stand behind one another. -/
def Lev (zs : List Pr) : Prop := (∀ z ∈ zs, 0 ≤ z.1.lev ∧ z.1.lev < 4) ∧ zs.Pairwise fun a b => a.1.lev ≤ b.1.lev
theorem or_assoc4 (a b c : Option En) : (a.or b).or c = a.or (b.or c) := by cases a <;> rfl
theorem firstZ_levels (k : List UInt8) : ∀ {zs : List Pr}, Lev zs → firstZ k zs = (firstZ k (zs.filter (atL 0))).or ((firstZ k (zs.filter (atL 1))).or ((firstZ k (zs.filter (atL 2))).or (firstZ k (zs.filter (atL 3)))))
  | [], _ => rfl
  | z :: zs, h => by
    obtain ⟨h1, h2⟩ := h
    obtain ⟨h3, h4⟩ := List.pairwise_cons.1 h2
    have ih := firstZ_levels k (zs := zs) ⟨fun y hy => h1 y (List.mem_cons_of_mem _ hy), h4⟩
    have hz := h1 z List.mem_cons_self
    have hno : ∀ j : Int, j < z.1.lev → firstZ k (zs.filter (atL j)) = none := fun j hj => firstZ_none fun y hy => by
      obtain ⟨g1, g2⟩ := List.mem_filter.1 hy
      have := h3 y g1
      unfold atL at g2
      rw [decide_eq_true_eq] at g2
      omega
    have hf : ∀ j : Int, (z :: zs).filter (atL j) = if z.1.lev = j then z :: zs.filter (atL j) else zs.filter (atL j) := fun j => by
      rw [List.filter_cons]
      unfold atL
      by_cases e : z.1.lev = j
      · simp [e]
      · simp [e]
    rw [firstZ_cons, ih, hf, hf, hf, hf]
    have hc : z.1.lev = 0 ∨ z.1.lev = 1 ∨ z.1.lev = 2 ∨ z.1.lev = 3 := by omega
    rcases hc with e | e | e | e
    · rw [if_pos e, if_neg (by omega), if_neg (by omega), if_neg (by omega), firstZ_cons, or_assoc4]
    · rw [hno 0 (by omega), if_neg (by omega), if_pos e, if_neg (by omega), if_neg (by omega), hno 0 (by omega), firstZ_cons, Option.none_or, Option.none_or, or_assoc4]
    · rw [hno 0 (by omega), hno 1 (by omega), if_neg (by omega), if_neg (by omega), if_pos e, if_neg (by omega), hno 0 (by omega), hno 1 (by omega), firstZ_cons, Option.none_or, Option.none_or, Option.none_or, Option.none_or, or_assoc4]
    · rw [hno 0 (by omega), hno 1 (by omega), hno 2 (by omega), if_neg (by omega), if_neg (by omega), if_neg (by omega), if_pos e, hno 0 (by omega), hno 1 (by omega), hno 2 (by omega), firstZ_cons, Option.none_or, Option.none_or, Option.none_or, Option.none_or, Option.none_or, Option.none_or]
/-! The pairs of a store, of what stays, of what is merged, of the parts. -/
def pairAt (l : List TabR) (rows : List (List En)) (i : Nat) : Pr := (l.getD i default, rows.getD i default)
def stayZ (l : List TabR) (rows : List (List En)) (k : Nat) : List Pr := ((List.range l.length).filter fun i => !inP l k i).map (pairAt l rows)
def inZ (l : List TabR) (rows : List (List En)) (k : Nat) : List Pr := (inK l k).map (pairAt l rows)
def allZ (l : List TabR) (rows : List (List En)) : List Pr := (List.range l.length).map (pairAt l rows)
def partZ (b : Int) (k : Nat) (P : List (List En)) : List Pr := P.map fun p => (newT b (k + 1) p, p)
theorem all_inter (l : List TabR) (rows : List (List En)) (k : Nat) : Inter (stayZ l rows k) (inZ l rows k) (allZ l rows) := (Inter.of_filter (inP l k) (List.range l.length)).map _
theorem range_getD {α : Type} [Inhabited α] (l : List α) : (List.range l.length).map (fun i => l.getD i default) = l := by
  apply List.ext_getElem?
  intro i
  rw [List.getElem?_map]
  by_cases h : i < l.length
  · rw [List.getElem?_eq_getElem (by rw [List.length_range]; exact h), List.getElem_range, List.getElem?_eq_getElem h]
    simp [List.getD_eq_getElem?_getD, List.getElem?_eq_getElem h]
  · rw [List.getElem?_eq_none (by rw [List.length_range]; omega), List.getElem?_eq_none (by omega)]
    rfl
theorem all_snd {l : List TabR} {rows : List (List En)} (h : rows.length = l.length) : (allZ l rows).map (·.2) = rows := by
  unfold allZ
  rw [List.map_map]
  have := range_getD rows
  rw [h] at this
  exact this
theorem in_snd (l : List TabR) (rows : List (List En)) (k : Nat) : (inZ l rows k).map (·.2) = rowsIn l k rows := by
  unfold inZ rowsIn
  rw [List.map_map]; rfl
theorem mem_stayZ {l : List TabR} {rows : List (List En)} {k : Nat} {z : Pr} (h : z ∈ stayZ l rows k) : ∃ i, i < l.length ∧ i ∉ inK l k ∧ z = pairAt l rows i := by
  obtain ⟨i, h1, h2⟩ := List.mem_map.1 h
  obtain ⟨h3, h4⟩ := List.mem_filter.1 h1
  refine ⟨i, List.mem_range.1 h3, fun h5 => ?_, h2.symm⟩
  rw [(inK_mem.1 h5).2] at h4
  cases h4
theorem mem_inZ {l : List TabR} {rows : List (List En)} {k : Nat} {z : Pr} (h : z ∈ inZ l rows k) : ∃ i ∈ inK l k, z = pairAt l rows i := by
  obtain ⟨i, h1, h2⟩ := List.mem_map.1 h
  exact ⟨i, h1, h2.symm⟩
theorem key_ends {b : Int} {x : TabR} {r : List En} (h : OkRow b x r) {k : List UInt8} {e : En} (he : getE k r = some e) : lt k x.fst = false ∧ lt x.lst k = false := by
  obtain ⟨h1, h2⟩ := getE_mem he
  rw [← h2]
  exact h.ends h1
end Go.Ab

/- A merge keeps what a store has: key by key. No program in sight. -/
set_option linter.unusedVariables false
set_option linter.unusedSimpArgs false
namespace Go.Ab
theorem placed_zip {b : Int} {k : Nat} : ∀ {T nx : List TabR} {S P : List (List En)}, Inter T (P.map (newT b k)) nx → S.length = T.length → (∀ p ∈ P, fit p = true) → (∀ t ∈ T, ∀ p ∈ P, t ≠ newT b k p) →
    Inter (T.zip S) (P.map fun p => (newT b k p, p)) (nx.zip (placedF (k : Nat) nx T S P)) ∧ (placedF (k : Nat) nx T S P).length = nx.length := by
  intro T nx S P hi
  generalize hQ : P.map (newT b k) = Q at hi
  induction hi generalizing S P with
  | nil =>
    intro hT hP hd
    have : P = [] := List.map_eq_nil_iff.1 hQ
    subst this
    exact ⟨.nil, rfl⟩
  | @left s t o x h ih =>
    intro hT hP hd
    cases S with
    | nil => cases hT
    | cons r rows =>
      obtain ⟨i1, i2⟩ := ih hQ (Nat.succ.inj hT) hP fun t ht p hp => hd t (List.mem_cons_of_mem _ ht) p hp
      have hc : isPart (k : Nat) x (x :: s) P = false := by
        unfold isPart
        simp
      have e : placedF (k : Nat) (x :: o) (x :: s) (r :: rows) P = r :: placedF (k : Nat) o s rows P := by
        show (if isPart (k : Nat) x (x :: s) P = true then _ else if 0 < (r :: rows).length then _ else _) = _
        rw [if_neg (by rw [hc]; decide), if_pos (show 0 < (r :: rows).length from Nat.succ_pos _)]
        rfl
      rw [e]
      exact ⟨.left _ i1, by rw [List.length_cons, List.length_cons, i2]⟩
  | @right s t o x h ih =>
    intro hT hP hd
    cases P with
    | nil => cases hQ
    | cons p P =>
      rw [List.map_cons] at hQ
      injection hQ with e1 e2
      obtain ⟨i1, i2⟩ := ih e2 hT (fun q hq => hP q (List.mem_cons_of_mem _ hq)) fun t ht q hq => hd t ht q (List.mem_cons_of_mem _ hq)
      have hpf := hP p List.mem_cons_self
      have hp0 := (fit_right hpf).2.1
      have hc : isPart (k : Nat) x s (p :: P) = true := by
        unfold isPart
        rw [← e1]
        have a1 : (p :: P).getD 0 default = p := rfl
        rw [a1, decide_eq_true (show 0 < (p :: P).length from Nat.succ_pos _), decide_eq_true (show (newT b k p).lev = ((k : Nat) : Int) from rfl), decide_eq_true hp0, decide_eq_true (show (newT b k p).fst = (p.getD 0 default).key from rfl)]
        cases s with
        | nil => rfl
        | cons y s =>
          rw [decide_eq_false (show ¬ newT b k p = (y :: s).getD 0 default from fun e => hd y List.mem_cons_self p List.mem_cons_self e.symm)]
          simp
      have e : placedF (k : Nat) (x :: o) s S (p :: P) = p :: placedF (k : Nat) o s S P := by
        show (if isPart (k : Nat) x s (p :: P) = true then _ else _) = _
        rw [if_pos hc]
        rfl
      rw [e, ← e1]
      exact ⟨.right _ i1, by rw [List.length_cons, List.length_cons, i2]⟩
theorem all_zip {l : List TabR} {rows : List (List En)} (h : rows.length = l.length) : allZ l rows = l.zip rows := by
  have h1 := range_getD l
  have h2 := range_getD rows
  rw [h] at h2
  unfold allZ pairAt
  conv => rhs; rw [← h1, ← h2]
  rw [List.zip_map']
theorem stay_zip (l : List TabR) (rows : List (List En)) (k : Nat) : (stayT l ((inK l k).map Int.ofNat) l.length).zip (stayR rows ((inK l k).map Int.ofNat) l.length) = stayZ l rows k := by
  unfold stayT stayR stayZ pairAt
  rw [List.zip_map']
  congr 1
  apply List.filter_congr
  intro i hi
  have hi := List.mem_range.1 hi
  have : (((i : Nat) : Int) ∈ (inK l k).map Int.ofNat) ↔ inP l k i = true := by
    rw [mem_map_nat, inK_mem]
    exact ⟨fun h => h.2, fun h => ⟨hi, h⟩⟩
  by_cases hp : inP l k i = true
  · rw [decide_eq_true (this.2 hp), hp]
  · rw [decide_eq_false fun h => hp (this.1 h), Bool.eq_false_iff.2 hp]
/-- The pairs of a store behind a merge. -/
theorem merged_zip {b : Int} {l : List TabR} {rows : List (List En)} (h : StoreOk b l rows) (hk : lvlT l < 3) :
    Inter (stayZ l rows (lvlT l)) (partZ b (lvlT l) (partsT (lvlT l) (rowsIn l (lvlT l) rows))) (allZ (mergedT b l rows).1 (mergedT b l rows).2) ∧ (mergedT b l rows).2.length = (mergedT b l rows).1.length := by
  have hR := rowsIn_ok (k := lvlT l) h
  obtain ⟨h1, h2, h3⟩ := next_all h.right hk hR
  obtain ⟨hm, hp, _⟩ := (rightT_iff l).1 h.right
  have hf : ∀ r ∈ rowsIn l (lvlT l) rows, fit r = true := fun r hr => hR.fit hr
  have hd : ∀ t ∈ stayT l ((inK l (lvlT l)).map Int.ofNat) l.length, ∀ p ∈ partsT (lvlT l) (rowsIn l (lvlT l) rows), t ≠ newT b (lvlT l + 1) p := fun t ht p hp' e => by
    have hx : newT b (lvlT l + 1) p ∈ (partsT (lvlT l) (rowsIn l (lvlT l) rows)).map (newT b (lvlT l + 1)) := List.mem_map.2 ⟨p, hp', rfl⟩
    have hmay := mayT_new (b := b) (k := lvlT l + 1) (parts_fit hf hp') (by omega)
    have h0 : 0 < (newT b (lvlT l + 1) p).lev := by show (0 : Int) < ((lvlT l + 1 : Nat) : Int); omega
    rcases tabs_apart hm hp hR hx ht with g | g
    · rw [e] at g; exact Beh.asymm hmay hmay h0 g g
    · rw [e] at g; exact Beh.asymm hmay hmay h0 g g
  have hlen := stayR_len l rows ((inK l (lvlT l)).map Int.ofNat) l.length
  obtain ⟨g1, g2⟩ := placed_zip (b := b) (k := lvlT l + 1) h3 hlen (fun p hp => parts_fit hf hp) hd
  rw [stay_zip] at g1
  have e : (mergedT b l rows).2 = placedF ((lvlT l + 1 : Nat) : Int) (nextT b l (lvlT l) (rowsIn l (lvlT l) rows)) (stayT l ((inK l (lvlT l)).map Int.ofNat) l.length) (stayR rows ((inK l (lvlT l)).map Int.ofNat) l.length) (partsT (lvlT l) (rowsIn l (lvlT l) rows)) := rfl
  have e2 : (mergedT b l rows).1 = nextT b l (lvlT l) (rowsIn l (lvlT l) rows) := rfl
  refine ⟨?_, by rw [e, e2]; exact g2⟩
  rw [all_zip (by rw [e, e2]; exact g2), e, e2]
  exact g1
theorem lev_all {l : List TabR} {rows : List (List En)} (h : rightT l = true) : Lev (allZ l rows) := by
  obtain ⟨hm, hp, _⟩ := (rightT_iff l).1 h
  refine ⟨fun z hz => ?_, ?_⟩
  · obtain ⟨i, hi, rfl⟩ := List.mem_map.1 hz
    have := mayT_lev (hm _ (getD_memT (List.mem_range.1 hi)))
    exact ⟨this.1, this.2.1⟩
  · have h2 : (allZ l rows).map (·.1) = l := by
      unfold allZ
      rw [List.map_map]
      exact range_getD l
    have h3 : ((allZ l rows).map (·.1)).Pairwise fun x y => x.lev ≤ y.lev := by
      rw [h2]
      exact hp.imp fun {x y} hxy => by
        rcases hxy with g | ⟨g, _⟩ <;> omega
    rw [List.pairwise_map] at h3
    exact h3
theorem in_sub (l : List TabR) (rows : List (List En)) (k : Nat) : (inZ l rows k).Sublist (allZ l rows) := List.filter_sublist.map _
theorem Lev.sub {a b : List Pr} (h : Lev b) (hs : a.Sublist b) : Lev a := ⟨fun z hz => h.1 z (hs.subset hz), h.2.sublist hs⟩
theorem filter_none {α : Type} {p : α → Bool} {l : List α} (h : ∀ x ∈ l, p x = false) : l.filter p = [] := by
  rw [List.filter_eq_nil_iff]
  intro x hx
  rw [h x hx]
  decide
/-- No merge changes what there is of a key. -/
theorem keep_key {b : Int} {l : List TabR} {rows : List (List En)} (h : StoreOk b l rows) (hk : lvlT l < 3) (key : List UInt8) :
    (firstK key (mergedT b l rows).2).filter (fun e => !e.del) = (firstK key rows).filter fun e => !e.del := by
  have hR := rowsIn_ok (k := lvlT l) h
  obtain ⟨hm, hpw, _⟩ := (rightT_iff l).1 h.right
  have hf : ∀ r ∈ rowsIn l (lvlT l) rows, fit r = true := fun r hr => hR.fit hr
  obtain ⟨I2, hlen2⟩ := merged_zip h hk
  have hso := (merged_all h hk).1
  have L1 := lev_all (rows := rows) h.right
  have L2 := lev_all (rows := (mergedT b l rows).2) hso.right
  have I1 := all_inter l rows (lvlT l)
  have hok : ∀ i, i < l.length → OkRow b (l.getD i default) (rows.getD i default) := h.tells.at_
  have hrows : firstK key rows = firstZ key (allZ l rows) := by unfold firstZ; rw [all_snd h.tells.len]
  have hrows2 : firstK key (mergedT b l rows).2 = firstZ key (allZ (mergedT b l rows).1 (mergedT b l rows).2) := by unfold firstZ; rw [all_snd hlen2]
  rw [hrows, hrows2]
  have hhot := lvlT_hot hk
  generalize hkk : lvlT l = k at *
  generalize allZ (mergedT b l rows).1 (mergedT b l rows).2 = Z' at *
  clear hrows hrows2 hlen2 hso
  have hlevI : ∀ z ∈ inZ l rows k, z.1.lev = (k : Int) ∨ z.1.lev = (k : Int) + 1 := fun z hz => by
    obtain ⟨i, hi, rfl⟩ := mem_inZ hz
    exact in_lev hi
  have hlevP : ∀ z ∈ partZ b k (partsT k (rowsIn l k rows)), z.1.lev = (k : Int) + 1 := fun z hz => by
    obtain ⟨p, _, rfl⟩ := List.mem_map.1 hz
    rfl
  have hpv : firstZ key (partZ b k (partsT k (rowsIn l k rows))) = (firstZ key (inZ l rows k)).filter fun e => !(decide (k + 1 = 3) && e.del) := by
    have e1 : firstZ key (partZ b k (partsT k (rowsIn l k rows))) = firstK key (partsT k (rowsIn l k rows)) := by
      unfold firstZ partZ
      rw [List.map_map, show ((·.2) ∘ fun p => (newT b (k + 1) p, p)) = (id : List En → List En) from rfl, List.map_id]
    have e2 : firstZ key (inZ l rows k) = firstK key (rowsIn l k rows) := by unfold firstZ; rw [in_snd]
    rw [e1, e2, ← getE_flatten]
    have e3 : (partsT k (rowsIn l k rows)).flatten = mergeL (decide (k + 1 = 3)) (rowsIn l k rows) := (splitL_join _).1
    rw [e3, merge_get fun r hr => fit_rises (hf r hr)]
  cases hc : firstZ key (inZ l rows k) with
  | none =>
    have hn : ∀ z ∈ inZ l rows k, getE key z.2 = none := by
      intro z hz
      cases hg : getE key z.2 with
      | none => rfl
      | some e =>
        exfalso
        have : ∀ {zs : List Pr}, z ∈ zs → firstZ key zs ≠ none := by
          intro zs
          induction zs with
          | nil => intro h; cases h
          | cons y zs ih =>
            intro hm h2
            rw [firstZ_cons] at h2
            rcases List.mem_cons.1 hm with rfl | hm
            · rw [hg] at h2; cases h2
            · cases hy : getE key y.2 with
              | none => rw [hy] at h2; exact ih hm h2
              | some x => rw [hy] at h2; cases h2
        exact this hz hc
    have hnp : ∀ z ∈ partZ b k (partsT k (rowsIn l k rows)), getE key z.2 = none := by
      intro z hz
      obtain ⟨p, hp, rfl⟩ := List.mem_map.1 hz
      refine getE_none fun x hx hxk => ?_
      obtain ⟨r, hr, hxr⟩ := parts_mem hf hp hx
      rw [← in_snd] at hr
      obtain ⟨z, hz, rfl⟩ := List.mem_map.1 hr
      have h1 := hn z hz
      obtain ⟨i, hi, rfl⟩ := mem_inZ hz
      have h2 := getE_of_mem (fit_rises (hok i (inK_mem.1 hi).1).fit) hxr
      rw [hxk] at h2
      rw [show getE key (pairAt l rows i).2 = some x from h2] at h1
      cases h1
    rw [firstZ_left I1 hn, firstZ_left I2 hnp]
  | some e0 =>
    rw [hc] at hpv
    obtain ⟨z1, hz1, hg1⟩ := firstZ_some hc
    obtain ⟨i1, hi1, rfl⟩ := mem_inZ hz1
    have hin1 := (inK_mem.1 hi1).1
    have hends1 := key_ends (hok i1 hin1) hg1
    -- no table of the next level that stays has the key
    have hs2 : ∀ z ∈ (stayZ l rows k).filter (atL ((k : Int) + 1)), getE key z.2 = none := by
      intro z hz
      obtain ⟨g1, g2⟩ := List.mem_filter.1 hz
      obtain ⟨i, hi, hni, rfl⟩ := mem_stayZ g1
      unfold atL at g2
      rw [decide_eq_true_eq] at g2
      cases hg : getE key (pairAt l rows i).2 with
      | none => rfl
      | some x =>
        exfalso
        have he := key_ends (hok i hi) hg
        rcases stay_apart hm hpw hi hni g2 with ha | ha
        · have := lt_of_ge he.2 (lt_of_lt (ha i1 hi1) hends1.1)
          rw [lt_irrefl] at this; cases this
        · have := lt_of_ge hends1.2 (lt_of_lt (ha i1 hi1) he.1)
          rw [lt_irrefl] at this; cases this
    have hother : ∀ j : Int, j ≠ (k : Int) → j ≠ (k : Int) + 1 → firstZ key ((allZ l rows).filter (atL j)) = firstZ key ((stayZ l rows k).filter (atL j)) := fun j h1 h2 => by
      refine firstZ_left I1.filter ?_
      rw [filter_none]
      · intro z hz; cases hz
      · intro z hz
        unfold atL
        rw [decide_eq_false_iff_not]
        rcases hlevI z hz with g | g <;> omega
    have hother2 : ∀ j : Int, j ≠ (k : Int) + 1 → firstZ key (Z'.filter (atL j)) = firstZ key ((stayZ l rows k).filter (atL j)) := fun j h2 => by
      refine firstZ_left I2.filter ?_
      rw [filter_none]
      · intro z hz; cases hz
      · intro z hz
        unfold atL
        rw [decide_eq_false_iff_not]
        have := hlevP z hz
        omega
    have hb1 : firstZ key (Z'.filter (atL ((k : Int) + 1))) = (some e0).filter fun e => !(decide (k + 1 = 3) && e.del) := by
      rw [firstZ_right I2.filter hs2, ← hpv, List.filter_eq_self.2]
      intro z hz
      unfold atL
      rw [decide_eq_true_eq]
      exact hlevP z hz
    have hb0 := hother2 (k : Int) (by omega)
    have ha1 : firstZ key ((allZ l rows).filter (atL ((k : Int) + 1))) = firstZ key ((inZ l rows k).filter (atL ((k : Int) + 1))) := firstZ_right I1.filter hs2
    -- the two levels together
    have hI : (firstZ key ((inZ l rows k).filter (atL (k : Int)))).or (firstZ key ((inZ l rows k).filter (atL ((k : Int) + 1)))) = some e0 := by
      have hl := firstZ_levels key (L1.sub (in_sub l rows k))
      have hno : ∀ j : Int, j ≠ (k : Int) → j ≠ (k : Int) + 1 → firstZ key ((inZ l rows k).filter (atL j)) = none := fun j h1 h2 => by
        rw [filter_none]
        · rfl
        · intro z hz
          unfold atL
          rw [decide_eq_false_iff_not]
          rcases hlevI z hz with g | g <;> omega
      rw [hc] at hl
      have hk3 : k = 0 ∨ k = 1 ∨ k = 2 := by omega
      rcases hk3 with rfl | rfl | rfl
      · rw [hno 2 (by decide) (by decide), hno 3 (by decide) (by decide), Option.or_none, Option.or_none] at hl
        exact hl.symm
      · rw [hno 0 (by decide) (by decide), hno 3 (by decide) (by decide), Option.none_or, Option.or_none] at hl
        exact hl.symm
      · rw [hno 0 (by decide) (by decide), hno 1 (by decide) (by decide), Option.none_or, Option.none_or] at hl
        exact hl.symm
    have hX : (firstZ key ((allZ l rows).filter (atL (k : Int)))).or (firstZ key ((allZ l rows).filter (atL ((k : Int) + 1)))) = (firstZ key ((stayZ l rows k).filter (atL (k : Int)))).or (some e0) := by
      rw [ha1]
      cases hc0 : firstZ key ((inZ l rows k).filter (atL (k : Int))) with
      | none =>
        rw [hc0, Option.none_or] at hI
        rw [hI]
        have : firstZ key ((allZ l rows).filter (atL (k : Int))) = firstZ key ((stayZ l rows k).filter (atL (k : Int))) := by
          refine firstZ_left I1.filter fun z hz => ?_
          cases hg : getE key z.2 with
          | none => rfl
          | some x =>
            exfalso
            have : ∀ {zs : List Pr}, z ∈ zs → firstZ key zs ≠ none := by
              intro zs
              induction zs with
              | nil => intro h; cases h
              | cons y zs ih =>
                intro hm h2
                rw [firstZ_cons] at h2
                rcases List.mem_cons.1 hm with rfl | hm
                · rw [hg] at h2; cases h2
                · cases hy : getE key y.2 with
                  | none => rw [hy] at h2; exact ih hm h2
                  | some x => rw [hy] at h2; cases h2
            exact this hz hc0
        rw [this]
      | some e1 =>
        rw [hc0] at hI
        have he : e1 = e0 := by injection hI
        subst he
        obtain ⟨z2, hz2, hg2⟩ := firstZ_some hc0
        obtain ⟨q1, q2⟩ := List.mem_filter.1 hz2
        obtain ⟨i2, hi2, rfl⟩ := mem_inZ q1
        unfold atL at q2
        rw [decide_eq_true_eq] at q2
        have hin2 := (inK_mem.1 hi2).1
        have hends2 := key_ends (hok i2 hin2) hg2
        have hs0 : ∀ z ∈ (stayZ l rows k).filter (atL (k : Int)), getE key z.2 = none := by
          intro z hz
          obtain ⟨g1, g2⟩ := List.mem_filter.1 hz
          obtain ⟨i, hi, hni, rfl⟩ := mem_stayZ g1
          unfold atL at g2
          rw [decide_eq_true_eq] at g2
          by_cases hk0 : k = 0
          · exfalso
            subst hk0
            refine hni (own_in ?_)
            unfold ownK
            rw [if_pos rfl]
            exact ownP_mem.2 ⟨hi, g2⟩
          · cases hg : getE key (pairAt l rows i).2 with
            | none => rfl
            | some x =>
              exfalso
              have he := key_ends (hok i hi) hg
              have hne : i ≠ i2 := fun e => hni (e ▸ hi2)
              have e1 : (l.getD i default).lev = (k : Int) := g2
              have e2 : (l.getD i2 default).lev = (k : Int) := q2
              rcases Nat.lt_or_gt_of_ne hne with g | g
              · have := beh_same (getD_beh hpw g hin2) (by omega) (by omega)
                have := lt_of_ge he.2 (lt_of_lt this hends2.1)
                rw [lt_irrefl] at this; cases this
              · have := beh_same (getD_beh hpw g hi) (by omega) (by omega)
                have := lt_of_ge hends2.2 (lt_of_lt this he.1)
                rw [lt_irrefl] at this; cases this
        rw [firstZ_right I1.filter hs0, hc0, firstZ_none hs0]
        rfl
    rw [firstZ_levels key L1, firstZ_levels key L2]
    have hk3 : k = 0 ∨ k = 1 ∨ k = 2 := by omega
    rcases hk3 with rfl | rfl | rfl
    · have g2 := hother 2 (by decide) (by decide)
      have g3 := hother 3 (by decide) (by decide)
      have g2' := hother2 2 (by decide)
      have g3' := hother2 3 (by decide)
      have x1 : firstZ key ((allZ l rows).filter (atL 0)) = firstZ key ((allZ l rows).filter (atL ((0 : Nat) : Int))) := rfl
      have x2 : firstZ key ((allZ l rows).filter (atL 1)) = firstZ key ((allZ l rows).filter (atL (((0 : Nat) : Int) + 1))) := rfl
      have x3 : firstZ key (Z'.filter (atL 0)) = firstZ key (Z'.filter (atL ((0 : Nat) : Int))) := rfl
      have x4 : firstZ key (Z'.filter (atL 1)) = firstZ key (Z'.filter (atL (((0 : Nat) : Int) + 1))) := rfl
      rw [← or_assoc4, ← or_assoc4 (firstZ key ((allZ l rows).filter (atL 0))), x1, x2, x3, x4, hX, hb0, hb1, g2, g3, g2', g3']
      rfl
    · have g0 := hother 0 (by decide) (by decide)
      have g3 := hother 3 (by decide) (by decide)
      have g0' := hother2 0 (by decide)
      have g3' := hother2 3 (by decide)
      have x1 : firstZ key ((allZ l rows).filter (atL 1)) = firstZ key ((allZ l rows).filter (atL ((1 : Nat) : Int))) := rfl
      have x2 : firstZ key ((allZ l rows).filter (atL 2)) = firstZ key ((allZ l rows).filter (atL (((1 : Nat) : Int) + 1))) := rfl
      have x3 : firstZ key (Z'.filter (atL 1)) = firstZ key (Z'.filter (atL ((1 : Nat) : Int))) := rfl
      have x4 : firstZ key (Z'.filter (atL 2)) = firstZ key (Z'.filter (atL (((1 : Nat) : Int) + 1))) := rfl
      rw [← or_assoc4 (firstZ key (Z'.filter (atL 1))), ← or_assoc4 (firstZ key ((allZ l rows).filter (atL 1))), x1, x2, x3, x4, hX, hb0, hb1, g0, g3, g0', g3']
      rfl
    · have g0 := hother 0 (by decide) (by decide)
      have g1 := hother 1 (by decide) (by decide)
      have g0' := hother2 0 (by decide)
      have g1' := hother2 1 (by decide)
      have x1 : firstZ key ((allZ l rows).filter (atL 2)) = firstZ key ((allZ l rows).filter (atL ((2 : Nat) : Int))) := rfl
      have x2 : firstZ key ((allZ l rows).filter (atL 3)) = firstZ key ((allZ l rows).filter (atL (((2 : Nat) : Int) + 1))) := rfl
      have x3 : firstZ key (Z'.filter (atL 2)) = firstZ key (Z'.filter (atL ((2 : Nat) : Int))) := rfl
      have x4 : firstZ key (Z'.filter (atL 3)) = firstZ key (Z'.filter (atL (((2 : Nat) : Int) + 1))) := rfl
      rw [x1, x2, x3, x4, hX, hb0, hb1, g0, g1, g0', g1']
      generalize firstZ key ((stayZ l rows 2).filter (atL 0)) = a0
      generalize firstZ key ((stayZ l rows 2).filter (atL 1)) = a1
      generalize firstZ key ((stayZ l rows 2).filter (atL ((2 : Nat) : Int))) = a2
      cases a0 with
      | some _ => rfl
      | none =>
        cases a1 with
        | some _ => rfl
        | none =>
          cases a2 with
          | some _ => rfl
          | none =>
            cases hd : e0.del <;> simp [Option.filter, hd]
/-- No merge changes what a store has. -/
theorem keep_whole {b : Int} {l : List TabR} {rows : List (List En)} (h : StoreOk b l rows) (hk : lvlT l < 3) : wholeT (mergedT b l rows).2 = wholeT rows :=
  whole_ext fun key => keep_key h hk key
end Go.Ab

/- New writes over a store; a merge's score falls; merges end. No program in sight. -/
set_option linter.unusedVariables false
set_option linter.unusedSimpArgs false
namespace Go.Ab
/-! New writes over what is there. -/
def overE (F : List En) (e : En) : List En := if e.del = true then F else putE e F
theorem getE_overE {F : List En} {e : En} {k : List UInt8} (h : Rises F) (hn : getE e.key F = none) : Rises (overE F e) ∧ getE k (overE F e) = if e.del = false ∧ e.key = k then some e else getE k F := by
  unfold overE
  by_cases hd : e.del = true
  · rw [if_pos hd]
    refine ⟨h, ?_⟩
    rw [if_neg]
    rintro ⟨h1, _⟩
    rw [hd] at h1; cases h1
  · rw [if_neg hd]
    refine ⟨putE_rises h, ?_⟩
    rw [getE_put h]
    by_cases hk : e.key = k
    · subst hk
      rw [if_pos rfl, if_pos ⟨Bool.eq_false_iff.2 hd, rfl⟩, hn]
      rfl
    · rw [if_neg hk, if_neg fun h => hk h.2]
theorem whole_len (rows : List (List En)) : (wholeT rows).length ≤ totL rows := by
  unfold wholeT
  refine Nat.le_trans (List.length_filter_le _ _) (Nat.le_trans (firsts_len _) ?_)
  induction rows with
  | nil => exact Nat.le_refl _
  | cons r rows ih =>
    rw [List.flatten_cons, List.length_append]
    show r.length + _ ≤ r.length + totL rows
    omega
/-! The score. -/
def weightT (x : TabR) : Int := x.cnt * if x.lev < 0 ∨ 4 ≤ x.lev then 0 else 3 - x.lev
def scoreT : List TabR → Int
  | [] => 0
  | x :: l => weightT x + scoreT l
theorem scoreT_append (a b : List TabR) : scoreT (a ++ b) = scoreT a + scoreT b := by
  induction a with
  | nil => simp [scoreT]
  | cons x a ih => show weightT x + scoreT (a ++ b) = weightT x + scoreT a + scoreT b; omega
theorem weightT_may {x : TabR} (h : mayT x = true) : weightT x = x.cnt * (3 - x.lev) ∧ 0 ≤ weightT x ∧ weightT x ≤ 192 := by
  have h1 := mayT_lev h
  have e : weightT x = x.cnt * (3 - x.lev) := by unfold weightT; rw [if_neg (by omega)]
  refine ⟨e, ?_, ?_⟩
  · rw [e]; exact Int.mul_nonneg (by omega) (by omega)
  · rw [e]
    have : x.lev = 0 ∨ x.lev = 1 ∨ x.lev = 2 ∨ x.lev = 3 := by omega
    rcases this with g | g | g | g <;> rw [g] <;> omega
theorem scoreT_le : ∀ {l : List TabR}, (∀ x ∈ l, mayT x = true) → 0 ≤ scoreT l ∧ scoreT l ≤ 192 * (l.length : Int)
  | [], _ => ⟨Int.le_refl _, Int.le_refl _⟩
  | x :: l, h => by
    have h1 := weightT_may (h x List.mem_cons_self)
    have h2 := scoreT_le (l := l) fun y hy => h y (List.mem_cons_of_mem _ hy)
    have e : scoreT (x :: l) = weightT x + scoreT l := rfl
    rw [e, List.length_cons]
    omega
/-- The score of pairs. -/
def scoreZ (zs : List Pr) : Int := scoreT (zs.map (·.1))
theorem scoreZ_inter : ∀ {s t o : List Pr}, Inter s t o → scoreZ o = scoreZ s + scoreZ t
  | _, _, _, .nil => rfl
  | _, _, _, .left x h => by
    have := scoreZ_inter h
    unfold scoreZ at *
    show weightT x.1 + scoreT _ = weightT x.1 + scoreT _ + scoreT _
    omega
  | _, _, _, .right x h => by
    have := scoreZ_inter h
    unfold scoreZ at *
    show weightT x.1 + scoreT _ = scoreT _ + (weightT x.1 + scoreT _)
    omega
theorem scoreZ_all (l : List TabR) (rows : List (List En)) : scoreZ (allZ l rows) = scoreT l := by
  unfold scoreZ allZ
  rw [List.map_map]
  congr 1
  exact range_getD l
theorem scoreZ_parts (b : Int) {k : Nat} (hk : k < 3) : ∀ P : List (List En), scoreZ (partZ b k P) = (totL P : Int) * (2 - (k : Int))
  | [] => by simp [scoreZ, partZ, scoreT, totL]
  | p :: P => by
    have ih := scoreZ_parts b hk P
    unfold scoreZ partZ at *
    show weightT (newT b (k + 1) p) + scoreT _ = ((p.length + totL P : Nat) : Int) * (2 - (k : Int))
    rw [ih]
    have e : weightT (newT b (k + 1) p) = (p.length : Nat) * (3 - ((k + 1 : Nat) : Int)) := by
      unfold weightT
      have e1 : (newT b (k + 1) p).lev = ((k + 1 : Nat) : Int) := rfl
      have e2 : (newT b (k + 1) p).cnt = (p.length : Nat) := rfl
      rw [e1, e2, if_neg (by omega)]
    rw [e, show ((p.length + totL P : Nat) : Int) = (p.length : Int) + (totL P : Int) by omega, Int.add_mul, show (3 : Int) - ((k + 1 : Nat) : Int) = 2 - (k : Int) by omega]
theorem totL_flatten : ∀ P : List (List En), totL P = P.flatten.length
  | [] => rfl
  | p :: P => by
    show p.length + totL P = _
    rw [List.flatten_cons, List.length_append, totL_flatten P]
theorem scoreZ_in {b : Int} {k : Nat} (hk : k < 3) : ∀ {zs : List Pr}, (∀ z ∈ zs, OkRow b z.1 z.2 ∧ (z.1.lev = (k : Int) ∨ z.1.lev = (k : Int) + 1)) →
    (totL (zs.map (·.2)) : Int) * (2 - (k : Int)) ≤ scoreZ zs ∧ ((∃ z ∈ zs, z.1.lev = (k : Int)) → (totL (zs.map (·.2)) : Int) * (2 - (k : Int)) + 1 ≤ scoreZ zs)
  | [], _ => ⟨by simp [scoreZ, scoreT, totL], fun ⟨z, hz, _⟩ => (by cases hz)⟩
  | z :: zs, h => by
    obtain ⟨h1, h2⟩ := h z List.mem_cons_self
    have ih := scoreZ_in hk (zs := zs) fun y hy => h y (List.mem_cons_of_mem _ hy)
    have hc := h1.cnt
    have hp := (fit_right h1.fit).2.1
    have e : weightT z.1 = (z.2.length : Nat) * (3 - z.1.lev) := by
      unfold weightT
      rw [hc, if_neg (by have := h1.lo; have := h1.hi; omega)]
    have es : scoreZ (z :: zs) = (z.2.length : Nat) * (3 - z.1.lev) + scoreZ zs := by
      unfold scoreZ
      show weightT z.1 + _ = _
      rw [e]
    have et : ((totL ((z :: zs).map (·.2)) : Nat) : Int) * (2 - (k : Int)) = (z.2.length : Nat) * (2 - (k : Int)) + (totL (zs.map (·.2)) : Int) * (2 - (k : Int)) := by
      show (((z.2.length + totL (zs.map (·.2)) : Nat)) : Int) * _ = _
      rw [Int.natCast_add, Int.add_mul]
    rw [es, et]
    rcases h2 with g | g
    · have e3 : ((z.2.length : Nat) : Int) * (3 - z.1.lev) = (z.2.length : Nat) * (2 - (k : Int)) + (z.2.length : Nat) := by
        rw [g, show (3 : Int) - (k : Int) = (2 - (k : Int)) + 1 by omega, Int.mul_add, Int.mul_one]
      rw [e3]
      exact ⟨by omega, fun _ => by omega⟩
    · have e3 : ((z.2.length : Nat) : Int) * (3 - z.1.lev) = (z.2.length : Nat) * (2 - (k : Int)) := by
        rw [g]; congr 1; omega
      rw [e3]
      refine ⟨by omega, fun ⟨y, hy, hl⟩ => ?_⟩
      rcases List.mem_cons.1 hy with rfl | hy
      · omega
      · have := ih.2 ⟨y, hy, hl⟩
        omega
theorem score_falls {b : Int} {l : List TabR} {rows : List (List En)} (h : StoreOk b l rows) (hk : lvlT l < 3) : scoreT (mergedT b l rows).1 < scoreT l := by
  obtain ⟨I2, hlen2⟩ := merged_zip h hk
  have I1 := all_inter l rows (lvlT l)
  have e1 := scoreZ_inter I1
  have e2 := scoreZ_inter I2
  rw [scoreZ_all] at e1 e2
  have hp := scoreZ_parts b hk (partsT (lvlT l) (rowsIn l (lvlT l) rows))
  have hin := scoreZ_in (b := b) hk (zs := inZ l rows (lvlT l)) fun z hz => by
    obtain ⟨i, hi, rfl⟩ := mem_inZ hz
    exact ⟨h.tells.at_ i (inK_mem.1 hi).1, in_lev hi⟩
  have hex : ∃ z ∈ inZ l rows (lvlT l), z.1.lev = (lvlT l : Int) := by
    have h0 := ownK_pos (lvlT_hot hk)
    have hm := headT_mem h0
    exact ⟨pairAt l rows _, List.mem_map.2 ⟨_, own_in hm, rfl⟩, (ownK_mem hm).2⟩
  have h3 := hin.2 hex
  rw [in_snd] at h3
  have h4 : totL (partsT (lvlT l) (rowsIn l (lvlT l) rows)) ≤ totL (rowsIn l (lvlT l) rows) := by
    rw [totL_flatten]
    have e3 : (partsT (lvlT l) (rowsIn l (lvlT l) rows)).flatten = mergeL (decide (lvlT l + 1 = 3)) (rowsIn l (lvlT l) rows) := (splitL_join _).1
    rw [e3]
    exact merge_le _ _ _ rfl
  have h5 : (totL (partsT (lvlT l) (rowsIn l (lvlT l) rows)) : Int) * (2 - (lvlT l : Int)) ≤ (totL (rowsIn l (lvlT l) rows) : Int) * (2 - (lvlT l : Int)) := Int.mul_le_mul_of_nonneg_right (by omega) (by omega)
  omega
/-! Merges end. -/
def cntL (j : Int) (l : List TabR) : Nat := (l.filter fun x => decide (x.lev = j)).length
theorem cntL_own (l : List TabR) (j : Nat) : cntL (j : Nat) l = (ownP l j).length := by
  unfold cntL ownP onP
  conv => lhs; rw [← range_getD l]
  rw [List.filter_map, List.length_map]
  rfl
theorem cntL_inter {s t o : List TabR} (j : Int) (h : Inter s t o) : cntL j o = cntL j s + cntL j t := by
  unfold cntL
  have := (h.filter (p := fun x => decide (x.lev = j))).perm.length_eq
  rw [List.length_append] at this
  exact this
theorem cntL_le (j : Int) (l : List TabR) : cntL j l ≤ l.length := List.length_filter_le _ _
/-- How far merges may still go. -/
def muT (l : List TabR) : Nat := (if hot l 0 = true then 15 else 0) + cntL 1 l
theorem muT_le (l : List TabR) : muT l ≤ 15 + l.length := by
  unfold muT
  have := cntL_le 1 l
  split <;> omega
theorem hot_iff (l : List TabR) (j : Nat) : hot l j = true ↔ capT j < cntL (j : Nat) l := by
  unfold hot
  rw [decide_eq_true_eq, cntL_own]
theorem mu_falls {b : Int} {l : List TabR} {rows : List (List En)} (h : StoreOk b l rows) (hk : lvlT l < 3) (hl : l.length ≤ 14) : muT (mergedT b l rows).1 < muT l := by
  have hR := rowsIn_ok (k := lvlT l) h
  obtain ⟨_, h2, h3⟩ := next_all h.right hk hR
  have hall := (Inter.of_filter (inP l (lvlT l)) (List.range l.length)).map fun i => l.getD i default
  rw [range_getD] at hall
  have hst : ((List.range l.length).filter fun x => !inP l (lvlT l) x).map (fun i => l.getD i default) = stayT l ((inK l (lvlT l)).map Int.ofNat) l.length := by
    unfold stayT
    congr 1
    apply List.filter_congr
    intro i hi
    have hi := List.mem_range.1 hi
    have : (((i : Nat) : Int) ∈ (inK l (lvlT l)).map Int.ofNat) ↔ inP l (lvlT l) i = true := by
      rw [mem_map_nat, inK_mem]
      exact ⟨fun h => h.2, fun h => ⟨hi, h⟩⟩
    by_cases hp : inP l (lvlT l) i = true
    · rw [decide_eq_true (this.2 hp), hp]
    · rw [decide_eq_false fun h => hp (this.1 h), Bool.eq_false_iff.2 hp]
  rw [hst] at hall
  have e : (mergedT b l rows).1 = nextT b l (lvlT l) (rowsIn l (lvlT l) rows) := rfl
  rw [e]
  have c1 := fun j => cntL_inter j hall
  have c2 := fun j => cntL_inter j h3
  have ct : ∀ j : Int, j ≠ ((lvlT l + 1 : Nat) : Int) → cntL j ((partsT (lvlT l) (rowsIn l (lvlT l) rows)).map (newT b (lvlT l + 1))) = 0 := fun j hj => by
    unfold cntL
    rw [filter_none]
    · rfl
    · intro x hx
      obtain ⟨p, _, rfl⟩ := List.mem_map.1 hx
      rw [decide_eq_false_iff_not]
      exact fun g => hj g.symm
  have hhot := lvlT_hot hk
  have hlv : lvlT l = 0 ∨ lvlT l = 1 ∨ lvlT l = 2 := by omega
  rcases hlv with g | g | g
  · rw [g] at hhot h2 c1 c2 ct ⊢
    have hs0 : cntL 0 (stayT l ((inK l 0).map Int.ofNat) l.length) = 0 := by
      unfold cntL
      rw [filter_none]
      · rfl
      · intro x hx
        obtain ⟨i, hi, hn, rfl⟩ := mem_stay hx
        rw [decide_eq_false_iff_not]
        intro g2
        refine hn (own_in ?_)
        unfold ownK
        rw [if_pos rfl]
        exact ownP_mem.2 ⟨hi, g2⟩
    have hn0 : cntL 0 (nextT b l 0 (rowsIn l 0 rows)) = 0 := by rw [c2, hs0, ct 0 (by decide)]
    have hnh : ¬ hot (nextT b l 0 (rowsIn l 0 rows)) 0 = true := by
      rw [hot_iff]
      have : cntL ((0 : Nat) : Int) (nextT b l 0 (rowsIn l 0 rows)) = 0 := hn0
      omega
    unfold muT
    rw [if_neg hnh, if_pos hhot]
    have := cntL_le 1 (nextT b l 0 (rowsIn l 0 rows))
    omega
  · have h0 : ¬ hot l 0 = true := by
      intro h0
      unfold lvlT at g
      rw [if_pos h0] at g
      cases g
    rw [g] at hhot c1 c2 ct ⊢
    have hnh : ¬ hot (nextT b l 1 (rowsIn l 1 rows)) 0 = true := by
      rw [hot_iff] at h0 ⊢
      have := c2 ((0 : Nat) : Int)
      have := c1 ((0 : Nat) : Int)
      have := ct ((0 : Nat) : Int) (by decide)
      omega
    unfold muT
    rw [if_neg hnh, if_neg h0]
    have := c2 1
    have := c1 1
    have := ct 1 (by decide)
    have hown : 0 < cntL 1 (((List.range l.length).filter (inP l 1)).map fun i => l.getD i default) := by
      have hp := ownK_pos hhot
      have hm := headT_mem hp
      unfold cntL
      refine List.length_pos_of_mem (a := l.getD ((ownK l 1).getD 0 default) default) (List.mem_filter.2 ⟨List.mem_map.2 ⟨_, own_in hm, rfl⟩, ?_⟩)
      rw [decide_eq_true_eq]
      exact (ownK_mem hm).2
    omega
  · rw [g, hot_iff] at hhot
    have := cntL_le ((2 : Nat) : Int) l
    have : capT 2 = 32 := rfl
    omega
theorem low_few {l : List TabR} (h : ¬ lvlT l < 3) : cntL 0 l ≤ 4 := by
  have h0 : ¬ hot l 0 = true := by
    intro h0
    unfold lvlT at h
    rw [if_pos h0] at h
    exact h (by decide)
  rw [hot_iff] at h0
  have : capT 0 = 4 := rfl
  have e : cntL 0 l = cntL ((0 : Nat) : Int) l := rfl
  omega
end Go.Ab

/- Layer 17: MoveOver. -/
set_option linter.unusedVariables false
set_option linter.unusedSimpArgs false
namespace Go.Ab
theorem tells_totL {b : Int} {l : List TabR} {rows : List (List En)} (h : Tells b l rows) : totL rows ≤ 64 * l.length := by
  rw [← h.len]
  exact totL_le fun r hr => (fit_right (tells_len h r hr)).1
def law17_MoveOver.mark : Mark := ⟨fun t => Nat.beq t 28 || Nat.beq t 35 || Nat.beq t 40 || Nat.beq t 54 || Nat.beq t 63 || Nat.beq t 70 || Nat.beq t 82 || Nat.beq t 87 || Nat.beq t 101 || Nat.beq t 132 || Nat.beq t 152, fun t => Nat.beq t 84 || Nat.beq t 135, fun t => false, fun t => Nat.beq t 100 || Nat.beq t 110 || Nat.beq t 123 || Nat.beq t 131 || Nat.beq t 143, fun t => false⟩
def law17_MoveOver.ann : Ann := ⟨fun n => bif Nat.beq n 17 then [14, 19, 20, 21, 22] else bif Nat.beq n 23 then [14, 20, 21, 25] else [], fun n => none, fun n => none⟩
end Go.Ab

/- The score, walked. -/
set_option linter.unusedVariables false
set_option linter.unusedSimpArgs false
namespace Go.Ab
def pick_table_below.mark : Mark := ⟨fun t => false, fun t => false, fun t => Nat.beq t 1, fun t => Nat.beq t 4 || Nat.beq t 8 || Nat.beq t 12, fun t => false⟩
def pick_table_below.ann : Ann := ⟨fun n => [], fun n => none, fun n => none⟩
/-- '(marlstone/pick.table).below' -/
def pick_table_below.sh (a0 : AV) (σ : Store) (Q : AEnd → Store → Prop) : Prop :=
  Do (aFreeze ((a0 : AV)).cells) fun t1 =>
  Do (aFieldAddr 0 1 t1) fun t3 =>
  Do (loadF false 1 t3) fun t4 =>
  Do (aBin Go.Proofs.Tryz.prog .lss 3 t4 (.val (.int .i64 0))) fun t5 =>
  Do (aGuard t5 false (aFieldAddr 0 1 t1)) fun t7 =>
  Do (aGuard t5 false (loadF false 1 t7)) fun t8 =>
  Do (aGuard t5 false (aBin Go.Proofs.Tryz.prog .geq 3 t8 (.val (.int .i64 4)))) fun t9 =>
  Do (aPick t5 (.val (.bool true)) t9) fun t10 =>
  aCond t10
    (Q (.ret (.val (.int .i64 0))) σ)
    (Do (aFieldAddr 0 1 t1) fun t11 =>
  Do (loadF false 1 t11) fun t12 =>
  Do (aBin Go.Proofs.Tryz.prog .sub 3 (.val (.int .i64 3)) t12) fun t13 =>
  Q (.ret t13) σ)
theorem pick_table_below.eq (a0 : AV) (σ : Store) (Q : AEnd → Store → Prop) : vc (semOf Go.Proofs.Tryz.prog pick_table_below.mark) Go.Proofs.Tryz.f88.ntmps pick_table_below.ann (bodyOf Go.Proofs.Tryz.f88) (endK [.tmp 2] Q) (argFr [a0]) σ = pick_table_below.sh a0 σ Q := by kernel_rfl
theorem pick_table_below.go {a0 : AV} {σ : Store} {Q : AEnd → Store → Prop} (h : pick_table_below.sh a0 σ Q) : ACalls Go.Proofs.Tryz.prog 88 [a0] σ Q :=
  acalls_of_eq [.tmp 2] Go.Proofs.Tryz.func88 (by kernel_rfl) (by kernel_rfl) (by kernel_rfl) (by kernel_rfl) (pick_table_below.eq a0 σ Q) h
def pick_table_weight.mark : Mark := ⟨fun t => Nat.beq t 6, fun t => false, fun t => Nat.beq t 1, fun t => Nat.beq t 4 || Nat.beq t 5, fun t => false⟩
def pick_table_weight.ann : Ann := ⟨fun n => [], fun n => none, fun n => none⟩
/-- '(marlstone/pick.table).weight' -/
def pick_table_weight.sh (a0 : AV) (σ : Store) (Q : AEnd → Store → Prop) : Prop :=
  Do (aFreeze ((a0 : AV)).cells) fun t1 =>
  Do (aFieldAddr 1 1 t1) fun t3 =>
  Do (loadF false 1 t3) fun t4 =>
  Do (loadF true 36 t1) fun t5 =>
  Do (aPureC Go.Proofs.Tryz.prog 88 [t5]) fun t6 =>
  Do (aBin Go.Proofs.Tryz.prog .mul 3 t4 t6) fun t7 =>
  Q (.ret t7) σ
theorem pick_table_weight.eq (a0 : AV) (σ : Store) (Q : AEnd → Store → Prop) : vc (semOf Go.Proofs.Tryz.prog pick_table_weight.mark) Go.Proofs.Tryz.f54.ntmps pick_table_weight.ann (bodyOf Go.Proofs.Tryz.f54) (endK [.tmp 2] Q) (argFr [a0]) σ = pick_table_weight.sh a0 σ Q := by kernel_rfl
theorem pick_table_weight.go {a0 : AV} {σ : Store} {Q : AEnd → Store → Prop} (h : pick_table_weight.sh a0 σ Q) : ACalls Go.Proofs.Tryz.prog 54 [a0] σ Q :=
  acalls_of_eq [.tmp 2] Go.Proofs.Tryz.func54 (by kernel_rfl) (by kernel_rfl) (by kernel_rfl) (by kernel_rfl) (pick_table_weight.eq a0 σ Q) h
def pick_Score.mark : Mark := ⟨fun t => false, fun t => false, fun t => false, fun t => Nat.beq t 12, fun t => false⟩
def pick_Score.ann : Ann := ⟨fun n => bif Nat.beq n 4 then [3, 4, 7, 8, 9] else [], fun n => none, fun n => none⟩
/-- 'marlstone/pick.Score' -/
def pick_Score.sh (a0 : AV) (σ : Store) (Q : AEnd → Store → Prop) : Prop :=
  Do (aBuiltin Go.Proofs.Tryz.prog .len #[24] [a0]) fun t8 =>
  aLoop (fun go vs σ =>
    At vs 0 fun s3 => At vs 1 fun s4 => At vs 2 fun s7 => At vs 3 fun s8 => At vs 4 fun s9 => Do (aBin Go.Proofs.Tryz.prog .lss 3 s9 s8) fun t10 =>
    aCond t10
      (Do (aIndexAddr .slice 36 s7 s9) fun t11 =>
    Do (loadF true 36 t11) fun t12 =>
    aNewVar 58 [.val (.int .i64 0), .val (.int .i64 0), .val (.int .u8 0), .val (.int .u8 0), .val (.int .u8 0), .val (.int .u8 0), .val (.int .u8 0), .val (.int .u8 0), .val (.int .u8 0), .val (.int .u8 0), .val (.int .u8 0), .val (.int .u8 0), .val (.int .u8 0), .val (.int .u8 0), .val (.int .u8 0), .val (.int .u8 0), .val (.int .u8 0), .val (.int .u8 0), .val (.int .u8 0), .val (.int .u8 0), .val (.int .u8 0), .val (.int .u8 0), .val (.int .u8 0), .val (.int .u8 0), .val (.int .u8 0), .val (.int .u8 0), .val (.int .u8 0), .val (.int .u8 0), .val (.int .u8 0), .val (.int .u8 0), .val (.int .u8 0), .val (.int .u8 0), .val (.int .u8 0), .val (.int .u8 0), .val (.string ⟨#[]⟩), .val (.string ⟨#[]⟩)] σ fun t6 σ_1 =>
    storeA 36 t6 t12 σ_1 fun u σ_2 =>
    Do (loadA true 36 t6 σ_2) fun t15 =>
    aCallV Go.Proofs.Tryz.prog s3 [t15] σ_2 (fun t16 σ_3 =>
    Do (aBin Go.Proofs.Tryz.prog .add 3 s4 t16) fun t17 =>
    Do (aBin Go.Proofs.Tryz.prog .add 3 s9 (.val (.int .i64 1))) fun t18 =>
    go [s3, t17, s7, s8, t18] σ_3) (fun e σ_4 => Q (.pan e) σ_4))
      (Q (.ret s4) σ))
    [(.val (.func (.func 54) #[] #[])), (.val (.int .i64 0)), a0, t8, (.val (.int .i64 0))] σ
theorem pick_Score.eq (a0 : AV) (σ : Store) (Q : AEnd → Store → Prop) : vc (semOf Go.Proofs.Tryz.prog pick_Score.mark) Go.Proofs.Tryz.f25.ntmps pick_Score.ann (bodyOf Go.Proofs.Tryz.f25) (endK [.tmp 2] Q) (argFr [a0]) σ = pick_Score.sh a0 σ Q := by kernel_rfl
theorem pick_Score.go {a0 : AV} {σ : Store} {Q : AEnd → Store → Prop} (h : pick_Score.sh a0 σ Q) : ACalls Go.Proofs.Tryz.prog 25 [a0] σ Q :=
  acalls_of_eq [.tmp 2] Go.Proofs.Tryz.func25 (by kernel_rfl) (by kernel_rfl) (by kernel_rfl) (by kernel_rfl) (pick_Score.eq a0 σ Q) h
theorem below_ok (x : TabR) (h : mayT x = true) : aPure Go.Proofs.Tryz.prog 88 [tbF x] (I .i64 (3 - x.lev)) := by
  have hl := mayT_lev h
  refine pick_table_below.go ?_
  unfold pick_table_below.sh
  repeat' (first|with_reducible (first|apply Stp.go|refine imp fun _=>?_|(refine need ?_ ?_;first|trivial|omega|exact ⟨by assumption,by omega⟩|(simp only [zL,zM];omega))|refine choT (by assumption) ?_|refine choF (by assumption) ?_|refine choF' (by assumption) ?_|(refine altT ?_ ?_;first|omega|(simp only [zL,zM];omega))|refine altF ?_|refine all fun _=>?_|refine both ?_ ?_|(refine choT ?_ ?_;omega)|(refine choF ?_ ?_;omega)|refine cho (fun _=>?_) fun _=>?_)|(with_reducible refine fact ?_ ?_;first|trivial|exact ⟨rfl,rfl⟩|kernel_rfl))
  exact ⟨rfl, rfl⟩
theorem weight_ok (x : TabR) (h : mayT x = true) : aPure Go.Proofs.Tryz.prog 54 [tbF x] (I .i64 (weightT x)) := by
  have hl := mayT_lev h
  have hw := weightT_may h
  have iB : PC Go.Proofs.Tryz.prog 88 [tbF x] True (I .i64 (3 - x.lev)) := ⟨fun _ => PC.of (below_ok x h)⟩
  refine pick_table_weight.go ?_
  unfold pick_table_weight.sh
  rw [hw.1]
  rw [hw.1] at hw
  repeat' (first|with_reducible (first|apply Stp.go|refine imp fun _=>?_|(refine need ?_ ?_;first|trivial|omega|exact ⟨by assumption,by omega⟩|(simp only [zL,zM];omega))|refine choT (by assumption) ?_|refine choF (by assumption) ?_|refine choF' (by assumption) ?_|(refine altT ?_ ?_;first|omega|(simp only [zL,zM];omega))|refine altF ?_|refine all fun _=>?_|refine both ?_ ?_|(refine choT ?_ ?_;omega)|(refine choF ?_ ?_;omega)|refine cho (fun _=>?_) fun _=>?_)|(with_reducible refine fact ?_ ?_;first|trivial|exact ⟨rfl,rfl⟩|kernel_rfl))
  exact ⟨rfl, rfl⟩
theorem Score_ok (l : List TabR) (m : SM) (hl : l.length ≤ 1000) (hm : ∀ x ∈ l, mayT x = true) : aPure Go.Proofs.Tryz.prog 25 [.lst 36 (l.map tbF) m] (I .i64 (scoreT l)) := by
  refine ACalls.fin (pick_Score.go ?_)
  unfold pick_Score.sh
  repeat' (first|with_reducible (first|apply Stp.go|refine imp fun _=>?_|(refine need ?_ ?_;first|trivial|omega|exact ⟨by assumption,by omega⟩|(simp only [zL,zM];omega))|refine choT (by assumption) ?_|refine choF (by assumption) ?_|refine choF' (by assumption) ?_|(refine altT ?_ ?_;first|omega|(simp only [zL,zM];omega))|refine altF ?_|refine all fun _=>?_|refine both ?_ ?_|(refine choT ?_ ?_;omega)|(refine choF ?_ ?_;omega)|refine cho (fun _=>?_) fun _=>?_)|(with_reducible refine fact ?_ ?_;first|trivial|exact ⟨rfl,rfl⟩|kernel_rfl))
  refine loopI (β := Nat) (fun i => i ≤ l.length) (fun i => [.val (.func (.func 54) #[] #[]), I .i64 (scoreT (l.take i)), .lst 36 (l.map tbF) m, I .i64 (l.length : Nat), I .i64 (i : Nat)]) (fun _ => []) (fun i => l.length - i) 0 (Nat.zero_le _) (Sub.refl _ _) ?_
  intro i hi
  have hs1 := scoreT_le (l := l.take i) fun x hx => hm x (List.mem_of_mem_take hx)
  rw [List.length_take] at hs1
  by_cases hlt : i < l.length
  · have hmx := hm _ (getD_memT hlt)
    have hst : scoreT (l.take (i + 1)) = scoreT (l.take i) + weightT (l.getD i default) := by
      rw [take_succ_d hlt, scoreT_append]
      show _ + (weightT _ + 0) = _
      omega
    have hw := weightT_may hmx
    have iW : PC Go.Proofs.Tryz.prog 54 [tbF (l.getD i default)] True (I .i64 (weightT (l.getD i default))) := ⟨fun _ => PC.of (weight_ok _ hmx)⟩
    repeat' (first|with_reducible (first|apply Stp.go|refine imp fun _=>?_|(refine need ?_ ?_;first|trivial|omega|exact ⟨by assumption,by omega⟩|(simp only [zL,zM];omega))|refine choT (by assumption) ?_|refine choF (by assumption) ?_|refine choF' (by assumption) ?_|(refine altT ?_ ?_;first|omega|(simp only [zL,zM];omega))|refine altF ?_|refine all fun _=>?_|refine both ?_ ?_|(refine choT ?_ ?_;omega)|(refine choF ?_ ?_;omega)|refine cho (fun _=>?_) fun _=>?_)|(with_reducible refine fact ?_ ?_;first|trivial|exact ⟨rfl,rfl⟩|kernel_rfl))
    exact again (i + 1) (by omega) (by omega) (by rw [hst]; exact Sub.app_nil _)
  · have e : i = l.length := by omega
    subst e
    rw [List.take_length]
    repeat' (first|with_reducible (first|apply Stp.go|refine imp fun _=>?_|(refine need ?_ ?_;first|trivial|omega|exact ⟨by assumption,by omega⟩|(simp only [zL,zM];omega))|refine choT (by assumption) ?_|refine choF (by assumption) ?_|refine choF' (by assumption) ?_|(refine altT ?_ ?_;first|omega|(simp only [zL,zM];omega))|refine altF ?_|refine all fun _=>?_|refine both ?_ ?_|(refine choT ?_ ?_;omega)|(refine choF ?_ ?_;omega)|refine cho (fun _=>?_) fun _=>?_)|(with_reducible refine fact ?_ ?_;first|trivial|exact ⟨rfl,rfl⟩|kernel_rfl))
    exact ⟨_, _, _, rfl, Sub.refl _ _, rfl, rfl⟩
end Go.Ab
