/- A logic over abstract states (part 6): cuts, literals, arithmetic, conversions, builtins, calls of functions told by their arguments. -/
import Derived.Test.YtopmpooglnfalaaAb5
set_option linter.unusedVariables false
set_option linter.unusedSimpArgs false
namespace Go.Ab
variable {P : Program}

/-! ### Cuts -/
theorem bound_run {kk : IntKind} {n : Int} {y : Nat} (h0 : 0 ≤ n) (h1 : n ≤ y) (code : BoundsCode) (w : World) : (Instr.sliceBound (.int kk n) y code).run P w = .ok n.toNat w := by
  simp [Instr.sliceBound, asIntOf, h0, h1]
/-- The bounds of a cut, where they hold. -/
theorem bounds_run {ρ : Operand → AV} {R : RO} {ev : Operand → Value} (ha : ∀ x, VR R (ev x) (ρ x)) (isS : Bool) {len cap : Nat} {lo hi mx : Option Operand} {l h m : Int}
    (hl : bdOf (lo.map ρ) 0 = some l) (hh : bdOf (hi.map ρ) len = some h) (hm : bdOf (mx.map ρ) cap = some m) (hmh : mx.isSome = true → hi.isSome = true)
    (h0 : 0 ≤ l) (h1 : l ≤ h) (h2 : h ≤ m) (h3 : m ≤ cap) (w : World) : (Instr.sliceBounds isS len cap (lo.map ev) (hi.map ev) (mx.map ev)).run P w = .ok (l.toNat, h.toNat, m.toNat) w := by
  have key : ∀ (x : Option Operand) (d n : Int), bdOf (x.map ρ) d = some n → (x = none ∧ n = d) ∨ ∃ y k, x = some y ∧ ev y = .int k n := by
    intro x d n hx
    cases x with
    | none => simp [bdOf] at hx; exact .inl ⟨rfl, hx.symm⟩
    | some y =>
      simp only [Option.map_some, bdOf] at hx
      obtain ⟨k, hk⟩ := ixOf_inv hx
      have hv := ha y
      rw [hk] at hv
      exact .inr ⟨y, k, rfl, hv.val_inv⟩
  have eh : (h.toNat : Int) = h := Int.toNat_of_nonneg (by omega)
  have em : (m.toNat : Int) = m := Int.toNat_of_nonneg (by omega)
  rcases key mx _ _ hm with ⟨rfl, rfl⟩ | ⟨ym, km, rfl, em'⟩
  · rcases key hi _ _ hh with ⟨rfl, rfl⟩ | ⟨yh, kh, rfl, eh'⟩
    · rcases key lo _ _ hl with ⟨rfl, rfl⟩ | ⟨yl, kl, rfl, el'⟩
      · simp [Instr.sliceBounds]
      · simp [Instr.sliceBounds, el', bound_run (P := P) (kk := kl) h0 h1]
    · rcases key lo _ _ hl with ⟨rfl, rfl⟩ | ⟨yl, kl, rfl, el'⟩
      · simp [Instr.sliceBounds, eh', bound_run (P := P) (kk := kh) (by omega : 0 ≤ h) h2]
      · simp [Instr.sliceBounds, eh', el', bound_run (P := P) (kk := kh) (by omega : 0 ≤ h) h2, bound_run (P := P) (kk := kl) (y := h.toNat) h0 (by omega)]
  · obtain ⟨yh, kh, rfl, eh'⟩ : ∃ y k, hi = some y ∧ ev y = .int k h := by
      rcases key hi _ _ hh with ⟨rfl, _⟩ | h
      · simp at hmh
      · exact h
    rcases key lo _ _ hl with ⟨rfl, rfl⟩ | ⟨yl, kl, rfl, el'⟩
    · simp [Instr.sliceBounds, eh', em', bound_run (P := P) (kk := km) (by omega : 0 ≤ m) h3, bound_run (P := P) (kk := kh) (y := m.toNat) (by omega : 0 ≤ h) (by omega)]
    · simp [Instr.sliceBounds, eh', em', el', bound_run (P := P) (kk := km) (by omega : 0 ≤ m) h3, bound_run (P := P) (kk := kh) (y := m.toNat) (by omega : 0 ≤ h) (by omega), bound_run (P := P) (kk := kl) (y := h.toNat) h0 (by omega)]

theorem flat_take {l : List AV} {sz : Nat} (hsz : ∀ e ∈ l, e.cells.length = sz) : ∀ n, flat (l.take n) = (flat l).take (n * sz) := by
  induction l with
  | nil => intro n; simp [flat]
  | cons e l ih =>
    intro n
    have he := hsz e (by simp)
    have hfl : ∀ (e : AV) l, flat (e :: l) = e.cells ++ flat l := fun _ _ => rfl
    cases n with
    | zero => simp [flat]
    | succ n =>
      rw [List.take_succ_cons, hfl, hfl, ih (fun x hx => hsz x (by simp [hx])), List.take_append, he, Nat.add_mul, Nat.one_mul]
      rw [List.take_of_length_le (l := e.cells) (by omega), show n * sz + sz - sz = n * sz by omega]
theorem flat_drop {l : List AV} {sz : Nat} (hsz : ∀ e ∈ l, e.cells.length = sz) : ∀ n, flat (l.drop n) = (flat l).drop (n * sz) := by
  induction l with
  | nil => intro n; simp [flat]
  | cons e l ih =>
    intro n
    have he := hsz e (by simp)
    have hfl : ∀ (e : AV) l, flat (e :: l) = e.cells ++ flat l := fun _ _ => rfl
    cases n with
    | zero => simp
    | succ n =>
      rw [List.drop_succ_cons, hfl, ih (fun x hx => hsz x (by simp [hx])), List.drop_append, he, Nat.add_mul, Nat.one_mul]
      rw [List.drop_eq_nil_of_le (as := e.cells) (by omega), show n * sz + sz - sz = n * sz by omega]
      rfl
theorem flat_append (l m : List AV) : flat (l ++ m) = flat l ++ flat m := by simp [flat]

/-- A cut of a slice in memory that never turns. -/
theorem lst_cut {R : RO} {ao : Option Addr} {xs : List AV} {vs : List Value} {sz : Nat} (hz : 0 < sz) (hsz : ∀ e ∈ xs, e.cells.length = sz) (hr : VRs R vs (flat xs))
    (hR : xs ≠ [] → ∃ a, ao = some a ∧ ∀ (j : Nat) (v : Value), vs[j]? = some v → R (a.add j) = some v) (hone : ∀ v ∈ vs, v.oneCell' = true) (hb : xs.length ≤ maxLen) {l h cp : Nat} (h1 : l ≤ h) (h2 : h ≤ xs.length) {m : SM} {ao' : Option Addr}
    (hao : l < h → ao' = ao.map (·.add (l * sz))) (hm : SMok m ao' (h - l) cp) : VR R (.slice ao' (h - l) cp) (.lst sz ((xs.take h).drop l) m) := by
  have e1 : flat ((xs.take h).drop l) = ((flat xs).take (h * sz)).drop (l * sz) := by
    rw [flat_drop (fun e he => hsz e (List.mem_of_mem_take he)), flat_take hsz]
  have hr' := (hr.take (h * sz)).drop (l * sz)
  rw [← e1] at hr'
  refine .lst _ (by simp; omega) hz (fun e he => hsz e (List.mem_of_mem_take (List.mem_of_mem_drop he))) hr'.1 hr'.2 (fun hne => ?_) hm (by omega) (fun v hv => hone v (List.mem_of_mem_take (List.mem_of_mem_drop hv)))
  have hlt : l < h := by
    rcases Nat.lt_or_ge l h with h' | h'
    · exact h'
    · exact absurd (List.drop_eq_nil_of_le (by simp; omega)) hne
  have hxs : xs ≠ [] := by intro e; subst e; simp at h2; omega
  obtain ⟨a, rfl, hR'⟩ := hR hxs
  refine ⟨_, hao hlt, fun j v hj => ?_⟩
  rw [addr_add_add]
  refine hR' _ _ ?_
  rw [List.getElem?_drop, List.getElem?_take] at hj
  split at hj
  · exact hj
  · cases hj

theorem pr_slice {ρ : Operand → AV} {t : TypeId} {x : Operand} {lo hi mx : Option Operand} {c : Con} {ag : Bool} {s : Nat} (he : elemOf P t = some (c, ag, s)) {u : AV} (h : aSlice c s (ρ x) (lo.map ρ) (hi.map ρ) (mx.map ρ) u) :
    PRun P (fun ev => do pure (.value (← Instr.sliceAt t (ev x) (lo.map ev) (hi.map ev) (mx.map ev)))) ρ u := by
  refine PRun.still fun R w ev ha _ => ?_
  have hx := ha x
  unfold aSlice at h
  cases c with
  | string =>
    have hu := elemOf_string he
    simp only at h
    split at h
    · rename_i str l e1 e2 e3
      rw [e1] at hx
      cases hh : bdOf (hi.map ρ) str.size with
      | none => rw [hh] at h; exact h.elim
      | some hh' =>
        rw [hh] at h
        obtain ⟨h0, h1, h2, hu'⟩ := h
        have hmx : mx = none := by cases mx with | none => rfl | some y => simp at e3
        subst hmx
        have hb := bounds_run (P := P) ha false (len := str.size) (cap := str.size) (lo := lo) (hi := hi) (mx := none) (m := str.size) e2 hh rfl (by simp) h0 h1 h2 (Int.le_refl _) w
        simp only [Option.map_none] at hb
        refine ⟨_, ?_, by rw [hu']; exact .val _⟩
        simp [Instr.sliceAt, run_underlying hu, Instr.slice, hx.val_inv, hb]
    · exact h.elim
  | slice =>
    obtain ⟨e, hu, hsh⟩ := elemOf_slice he
    obtain ⟨q1, q2⟩ := shapeOf_run hsh w
    simp only at h
    have run : ∀ ao n cap l h' m, ev x = .slice ao n cap → (Instr.sliceBounds true n cap (lo.map ev) (hi.map ev) (mx.map ev)).run P w = .ok (l, h', m) w →
        (do pure (Next.value (← Instr.sliceAt t (ev x) (lo.map ev) (hi.map ev) (mx.map ev))) : Sem Next).run P w = .ok (.value (.slice (if m = l then ao else ao.map (·.add (l * s))) (h' - l) (m - l))) w := by
      intro ao n cap l h' m hv hb
      simp [Instr.sliceAt, run_underlying hu, Instr.slice, hv, hb, q2]
    split at h
    · rename_i z xs m l e1 e2
      rw [e1] at hx
      obtain ⟨ao, cap, vs, hv, hz, hsz, hr, hR, hm, hb, hone⟩ := hx.lst_inv
      have hcap : xs.length ≤ cap := by cases m <;> simp only [SMok] at hm <;> omega
      split at h
      · rename_i hh' e3 e4
        obtain ⟨rfl, h0, h1, h2, hu'⟩ := h
        have hmx : mx = none := by cases mx with | none => rfl | some y => simp at e4
        subst hmx
        have hb' := bounds_run (P := P) ha true (len := xs.length) (cap := cap) (lo := lo) (hi := hi) (mx := none) (m := cap) e2 e3 rfl (by simp) h0 h1 (by omega) (Int.le_refl _) w
        refine ⟨_, run ao _ cap _ _ _ hv hb', ?_⟩
        rw [hu']
        refine lst_cut hz hsz hr hR hone hb (by omega) (by omega) (fun hlt => by rw [if_neg (by omega)]) ?_
        simp only [SMok]; omega
      · rename_i hh' mxv e3 e4
        obtain ⟨rfl, h0, h1, h2, e5, e6, hu'⟩ := h
        obtain ⟨ym, rfl⟩ : ∃ ym, mx = some ym := by cases mx with | none => simp at e4 | some y => exact ⟨y, rfl⟩
        have e7 : bdOf ((some ym).map ρ) cap = some hh' := by simp only [Option.map_some, Option.some.injEq] at e4; simp [bdOf, e4, e5]
        have hb' := bounds_run (P := P) ha true (len := xs.length) (cap := cap) (lo := lo) (hi := hi) (mx := some ym) (m := hh') e2 e3 e7 (fun _ => by simpa using e6) h0 h1 (Int.le_refl _) (by omega) w
        refine ⟨_, run ao _ cap _ _ _ hv hb', ?_⟩
        rw [hu']
        refine lst_cut hz hsz hr hR hone hb (by omega) (by omega) (fun hlt => by rw [if_neg (by omega)]) ?_
        simp only [SMok]
      · exact h.elim
    · rename_i v n l e1 e2
      rw [e1] at hx
      obtain ⟨hv, hrow⟩ := hx.own_inv
      split at h
      · rename_i hh' e3 e4
        obtain ⟨h0, h1, h2, hu'⟩ := h
        have hmx : mx = none := by cases mx with | none => rfl | some y => simp at e4
        subst hmx
        rcases hrow with ⟨hs, hn0⟩ | ⟨g, cap, hs, hcap⟩
        · rw [hs] at hv
          have hb' := bounds_run (P := P) ha true (len := n) (cap := 0) (lo := lo) (hi := hi) (mx := none) (m := 0) e2 e3 rfl (by simp) h0 h1 (by omega) (Int.le_refl _) w
          subst hn0
          refine ⟨_, run none 0 0 _ _ _ hv hb', ?_⟩
          rw [hu']
          refine .sub (.inl ⟨hs, by omega, by omega, ?_⟩)
          have e5 : hh'.toNat = 0 := by omega
          simp [e5]
        · rw [hs] at hv
          have hb' := bounds_run (P := P) ha true (len := n) (cap := cap) (lo := lo) (hi := hi) (mx := none) (m := cap) e2 e3 rfl (by simp) h0 h1 (by omega) (Int.le_refl _) w
          refine ⟨_, run _ n cap _ _ _ hv hb', ?_⟩
          rw [hu']
          have e5 : hh'.toNat - l.toNat = (hh' - l).toNat := by omega
          rw [e5]
          simp only [Int.toNat_natCast]
          by_cases hc : cap = l.toNat
          · rw [if_pos hc]; exact .sub (.inr ⟨g, n, cap, _, hs, by omega, fun h => by omega, rfl⟩)
          · rw [if_neg hc]; exact .sub (.inr ⟨g, n, cap, _, hs, by omega, fun h => by show (⟨g, 0, none⟩ : Addr).add _ = _; rw [addr_lit_add, Nat.zero_add], rfl⟩)
      · exact h.elim
    · rename_i v z a n l e1 e2
      rw [e1] at hx
      split at h
      · rename_i hh' e3 e4
        obtain ⟨rfl, hz, h0, h1, h2, hu'⟩ := h
        have hmx : mx = none := by cases mx with | none => rfl | some y => simp at e4
        subst hmx
        rcases hx.sub_inv with ⟨hs, ha0, hn0, hv⟩ | ⟨g, n0, cap, p, hs, hc, hp, hv⟩
        · have hb' := bounds_run (P := P) ha true (len := n) (cap := 0) (lo := lo) (hi := hi) (mx := none) (m := 0) e2 e3 rfl (by simp) h0 h1 (by omega) (Int.le_refl _) w
          subst hn0
          refine ⟨_, run none 0 0 _ _ _ hv hb', ?_⟩
          rw [hu']
          refine .sub (.inl ⟨hs, by omega, by omega, ?_⟩)
          have e5 : hh'.toNat = 0 := by omega
          simp [e5]
        · have hb' := bounds_run (P := P) ha true (len := n) (cap := cap - a) (lo := lo) (hi := hi) (mx := none) (m := ((cap - a : Nat) : Int)) e2 e3 rfl (by simp) h0 h1 (by omega) (Int.le_refl _) w
          refine ⟨_, run _ n (cap - a) _ _ _ hv hb', ?_⟩
          rw [hu']
          have e5 : hh'.toNat - l.toNat = (hh' - l).toNat := by omega
          rw [e5]
          simp only [Int.toNat_natCast]
          have e6 : cap - a - l.toNat = cap - (a + l.toNat) := by omega
          by_cases hc2 : cap - a = l.toNat
          · rw [if_pos hc2, e6]; exact .sub (.inr ⟨g, n0, cap, _, hs, by omega, fun h => by omega, rfl⟩)
          · rw [if_neg hc2, e6]; exact .sub (.inr ⟨g, n0, cap, _, hs, by omega, fun h => by show p.add _ = _; rw [hp (by omega), addr_lit_add, Nat.add_mul], rfl⟩)
      · exact h.elim
    · rename_i a n cap l e1 e2
      rw [e1] at hx
      split at h
      · rename_i hh' e3 e4
        obtain ⟨h0, h1, h2, hu'⟩ := h
        have hmx : mx = none := by cases mx with | none => rfl | some y => simp at e4
        subst hmx
        have hb' := bounds_run (P := P) ha true (len := n) (cap := cap) (lo := lo) (hi := hi) (mx := none) (m := cap) e2 e3 rfl (by simp) h0 h1 (by omega) (Int.le_refl _) w
        refine ⟨_, run _ _ cap _ _ _ hx.val_inv hb', ?_⟩
        rw [hu']
        have e5 : hh'.toNat - l.toNat = (hh' - l).toNat := by omega
        rw [e5]
        simp only [Int.toNat_natCast]
        by_cases hc : cap = l.toNat
        · simp [hc]; exact .val _
        · simp [hc]; exact .val _
      · exact h.elim
    · exact h.elim
  | array n =>
    obtain ⟨e, hu, hsh⟩ := elemOf_array he
    obtain ⟨q1, q2⟩ := shapeOf_run hsh w
    simp only at h
    split at h
    · rename_i a l hh' e1 e2 e3 e4
      rw [e1] at hx
      obtain ⟨h0, h1, h2, hu'⟩ := h
      have hmx : mx = none := by cases mx with | none => rfl | some y => simp at e4
      subst hmx
      have hb' := bounds_run (P := P) ha false (len := n) (cap := n) (lo := lo) (hi := hi) (mx := none) (m := n) e2 e3 rfl (by simp) h0 h1 h2 (Int.le_refl _) w
      simp only [Option.map_none] at hb'
      refine ⟨_, ?_, by rw [hu']; exact .val _⟩
      have e5 : hh'.toNat - l.toNat = (hh' - l).toNat := by omega
      simp [Instr.sliceAt, run_underlying hu, hx.val_inv, Instr.sureAddr, hb', q2, e5]
    · exact h.elim

/-! ### Literals -/
theorem splice_length {cs new : List AV} {off : Nat} (h : off + new.length ≤ cs.length) : (splice cs off new).length = cs.length := by simp [splice]; omega
theorem fold_set (new : List Value) : ∀ (i off : Nat) (cs : List Value), off + i + new.length ≤ cs.length →
    ((new.zipIdx i).foldl (fun (acc : Array Value) x => acc.setIfInBounds (off + x.2) x.1) cs.toArray).toList = cs.take (off + i) ++ new ++ cs.drop (off + i + new.length) := by
  induction new with
  | nil => intro i off cs h; simp
  | cons v new ih =>
    intro i off cs h
    simp only [List.length_cons] at h
    simp only [List.zipIdx_cons, List.foldl_cons]
    have e : cs.toArray.setIfInBounds (off + i) v = (cs.set (off + i) v).toArray := by simp
    rw [e, ih (i + 1) off (cs.set (off + i) v) (by simp; omega)]
    have hlt : off + i < cs.length := by omega
    have e1 : (cs.set (off + i) v).take (off + (i + 1)) = cs.take (off + i) ++ [v] := by
      rw [show off + (i + 1) = off + i + 1 by omega, List.take_add_one, List.take_set_of_le (by omega)]
      simp [hlt]
    have e2 : (cs.set (off + i) v).drop (off + (i + 1) + new.length) = cs.drop (off + i + (new.length + 1)) := by
      rw [List.drop_set_of_lt (by omega)]
      congr 1
      omega
    rw [e1, e2]
    simp

theorem one_rel {R : RO} {v : Value} {u : AV} (h : VR R v u) (hu : u.one = true) : v.oneCell' = true := by
  cases h with
  | val v => exact hu
  | own h => rcases h with ⟨rfl, _⟩ | ⟨g, cap, rfl, _⟩ <;> rfl
  | sub h => rcases h with ⟨_, _, _, rfl⟩ | ⟨g, n0, cap, p, _, _, _, rfl⟩ <;> rfl
  | undef => cases hu
  | agg hl hv => cases hu
  | tuple hl hv => cases hu
  | _ => rfl
theorem ones_rel {R : RO} {vs : List Value} {us : List AV} (h : VRs R vs us) (hu : ∀ u ∈ us, u.one = true) : ∀ v ∈ vs, v.oneCell' = true := by
  intro v hv
  obtain ⟨j, hj⟩ := List.mem_iff_getElem?.1 hv
  have hlt : j < us.length := by rw [← h.1]; exact (List.getElem?_eq_some_iff.1 hj).1
  exact one_rel (h.2 j us[j] v (List.getElem?_eq_getElem hlt) hj) (hu _ (List.getElem_mem _))
theorem one_cells {v : Value} (h : v.oneCell' = true) : v.cells = #[v] := by cases v <;> first | rfl | cases h
/-- The cells of a value, where each is one. -/
theorem cells_rel {R : RO} {v : Value} {u : AV} (h : VR R v u) (hu : ∀ c ∈ u.cells, c.one = true) : VRs R v.cells.toList u.cells := by
  cases h with
  | agg hl hv => exact ⟨hl, hv⟩
  | undef => have := hu .undef (by simp [AV.cells]); cases this
  | tuple hl hv => have := hu _ (List.mem_singleton.2 rfl); cases this
  | val v =>
    have := hu (.val v) (by simp [AV.cells])
    rw [one_cells this]
    exact VRs.cons (.val _) (VRs.nil R)
  | own h =>
    have hone : v.oneCell' = true := by rcases h with ⟨rfl, _⟩ | ⟨g, cap, rfl, _⟩ <;> rfl
    rw [one_cells hone]
    exact VRs.cons (.own h) (VRs.nil R)
  | sub h =>
    have hone : v.oneCell' = true := by rcases h with ⟨_, _, _, rfl⟩ | ⟨g, n0, cap, p, _, _, _, rfl⟩ <;> rfl
    rw [one_cells hone]
    exact VRs.cons (.sub h) (VRs.nil R)
  | lst vs hn hz hsz hl hv hR hm hb hone => exact VRs.cons (.lst vs hn hz hsz hl hv hR hm hb hone) (VRs.nil R)
  | rptr vs hl hv hR => exact VRs.cons (.rptr vs hl hv hR) (VRs.nil R)
  | eptr => exact VRs.cons .eptr (VRs.nil R)
  | fn a b c d => exact VRs.cons (.fn a b c d) (VRs.nil R)
  | ifc a => exact VRs.cons (.ifc a) (VRs.nil R)

theorem fill_rel {R : RO} {place : Nat → Option (Nat × Nat)} : ∀ (ps : List (Nat × Value)) (qs : List (Nat × AV)) (vs : List Value) (us ws : List AV), VRs R vs us →
    ps.length = qs.length → (∀ (j : Nat) (p : Nat × Value) (q : Nat × AV), ps[j]? = some p → qs[j]? = some q → p.1 = q.1 ∧ VR R p.2 q.2 ∧ ∀ c ∈ q.2.cells, c.one = true) → fillA place us qs = some ws →
    ∃ xs, Instr.fill place vs.toArray ps = some (List.toArray xs) ∧ VRs R xs ws := by
  intro ps
  induction ps with
  | nil =>
    intro qs vs us ws hr hl hp hf
    cases qs with
    | cons q qs => simp at hl
    | nil => simp only [fillA, Option.some.injEq] at hf; subst hf; exact ⟨vs, rfl, hr⟩
  | cons p ps ih =>
    intro qs vs us ws hr hl hp hf
    cases qs with
    | nil => simp at hl
    | cons q qs =>
      obtain ⟨i, v⟩ := p
      obtain ⟨i', u⟩ := q
      obtain ⟨h1, h2, h3⟩ := hp 0 _ _ rfl rfl
      simp only at h1 h2 h3
      subst h1
      simp only [fillA] at hf
      simp only [Instr.fill]
      cases hpl : place i with
      | none => rw [hpl] at hf; cases hf
      | some os =>
        obtain ⟨off, s⟩ := os
        rw [hpl] at hf
        simp only at hf ⊢
        have hc := cells_rel h2 h3
        have hcl : v.cells.size = u.cells.length := by have := hc.1; simpa using this
        by_cases hif : u.cells.length = s ∧ off + s ≤ us.length
        · rw [if_pos hif] at hf
          obtain ⟨e1, e2⟩ := hif
          have hvl : vs.length = us.length := hr.1
          rw [if_neg (by simp only [hcl, List.size_toArray, Bool.or_eq_true, decide_eq_true_eq, not_or]; constructor <;> omega)]
          have hz := fold_set v.cells.toList 0 off vs (by simp [hcl]; omega)
          have hfold : (v.cells.zipIdx.foldl (fun (cs : Array Value) (x : Value × Nat) => cs.setIfInBounds (off + x.2) x.1) vs.toArray) = (vs.take off ++ v.cells.toList ++ vs.drop (off + v.cells.toList.length)).toArray := by
            apply Array.ext'
            simp only [Nat.add_zero] at hz
            rw [← Array.foldl_toList, Array.toList_zipIdx, hz]
          have hrel : VRs R (vs.take off ++ v.cells.toList ++ vs.drop (off + v.cells.toList.length)) (splice us off u.cells) := by
            have hh := ((hr.take off).append hc).append (hr.drop (off + v.cells.toList.length))
            rw [hc.1] at hh ⊢
            exact hh
          obtain ⟨xs, hx, hxr⟩ := ih qs _ _ ws hrel (by simpa using hl) (fun j p q hj hj' => hp (j + 1) p q hj hj') hf
          refine ⟨xs, ?_, hxr⟩
          rw [← hx, ← hfold]
        · rw [if_neg hif] at hf; cases hf

/-- The places of a struct's or an array's parts, and the zero value's cells. -/
def layoutOf (P : Program) (t : TypeId) : Option (List Value × List (Nat × Nat)) :=
  match P.info? t, P.underlying t with
  | some it, some (.array n e) => match it.zero, P.info? e with
    | some z, some ie => some (z.cells.toList, (List.range n).map fun i => (i * ie.size, ie.size))
    | _, _ => none
  | some it, some (.struct fs) => match it.zero, fs.toList.mapM (fun f => (P.info? f.type).map fun i => (f.offset, i.size)) with
    | some z, some pl => some (z.cells.toList, pl)
    | _, _ => none
  | _, _ => none

theorem fillA_place {p q : Nat → Option (Nat × Nat)} : ∀ (parts : List (Nat × AV)) (cs : List AV) (ws : List AV), (∀ i s, p i = some s → q i = some s) → fillA p cs parts = some ws → fillA q cs parts = some ws := by
  intro parts
  induction parts with
  | nil => intro cs ws h hf; exact hf
  | cons x parts ih =>
    intro cs ws h hf
    obtain ⟨i, v⟩ := x
    simp only [fillA] at hf ⊢
    cases hp : p i with
    | none => rw [hp] at hf; cases hf
    | some os =>
      rw [hp] at hf
      rw [h i os hp]
      obtain ⟨off, s⟩ := os
      simp only at hf ⊢
      split at hf
      · rename_i hif; rw [if_pos hif]; exact ih _ _ h hf
      · cases hf

def partsOne (parts : List (Nat × AV)) : Prop := ∀ p ∈ parts, ∀ c ∈ p.2.cells, c.one = true

theorem parts_rel {R : RO} {ev : Operand → Value} {ρ : Operand → AV} (ha : ∀ x, VR R (ev x) (ρ x)) (parts : List (Nat × Operand)) (ho : partsOne (parts.map fun p => (p.1, ρ p.2))) :
    ∀ (j : Nat) (p : Nat × Value) (q : Nat × AV), (parts.map fun p => (p.1, ev p.2))[j]? = some p → (parts.map fun p => (p.1, ρ p.2))[j]? = some q → p.1 = q.1 ∧ VR R p.2 q.2 ∧ ∀ c ∈ q.2.cells, c.one = true := by
  intro j p q hp hq
  have hm := List.mem_of_getElem? hq
  simp only [List.getElem?_map, Option.map_eq_some_iff] at hp hq
  obtain ⟨x, hx, rfl⟩ := hp
  obtain ⟨y, hy, rfl⟩ := hq
  rw [hx] at hy
  cases hy
  exact ⟨rfl, ha _, ho _ hm⟩

theorem pr_build {ρ : Operand → AV} {t : TypeId} {parts : Array (Nat × Operand)} {zs : List Value} {pl : List (Nat × Nat)} (hl : layoutOf P t = some (zs, pl)) {u : AV}
    (ho : partsOne (parts.toList.map fun p => (p.1, ρ p.2))) (h : aBuild (zs.map .val) (pl[·]?) (parts.toList.map fun p => (p.1, ρ p.2)) u) :
    PRun P (fun ev => do pure (.value (← Instr.build t (parts.map fun (i, x) => (i, ev x))))) ρ u := by
  refine PRun.still fun R w ev ha _ => ?_
  obtain ⟨cs, hf, hu⟩ := h
  have main : ∀ place : Nat → Option (Nat × Nat), (∀ i s, pl[i]? = some s → place i = some s) → ∃ xs, Instr.fill place zs.toArray (parts.map fun (i, x) => (i, ev x)).toList = some (List.toArray xs) ∧ VRs R xs cs := by
    intro place hp
    have := fill_rel (place := place) (parts.toList.map fun p => (p.1, ev p.2)) (parts.toList.map fun p => (p.1, ρ p.2)) zs (zs.map .val) cs (VRs.ofVals R zs) (by simp) (parts_rel ha _ ho) (fillA_place _ _ _ hp hf)
    simpa using this
  unfold layoutOf at hl
  cases hit : P.info? t with
  | none => rw [hit] at hl; cases hl
  | some it =>
    rw [hit] at hl
    cases hun : P.underlying t with
    | none => rw [hun] at hl; cases hl
    | some d =>
      rw [hun] at hl
      cases d with
      | array n e =>
        simp only at hl
        cases hz : it.zero with
        | none => rw [hz] at hl; cases hl
        | some z =>
          rw [hz] at hl
          cases hie : P.info? e with
          | none => rw [hie] at hl; cases hl
          | some ie =>
            rw [hie] at hl
            simp only [Option.some.injEq, Prod.mk.injEq] at hl
            obtain ⟨rfl, rfl⟩ := hl
            obtain ⟨xs, hx, hr⟩ := main (fun i => some (i * ie.size, ie.size)) (fun i s hs => by
              simp only [List.getElem?_map, Option.map_eq_some_iff] at hs
              obtain ⟨k, hk, rfl⟩ := hs
              rw [List.getElem?_eq_some_iff] at hk
              obtain ⟨_, hk⟩ := hk
              simp at hk
              rw [hk])
            refine ⟨.agg (List.toArray xs), ?_, by rw [hu]; exact VR.agg' hr⟩
            have hb : P.built t (parts.map fun (i, x) => (i, ev x)).toList = some (List.toArray xs) := by
              unfold Program.built
              simp only [hit, hun, hz, hie]
              simpa using hx
            simp [run_build w t _ _ hb]
      | struct fs =>
        simp only at hl
        cases hz : it.zero with
        | none => rw [hz] at hl; cases hl
        | some z =>
          rw [hz] at hl
          cases hpl : fs.toList.mapM (fun f => (P.info? f.type).map fun i => (f.offset, i.size)) with
          | none => rw [hpl] at hl; cases hl
          | some pl' =>
            rw [hpl] at hl
            simp only [Option.some.injEq, Prod.mk.injEq] at hl
            obtain ⟨rfl, rfl⟩ := hl
            obtain ⟨xs, hx, hr⟩ := main (pl'.toArray[·]?) (fun i s hs => by simpa using hs)
            refine ⟨.agg (List.toArray xs), ?_, by rw [hu]; exact VR.agg' hr⟩
            have hb : P.built t (parts.map fun (i, x) => (i, ev x)).toList = some (List.toArray xs) := by
              unfold Program.built
              simp only [hit, hun, hz, hpl]
              simpa using hx
            simp [run_build w t _ _ hb]
      | _ => cases hl

/-- An element's zero value and shape, for a literal of a slice. -/
def zeroOf (P : Program) (t : TypeId) : Option (TypeId × List Value × Nat) := match P.underlying t with
  | some (.slice e) => match P.info? e with
    | some i => match i.zero with
      | some z => if z.cells.size = i.size ∧ 0 < i.size then some (e, z.cells.toList, i.size) else none
      | none => none
    | none => none
  | _ => none
theorem zeroOf_run {t e : TypeId} {zs : List Value} {s : Nat} (h : zeroOf P t = some (e, zs, s)) : P.underlying t = some (.slice e) ∧ ∃ i z, P.info? e = some i ∧ i.zero = some z ∧ z.cells.toList = zs ∧ zs.length = s ∧ i.size = s ∧ 0 < s := by
  unfold zeroOf at h
  cases hu : P.underlying t with
  | none => rw [hu] at h; cases h
  | some d =>
    rw [hu] at h
    cases d with
    | slice e' =>
      simp only at h
      cases hi : P.info? e' with
      | none => rw [hi] at h; cases h
      | some i =>
        rw [hi] at h
        simp only at h
        cases hz : i.zero with
        | none => rw [hz] at h; cases h
        | some z =>
          rw [hz] at h
          simp only at h
          split at h
          · rename_i hc
            simp only [Option.some.injEq, Prod.mk.injEq] at h
            obtain ⟨rfl, rfl, rfl⟩ := h
            exact ⟨rfl, i, z, hi, hz, rfl, by simpa using hc.1, rfl, hc.2⟩
          · cases h
    | _ => cases h

theorem flatten_replicate_get (zs : List Value) : ∀ (n j : Nat), j < n * zs.length → (List.replicate n zs).flatten[j]? = zs[j % zs.length]? := by
  intro n
  induction n with
  | zero => intro j hj; simp at hj
  | succ n ih =>
    intro j hj
    rw [List.replicate_succ, List.flatten_cons]
    rcases Nat.lt_or_ge j zs.length with h | h
    · rw [List.getElem?_append_left h, Nat.mod_eq_of_lt h]
    · rw [List.getElem?_append_right h, ih _ (by rw [Nat.add_mul, Nat.one_mul] at hj; omega), Nat.mod_eq_sub_mod h]

theorem zero_cells (zs : List Value) (n : Nat) (hz : 0 < zs.length) : ((Array.range (n * zs.length)).map fun i => zs.toArray[i % zs.toArray.size]!) = ((List.replicate n zs).flatten).toArray := by
  apply Array.ext'
  apply List.ext_getElem?
  intro j
  rcases Nat.lt_or_ge j (n * zs.length) with h | h
  · have hm : j % zs.length < zs.length := Nat.mod_lt _ hz
    rw [show ((List.replicate n zs).flatten.toArray).toList = (List.replicate n zs).flatten from rfl, flatten_replicate_get zs n j h]
    simp [h, hm]
  · rw [List.getElem?_eq_none (by simp; omega), List.getElem?_eq_none (by simp; omega)]

/-- A literal of a slice, as it runs: a new row. -/
theorem run_buildSlice {t e : TypeId} {zs : List Value} {s n : Nat} (hz : zeroOf P t = some (e, zs, s)) (hn : n * s ≤ 16777216) {R : RO} {ev : Operand → Value} {ρ : Operand → AV} (ha : ∀ x, VR R (ev x) (ρ x)) (parts : Array (Nat × Operand))
    (ho : partsOne (parts.toList.map fun p => (p.1, ρ p.2))) {us : List AV} (hf : fillA (fun i => some (i * s, s)) ((List.replicate n (zs.map AV.val)).flatten) (parts.toList.map fun p => (p.1, ρ p.2)) = some us) (w : World) :
    ∃ xs, VRs R xs us ∧ (Instr.buildSlice t n (parts.map fun x => (x.1, ev x.2))).run P w = .ok (.slice (some ⟨w.heap.size, 0, none⟩) n n) (w.alloc (.cells (List.toArray xs) e)) := by
  obtain ⟨hu, i, z, hi, hiz, hzs, hlen, hsz, hpos⟩ := zeroOf_run hz
  have e1 : (List.replicate n (zs.map AV.val)).flatten = ((List.replicate n zs).flatten).map .val := by
    simp [List.map_flatten]
  rw [e1] at hf
  obtain ⟨xs, hx, hr⟩ := fill_rel (place := fun i => some (i * s, s)) (parts.toList.map fun p => (p.1, ev p.2)) _ _ _ _ (VRs.ofVals R _) (by simp) (parts_rel ha _ ho) hf
  refine ⟨xs, hr, ?_⟩
  have hzt : z.cells = zs.toArray := by rw [← hzs]
  have hcell : ((Array.range (n * s)).map fun i => (if n * s = 0 then (#[] : Array Value) else z.cells)[i % (if n * s = 0 then (#[] : Array Value) else z.cells).size]!) = ((List.replicate n zs).flatten).toArray := by
    by_cases h0 : n * s = 0
    · have hn0 : n = 0 := by
        rcases Nat.mul_eq_zero.1 h0 with h | h
        · exact h
        · omega
      subst hn0
      simp
    · rw [if_neg h0, hzt, ← hlen]
      exact zero_cells zs n (by omega)
  have hparts : (parts.map fun x => (x.1, ev x.2)).toList = parts.toList.map fun p => (p.1, ev p.2) := by simp
  have hlim : ¬ (2 ^ 24 < n * s) := by omega
  have hfill : ∀ zero : Array Value, ((Array.range (n * s)).map fun i => zero[i % zero.size]!) = ((List.replicate n zs).flatten).toArray →
      Instr.fill (fun i => some (i * s, s)) ((Array.range (n * s)).map fun i => zero[i % zero.size]!) (parts.map fun x => (x.1, ev x.2)).toList = some (List.toArray xs) := by
    intro zero hzero
    rw [hzero, hparts, hx]
  by_cases h0 : n * s = 0
  · rw [if_pos h0] at hcell
    have := hfill #[] hcell
    unfold Instr.buildSlice
    simp only [Sem.run_bind, run_underlying hu, Result.andThen_ok, run_sizeOf hi, hsz, hlim, if_false, h0, if_true, Sem.run_pure]
    rw [h0] at this
    rw [if_neg (by omega)]
    simp only [Sem.run_bind, Sem.run_pure, Result.andThen_ok, this]
    rfl
  · rw [if_neg h0] at hcell
    have := hfill z.cells hcell
    unfold Instr.buildSlice
    simp only [Sem.run_bind, run_underlying hu, Result.andThen_ok, run_sizeOf hi, hsz, hlim, if_false, h0, Sem.run_pure]
    have hzv : (zeroValue e).run P w = .ok z w := by simp [zeroValue, typeInfo, hi, hiz]
    simp only [Sem.run_bind, Sem.run_pure, Result.andThen_ok, hzv, this]
    rfl

end Go.Ab
