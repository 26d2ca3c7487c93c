/- The texts that this claim needs, part 9: a logic over abstract values, its steps, what the functions do. No condition of its own. -/
import Derived.ChangeKeysEq
import Derived.Test.YtfbdncmmnelklaaTableBytesK8
/- Arrays of bytes held against one another. -/
set_option linter.unusedVariables false
set_option linter.unusedSimpArgs false
namespace Go.Ab
abbrev bytv (b : UInt8) : Value := .int .u8 b.toNat
theorem run_items {P : Program} {e : TypeId} (he : P.underlying e = some (.int .u8)) (c c' : List UInt8) (d : Nat) (w : World) : ∀ is : List Nat, (∀ i ∈ is, i < c.length ∧ i < c'.length) →
    (Op.eqItems (d + 1) e 1 (c.map bytv).toArray (c'.map bytv).toArray is).run P w = .ok (is.all fun i => decide (c.getD i 0 = c'.getD i 0)) w
  | [], _ => by simp [Op.eqItems]
  | i :: is, h => by
    obtain ⟨h1, h2⟩ := h i List.mem_cons_self
    have ih := run_items he c c' d w is fun j hj => h j (List.mem_cons_of_mem _ hj)
    have p1 : (part e (c.map bytv).toArray (i * 1)).run P w = .ok (bytv (c.getD i 0)) w := part_plain he rfl (by simp [List.getD_eq_getElem?_getD, h1]) w
    have p2 : (part e (c'.map bytv).toArray (i * 1)).run P w = .ok (bytv (c'.getD i 0)) w := part_plain he rfl (by simp [List.getD_eq_getElem?_getD, h2]) w
    have p3 : (Op.equalIn (d + 1) e (bytv (c.getD i 0)) (bytv (c'.getD i 0))).run P w = .ok (decide (c.getD i 0 = c'.getD i 0)) w := by
      rw [run_equalIn_int w d e .u8 .u8 _ _ he]
      congr 1
      rw [Bool.eq_iff_iff, beq_iff_eq, decide_eq_true_eq]
      constructor
      · intro h; exact UInt8.toNat_inj.1 (Int.ofNat.inj h)
      · intro h; rw [h]
    simp only [Op.eqItems, Sem.run_bind, p1, p2, p3, Result.andThen_ok, List.all_cons]
    by_cases hh : c.getD i 0 = c'.getD i 0
    · rw [decide_eq_true hh]; simpa using ih
    · rw [decide_eq_false hh]; simp
theorem all_same {c c' : List UInt8} {n : Nat} (h : c.length = n) (h' : c'.length = n) : ((List.range n).all fun i => decide (c.getD i 0 = c'.getD i 0)) = decide (c = c') := by
  rw [Bool.eq_iff_iff, List.all_eq_true, decide_eq_true_eq]
  constructor
  · intro hh
    apply List.ext_getElem (by omega)
    intro i h1 h2
    have := hh i (List.mem_range.2 (by omega))
    simpa [List.getD_eq_getElem?_getD, h1, h2] using this
  · rintro rfl i _; simp
section arr
variable {P : Program} {t : TypeId} {n : Nat} {c c' : List UInt8} {K : AV → Prop}
end arr
end Go.Ab

/- Reading numbers and texts. -/
set_option linter.unusedVariables false
set_option linter.unusedSimpArgs false
namespace Go.Ab
def codec_Get.mark : Mark := ⟨fun t => false, fun t => false, fun t => false, fun t => Nat.beq t 18, fun t => false⟩
def codec_Get.ann : Ann := ⟨fun n => bif Nat.beq n 3 then [5, 12, 13, 14] else [], fun n => none, fun n => none⟩
def ref01_Get.mark : Mark := ⟨fun t => false, fun t => false, fun t => false, fun t => false, fun t => false⟩
def ref01_Get.ann : Ann := ⟨fun n => bif Nat.beq n 3 then [0, 5, 6] else [], fun n => none, fun n => none⟩
def codec_Text.mark : Mark := ⟨fun t => Nat.beq t 11, fun t => false, fun t => false, fun t => false, fun t => false⟩
def codec_Text.ann : Ann := ⟨fun n => [], fun n => none, fun n => none⟩
def ref01_Text.mark : Mark := ⟨fun t => Nat.beq t 10, fun t => false, fun t => false, fun t => false, fun t => false⟩
def ref01_Text.ann : Ann := ⟨fun n => [], fun n => none, fun n => none⟩
end Go.Ab

/- Reading an entry. -/
set_option linter.unusedVariables false
set_option linter.unusedSimpArgs false
namespace Go.Ab
def entry_reader_number.mark : Mark := ⟨fun t => Nat.beq t 16, fun t => false, fun t => false, fun t => false, fun t => false⟩
def entry_reader_number.ann : Ann := ⟨fun n => [], fun n => none, fun n => none⟩
def entry_reader_text.mark : Mark := ⟨fun t => Nat.beq t 16, fun t => false, fun t => false, fun t => false, fun t => false⟩
def entry_reader_text.ann : Ann := ⟨fun n => [], fun n => none, fun n => none⟩
def entry_Parse.mark : Mark := ⟨fun t => Nat.beq t 45, fun t => false, fun t => false, fun t => Nat.beq t 14 || Nat.beq t 27, fun t => false⟩
def entry_Parse.ann : Ann := ⟨fun n => [], fun n => bif Nat.beq n 8 then some [2, 5, 7] else none, fun n => bif Nat.beq n 5 then some [2, 5, 7] else bif Nat.beq n 10 then some [2, 3, 4] else none⟩
end Go.Ab

/- Layer 11: what is shown in any case; TableLevels, TableKnown. -/
set_option linter.unusedVariables false
set_option linter.unusedSimpArgs false
namespace Go.Ab
abbrev TabT : TypeId := 34
def tabV (lev n : Int) (d f g : List UInt8) : List Value := .int .i64 lev :: .int .i64 n :: (d.map bytv ++ [.string ⟨f.toArray⟩, .string ⟨g.toArray⟩])
theorem eqFields_same {P : Program} (d : Nat) (xs : Array Value) (w : World) : ∀ fs : List Field, (∀ f ∈ fs, ∃ a, (part f.type xs f.offset).run P w = .ok a w ∧ (Op.equalIn d f.type a a).run P w = .ok true w) → (Op.eqFields d xs xs fs).run P w = .ok true w
  | [], _ => by simp [Op.eqFields]
  | f :: fs, h => by
    obtain ⟨a, h1, h2⟩ := h f List.mem_cons_self
    have ih := eqFields_same d xs w fs fun g hg => h g (List.mem_cons_of_mem _ hg)
    by_cases hn : f.name = "_"
    · simp [Op.eqFields, hn, ih]
    · simp [Op.eqFields, hn, Sem.run_bind, h1, h2, Result.andThen_ok, ih]
def fieldIs (P : Program) (f : Field) : Nat → Bool
  | 0 => f.offset == 0 && (match P.underlying f.type with | some (.int .i64) => true | _ => false)
  | 1 => f.offset == 1 && (match P.underlying f.type with | some (.int .i64) => true | _ => false)
  | 2 => f.offset == 2 && (match P.underlying f.type with | some (.array 32 e) => (match P.underlying e with | some (.int .u8) => true | _ => false) && (P.info? e).isSome && P.cellsOf e == 1 && P.cellsOf f.type == 32 | _ => false) && (P.info? f.type).isSome && !P.eqGuardType P.depth f.type
  | 3 => f.offset == 34 && (match P.underlying f.type with | some .string => true | _ => false)
  | _ => f.offset == 35 && (match P.underlying f.type with | some .string => true | _ => false)
def fieldsAre (P : Program) (t : TypeId) : Bool := match (P.fieldsOf t).toList with
  | [f0, f1, f2, f3, f4] => fieldIs P f0 0 && fieldIs P f1 1 && fieldIs P f2 2 && fieldIs P f3 3 && fieldIs P f4 4 && !P.stoodInHeld t && (match P.underlying t with | some (.struct _) => true | _ => false) && !P.eqGuardType P.depth t
  | _ => false
theorem tab_fields : fieldsAre Go.Proofs.Try.prog TabT = true := by kernel_rfl
theorem run_tab (lev n : Int) (d kf kl : List UInt8) (hd : d.length = 32) (w : World) : (Op.equalIn 10000 TabT (.agg (tabV lev n d kf kl).toArray) (.agg (tabV lev n d kf kl).toArray)).run Go.Proofs.Try.prog w = .ok true w := by
  have h := tab_fields
  unfold fieldsAre at h
  split at h
  · rename_i f0 f1 f2 f3 f4 hf
    simp only [Bool.and_eq_true, Bool.not_eq_true'] at h
    obtain ⟨⟨⟨⟨⟨⟨⟨k0, k1⟩, k2⟩, k3⟩, k4⟩, hh⟩, hs⟩, hg⟩ := h
    have hu : Program.underlying Go.Proofs.Try.prog TabT = some (.struct (Program.fieldsOf Go.Proofs.Try.prog TabT)) := by
      split at hs
      · rename_i fs hfs
        rw [Program.fieldsOf, hfs]
      · cases hs
    show (Op.equalIn (9999 + 1) TabT _ _).run Go.Proofs.Try.prog w = _
    rw [run_equalIn_struct w 9999 TabT _ _ hu hh, hf]
    refine eqFields_same 9999 _ w _ fun f hfm => ?_
    have e2 : (d.map bytv).length = 32 := by simpa using hd
    simp only [List.mem_cons, List.not_mem_nil, or_false] at hfm
    rcases hfm with rfl | rfl | rfl | rfl | rfl
    · simp only [fieldIs, Bool.and_eq_true, beq_iff_eq] at k0
      obtain ⟨ho, ht⟩ := k0
      split at ht
      · rename_i hu
        rw [ho]
        exact ⟨_, part_plain hu rfl (v := .int .i64 lev) (by simp [tabV]) w, by rw [show (9999 : Nat) = 9998 + 1 from rfl, run_equalIn_int w 9998 _ .i64 .i64 _ _ hu]; simp⟩
      · cases ht
    · simp only [fieldIs, Bool.and_eq_true, beq_iff_eq] at k1
      obtain ⟨ho, ht⟩ := k1
      split at ht
      · rename_i hu
        rw [ho]
        exact ⟨_, part_plain hu rfl (v := .int .i64 n) (by simp [tabV]) w, by rw [show (9999 : Nat) = 9998 + 1 from rfl, run_equalIn_int w 9998 _ .i64 .i64 _ _ hu]; simp⟩
      · cases ht
    · simp only [fieldIs, Bool.and_eq_true, beq_iff_eq] at k2
      obtain ⟨⟨⟨ho, ht⟩, hi⟩, _⟩ := k2
      obtain ⟨i, hi⟩ := Option.isSome_iff_exists.1 hi
      split at ht
      · rename_i e hu
        simp only [Bool.and_eq_true, beq_iff_eq] at ht
        obtain ⟨⟨⟨h1, h2⟩, h3⟩, h4⟩ := ht
        obtain ⟨j, h2⟩ := Option.isSome_iff_exists.1 h2
        split at h1
        · rename_i hue
          rw [ho]
          have hx : ((tabV lev n d kf kl).toArray.extract 2 (2 + 32)) = (d.map bytv).toArray := by
            rw [← Array.toList_inj, Array.toList_extract]
            simp only [List.extract, tabV]
            show ((d.map bytv ++ [_, _]).take 32) = _
            rw [List.take_append_of_le_length (by omega), List.take_of_length_le (by omega)]
          refine ⟨.agg (d.map bytv).toArray, ?_, ?_⟩
          · have hsz : i.size = 32 := by
              have := h4
              simpa [Program.cellsOf, hi] using this
            rw [← hx]; simp [part, isAgg, Sem.run_bind, run_underlying hu, run_sizeOf hi, Result.andThen_ok, hsz]
          · rw [show (9999 : Nat) = 9997 + 1 + 1 from rfl, run_equalIn_array w (9997 + 1) _ _ hu h2, h3, run_items hue d d 9997 w _ (fun i hi => by have := List.mem_range.1 hi; omega), all_same hd hd]
            simp
        · cases h1
      · cases ht
    · simp only [fieldIs, Bool.and_eq_true, beq_iff_eq] at k3
      obtain ⟨ho, ht⟩ := k3
      split at ht
      · rename_i hu
        rw [ho]
        exact ⟨_, part_plain hu rfl (v := .string ⟨kf.toArray⟩) (by simp [tabV, e2, hd]) w, by rw [show (9999 : Nat) = 9998 + 1 from rfl, run_equalIn_string w 9998 _ _ _ hu]; simp⟩
      · cases ht
    · simp only [fieldIs, Bool.and_eq_true, beq_iff_eq] at k4
      obtain ⟨ho, ht⟩ := k4
      split at ht
      · rename_i hu
        rw [ho]
        exact ⟨_, part_plain hu rfl (v := .string ⟨kl.toArray⟩) (by simp [tabV, e2, hd]) w, by rw [show (9999 : Nat) = 9998 + 1 from rfl, run_equalIn_string w 9998 _ _ _ hu]; simp⟩
      · cases ht
  · cases h
theorem tab_guard : Program.eqGuardType Go.Proofs.Try.prog (Program.depth Go.Proofs.Try.prog) TabT = false := by kernel_rfl
theorem tab_plain (lev n : Int) (d f g : List UInt8) : plainV (tabA lev n d f g) = some (.agg (tabV lev n d f g).toArray) := by
  have h : allVals (d.map byt ++ [S f, S g]) = some (d.map bytv ++ [.string ⟨f.toArray⟩, .string ⟨g.toArray⟩]) := by
    induction d with
    | nil => rfl
    | cons a c ih => simp [allVals, ih, byt]
  simp [plainV, allVals, h, tabV]
instance eqTab {lev n : Int} {d f g : List UInt8} {K : AV → Prop} [hd : Len32 d] : Stp (Do (aBin Go.Proofs.Try.prog .eql TabT (tabA lev n d f g) (tabA lev n d f g)) K) (K (B true)) := ⟨fun hK => by
  refine ⟨_, (aBin_plain (tab_plain _ _ _ _ _) (tab_plain _ _ _ _ _) fun xo yo w => ?_).2 rfl, hK⟩
  simp only [Sem.run_bind, run_eqGuard_agg w .eql TabT xo yo _ _ tab_guard, Result.andThen_ok, run_eql_struct, run_tab lev n d f g hd.len w]⟩
section tabld
variable {b : Nat} {t : TypeId} {lev n : Int} {d f g : List UInt8} {σ rest : Store} {put : Ent → Store} {k : AV → Store → Prop} {K : AV → Prop}
theorem tab_drop [hc : Len32 d] : (tabCs lev n d f g).drop 34 = [S f, S g] := by
  show (d.map byt ++ [S f, S g]).drop 32 = _
  rw [List.drop_left' (by simp [hc.len])]
theorem tab_drop1 [hc : Len32 d] : (tabCs lev n d f g).drop 35 = [S g] := by
  rw [show (35 : Nat) = 34 + 1 from rfl, ← List.drop_drop, tab_drop]; rfl
instance (priority := 75) ldT34 [hc : Len32 d] [hv : VarAt b σ t (tabCs lev n d f g) put rest] : Stp (Do (loadA false 1 (ptrAt b 34) σ) K) (K (S f)) := ⟨fun hK => by
  obtain ⟨σ1, σ2, e, _⟩ := hv.at_
  exact ⟨_, ⟨by decide, fun _ => rfl, rfl, t, _, by rw [e]; exact List.mem_append.2 (.inr (List.mem_cons_self ..)), by rw [tabCs_len]; show 34 + 1 ≤ 36; omega, by show _ = mkV false (((tabCs lev n d f g).drop 34).take 1); rw [tab_drop]; rfl⟩, hK⟩⟩
instance (priority := 75) ldT35 [hc : Len32 d] [hv : VarAt b σ t (tabCs lev n d f g) put rest] : Stp (Do (loadA false 1 (ptrAt b 35) σ) K) (K (S g)) := ⟨fun hK => by
  obtain ⟨σ1, σ2, e, _⟩ := hv.at_
  exact ⟨_, ⟨by decide, fun _ => rfl, rfl, t, _, by rw [e]; exact List.mem_append.2 (.inr (List.mem_cons_self ..)), by rw [tabCs_len]; show 35 + 1 ≤ 36; omega, by show _ = mkV false (((tabCs lev n d f g).drop 35).take 1); rw [tab_drop1]; rfl⟩, hK⟩⟩
end tabld
/-! what is known of a table -/
section told
variable {a : AV} {m : SM} {b : Int} {l : List En} {lev : Int}
theorem descZ (h : ¬ (fit l = true ∧ 0 ≤ lev ∧ lev < 4)) (hl : l.length ≤ 1000000) : aPure Go.Proofs.Try.prog 15 [trA b, I .i64 lev, .lst 4 (l.map En.av) m] (.tuple [tabA 0 0 zeroD [] [], I .i64 1]) := by
  refine ACalls.fin (table_Describe.go ?_)
  unfold table_Describe.sh
  repeat' (first | with_reducible apply Stp.go | with_reducible refine imp fun _ => ?_ | (with_reducible refine hyp ?_ ?_; first | assumption | exact leftT_mem (by assumption)) | (with_reducible refine need ?_ ?_; first | trivial | omega | exact ⟨by assumption, by omega⟩ | (simp only [List.length_append, List.length_cons, List.length_nil, List.length_map, List.length_take, List.length_drop, List.length_replicate, List.length_set]; omega)) | (with_reducible refine fact ?_ ?_; first | trivial | exact ⟨rfl, rfl⟩ | kernel_rfl) | with_reducible refine choT (by assumption) ?_ | with_reducible refine choF (by assumption) ?_ | with_reducible refine choF' (by assumption) ?_ | (with_reducible refine altT ?_ ?_; first | omega | (simp only [List.length_append, List.length_cons, List.length_nil, List.length_map, List.length_take, List.length_drop, List.length_replicate, List.length_set]; omega)) | with_reducible refine altF ?_ | with_reducible refine all fun _ => ?_ | with_reducible refine both ?_ ?_ | (with_reducible refine choT ?_ ?_; omega) | (with_reducible refine choF ?_ ?_; omega) | with_reducible refine cho (fun _ => ?_) (fun _ => ?_))
  all_goals first
    | (exfalso; apply h; refine ⟨?_, ?_, ?_⟩ <;> first | assumption | omega)
    | (refine (stTab (lev := 0) (n := 0) (d := zeroD) (f := []) (g := [])).go ?_
       repeat' (first | with_reducible apply Stp.go | with_reducible refine imp fun _ => ?_ | (with_reducible refine hyp ?_ ?_; first | assumption | exact leftT_mem (by assumption)) | (with_reducible refine need ?_ ?_; first | trivial | omega | exact ⟨by assumption, by omega⟩ | (simp only [List.length_append, List.length_cons, List.length_nil, List.length_map, List.length_take, List.length_drop, List.length_replicate, List.length_set]; omega)) | (with_reducible refine fact ?_ ?_; first | trivial | exact ⟨rfl, rfl⟩ | kernel_rfl) | with_reducible refine choT (by assumption) ?_ | with_reducible refine choF (by assumption) ?_ | with_reducible refine choF' (by assumption) ?_ | (with_reducible refine altT ?_ ?_; first | omega | (simp only [List.length_append, List.length_cons, List.length_nil, List.length_map, List.length_take, List.length_drop, List.length_replicate, List.length_set]; omega)) | with_reducible refine altF ?_ | with_reducible refine all fun _ => ?_ | with_reducible refine both ?_ ?_ | (with_reducible refine choT ?_ ?_; omega) | (with_reducible refine choF ?_ ?_; omega) | with_reducible refine cho (fun _ => ?_) (fun _ => ?_))
       exact ⟨_, _, _, rfl, Sub.app_nil _, rfl, rfl⟩)
    | trace_state
end told
end Go.Ab

/- Layer 11: what is shown in any case; TableLevels, TableKnown. -/
set_option linter.unusedVariables false
set_option linter.unusedSimpArgs false
namespace Go.Ab
section told
variable {a : AV} {m : SM} {b : Int} {l : List En} {x : Int}
theorem desc11 [h : IsL a En.av 4 l m] {lev : Nat} (hx : x = (lev : Nat)) (hf : fit l = true) (hv : lev < 4) : PC Go.Proofs.Try.prog 15 [trA b, .val (.int .i64 x), a] True (.tuple [tabA x (l.length : Nat) (rootD b (l.map enB)) (l.getD 0 default).key (l.getD (l.length - 1) default).key, .val (.int .i64 0)]) := ⟨fun _ => by
  subst hx
  have h64 := (fit_right hf).1
  have hd : dFit lev l = true := by unfold dFit; rw [hf, decide_eq_true hv]; rfl
  have := (inferInstance : PC Go.Proofs.Try.prog 15 [trA b, .val (.int .i64 ((lev : Nat) : Int)), a] _ _).ct ⟨by omega, by omega⟩
  unfold dLev dCnt dRoot dFst dLst dErr at this
  simp only [if_pos hd] at this
  exact this⟩
theorem desc11Z [h : IsL a En.av 4 l m] (hf : ¬ (fit l = true ∧ 0 ≤ x ∧ x < 4)) (hl : l.length ≤ 1000000) : PC Go.Proofs.Try.prog 15 [trA b, .val (.int .i64 x), a] True (.tuple [tabA 0 0 zeroD [] [], .val (.int .i64 1)]) := ⟨fun _ => ⟨[trA b, I .i64 x, .lst 4 (l.map En.av) m], ⟨SubV.refl _, SubV.refl _, h.sub, trivial⟩, descZ hf hl⟩⟩
end told
def law11_shown.mark : Mark := ⟨fun t => Nat.beq t 10 || Nat.beq t 16 || Nat.beq t 64 || Nat.beq t 67, fun t => false, fun t => false, fun t => false, fun t => false⟩
def law11_shown.ann : Ann := ⟨fun n => [], fun n => none, fun n => none⟩
/-- 'marlstone/marlstonelaw11.shown' -/
def law11_shown.sh (σ : Store) (Q : AEnd → Store → Prop) : Prop :=
  Do (aLit [.val (.string ⟨#[]⟩), .val (.string ⟨#[]⟩), .val (.bool false), .val (.int .i64 0)] [(0, 1), (1, 1), (2, 1), (3, 1)] [(0, (.val (.string ⟨#[97]⟩))), (1, (.val (.string ⟨#[118]⟩))), (3, (.val (.int .i64 1)))]) fun t6 =>
  Do (aSlLit (mkE [.val (.string ⟨#[]⟩), .val (.string ⟨#[]⟩), .val (.bool false), .val (.int .i64 0)]) 4 1 [(0, t6)]) fun t7 =>
  Do (aPureC Go.Proofs.Try.prog 13 [t7]) fun t10 =>
  Do (aExt t10 0) fun t11 =>
  Do (aExt t10 1) fun t12 =>
  Do (aLit [.val (.int .i64 0)] [(0, 1)] [(0, (.val (.int .i64 256)))]) fun t14 =>
  Do (aPureC Go.Proofs.Try.prog 15 [t14, (.val (.int .i64 2)), t7]) fun t16 =>
  Do (aExt t16 0) fun t17 =>
  Do (aExt t16 1) fun t18 =>
  aNewVar 34 [.val (.int .i64 0), .val (.int .i64 0), .val (.int .u8 0), .val (.int .u8 0), .val (.int .u8 0), .val (.int .u8 0), .val (.int .u8 0), .val (.int .u8 0), .val (.int .u8 0), .val (.int .u8 0), .val (.int .u8 0), .val (.int .u8 0), .val (.int .u8 0), .val (.int .u8 0), .val (.int .u8 0), .val (.int .u8 0), .val (.int .u8 0), .val (.int .u8 0), .val (.int .u8 0), .val (.int .u8 0), .val (.int .u8 0), .val (.int .u8 0), .val (.int .u8 0), .val (.int .u8 0), .val (.int .u8 0), .val (.int .u8 0), .val (.int .u8 0), .val (.int .u8 0), .val (.int .u8 0), .val (.int .u8 0), .val (.int .u8 0), .val (.int .u8 0), .val (.int .u8 0), .val (.int .u8 0), .val (.string ⟨#[]⟩), .val (.string ⟨#[]⟩)] σ fun t4 σ =>
  storeA 36 t4 t17 σ fun u σ_1 =>
  Do (aBuiltin Go.Proofs.Try.prog .len #[25] [t11]) fun t20 =>
  Do (aBin Go.Proofs.Try.prog .eql 3 t20 (.val (.int .i64 30))) fun t21 =>
  Do (aGuard t21 true (aIs t12)) fun t23 =>
  Do (aGuard t21 true (aBin Go.Proofs.Try.prog .eql 26 t23 (.val (.int .i64 0)))) fun t24 =>
  Do (aPick t21 t24 (.val (.bool false))) fun t25 =>
  Do (aGuard t25 true (aIs t11)) fun t27 =>
  Do (aGuard t25 true (aSlice .slice 1 t27 none (some (.val (.int .i64 4))) none)) fun t28 =>
  Do (aGuard t25 true (aConvBS t28)) fun t29 =>
  Do (aGuard t25 true (aBin Go.Proofs.Try.prog .eql 9 t29 (.val (.string ⟨#[77, 65, 82, 76]⟩)))) fun t30 =>
  Do (aPick t25 t30 (.val (.bool false))) fun t31 =>
  Do (aGuard t31 true (aIs t11)) fun t33 =>
  Do (aGuard t31 true (aSlice .slice 1 t33 (some (.val (.int .i64 19))) none none)) fun t34 =>
  Do (aGuard t31 true (aConvBS t34)) fun t35 =>
  Do (aGuard t31 true (aBin Go.Proofs.Try.prog .eql 9 t35 (.val (.string ⟨#[1, 97, 15, 0, 0, 0, 1, 0, 0, 0, 19]⟩)))) fun t36 =>
  Do (aPick t31 t36 (.val (.bool false))) fun t37 =>
  Do (aGuard t37 true (aFieldAddr 0 1 t4)) fun t39 =>
  Do (aGuard t37 true (loadA false 1 t39 σ_1)) fun t40 =>
  Do (aGuard t37 true (aBin Go.Proofs.Try.prog .eql 3 t40 (.val (.int .i64 2)))) fun t41 =>
  Do (aPick t37 t41 (.val (.bool false))) fun t42 =>
  Do (aGuard t42 true (aFieldAddr 1 1 t4)) fun t44 =>
  Do (aGuard t42 true (loadA false 1 t44 σ_1)) fun t45 =>
  Do (aGuard t42 true (aBin Go.Proofs.Try.prog .eql 3 t45 (.val (.int .i64 1)))) fun t46 =>
  Do (aPick t42 t46 (.val (.bool false))) fun t47 =>
  Do (aGuard t47 true (aFieldAddr 34 1 t4)) fun t49 =>
  Do (aGuard t47 true (loadA false 1 t49 σ_1)) fun t50 =>
  Do (aGuard t47 true (aBin Go.Proofs.Try.prog .eql 9 t50 (.val (.string ⟨#[97]⟩)))) fun t51 =>
  Do (aPick t47 t51 (.val (.bool false))) fun t52 =>
  Do (aGuard t52 true (aFieldAddr 35 1 t4)) fun t54 =>
  Do (aGuard t52 true (loadA false 1 t54 σ_1)) fun t55 =>
  Do (aGuard t52 true (aBin Go.Proofs.Try.prog .eql 9 t55 (.val (.string ⟨#[97]⟩)))) fun t56 =>
  Do (aPick t52 t56 (.val (.bool false))) fun t57 =>
  Do (aGuard t57 true (aIs t18)) fun t59 =>
  Do (aGuard t57 true (aBin Go.Proofs.Try.prog .eql 26 t59 (.val (.int .i64 0)))) fun t60 =>
  Do (aPick t57 t60 (.val (.bool false))) fun t61 =>
  Do (aGuard t61 true (aIs t7)) fun t63 =>
  Do (aGuard t61 true (aPureC Go.Proofs.Try.prog 20 [t63])) fun t64 =>
  Do (aPick t61 t64 (.val (.bool false))) fun t65 =>
  Do (aGuard t65 true (aPureC Go.Proofs.Try.prog 20 [(.val (.slice none 0 0))])) fun t67 =>
  Do (aGuard t65 true (aUn Go.Proofs.Try.prog .not t67)) fun t68 =>
  Do (aPick t65 t68 (.val (.bool false))) fun t69 =>
  Q (.ret t69) σ_1
theorem law11_shown.eq (σ : Store) (Q : AEnd → Store → Prop) : vc (semOf Go.Proofs.Try.prog law11_shown.mark) Go.Proofs.Try.f11.ntmps law11_shown.ann (bodyOf Go.Proofs.Try.f11) (endK [.tmp 0] Q) (argFr []) σ = law11_shown.sh  σ Q := by kernel_rfl
theorem law11_shown.go {σ : Store} {Q : AEnd → Store → Prop} (h : law11_shown.sh  σ Q) : ACalls Go.Proofs.Try.prog 11 [] σ Q :=
  acalls_of_eq [.tmp 0] Go.Proofs.Try.func11 (by kernel_rfl) (by kernel_rfl) (by kernel_rfl) (by kernel_rfl) (law11_shown.eq  σ Q) h
theorem shown11_ok : aPure Go.Proofs.Try.prog 11 [] (B true) := by
  refine ACalls.fin (law11_shown.go ?_)
  unfold law11_shown.sh
  have e1 : fit [⟨[97], [118], false, 1⟩] = true := by decide
  have e0 : fit [] = false := by decide
  have ec : chunksE [⟨[97], [118], false, 1⟩] = [[⟨[97], [118], false, 1⟩]] := by decide
  have eb : blkB [⟨[97], [118], false, 1⟩] = [0, 1, 97, 0, 1, 1, 118, 0, 0, 0, 0, 0, 0, 0, 1] := by
    simp [blkB, e1, blockBytes, blk, encE, sharedAt, common, fixed, put_small]
  have e2 : tbB [⟨[97], [118], false, 1⟩] = [77, 65, 82, 76, 0, 1, 97, 0, 1, 1, 118, 0, 0, 0, 0, 0, 0, 0, 1, 1, 97, 15, 0, 0, 0, 1, 0, 0, 0, 19] := by
    simp [tbB, e1, ec, partsB, headB, blocksB, indexB, idxE, eb, lettersB, fixed, put_small]
  have e3 : tbE [⟨[97], [118], false, 1⟩] = 0 := by simp [tbE, e1]
  have iD : ∀ {a : AV} {m : SM} [h : IsL a En.av 4 [⟨[97], [118], false, 1⟩] m], PC Go.Proofs.Try.prog 15 [trA 256, .val (.int .i64 2), a] True _ := desc11 (b := 256) (lev := 2) rfl e1 (by decide)
  have iB : ∀ {a : AV} {m : SM} [h : IsL a En.av 4 [⟨[97], [118], false, 1⟩] m], PC Go.Proofs.Try.prog 13 [a] True (.tuple [.lst 1 (([77, 65, 82, 76, 0, 1, 97, 0, 1, 1, 118, 0, 0, 0, 0, 0, 0, 0, 1, 1, 97, 15, 0, 0, 0, 1, 0, 0, 0, 19] : List UInt8).map byt) .ro, .val (.int .i64 0)]) := fun {a m h} => ⟨fun _ => by
    have := (inferInstance : PC Go.Proofs.Try.prog 13 [a] _ _).ct (show ([⟨[97], [118], false, 1⟩] : List En).length ≤ 1000000000 by decide)
    rw [e2, e3] at this
    exact this⟩
  repeat' (first | with_reducible apply Stp.go | with_reducible refine imp fun _ => ?_ | (with_reducible refine hyp ?_ ?_; first | assumption | exact leftT_mem (by assumption)) | (with_reducible refine need ?_ ?_; first | trivial | omega | exact ⟨by assumption, by omega⟩ | (simp only [List.length_append, List.length_cons, List.length_nil, List.length_map, List.length_take, List.length_drop, List.length_replicate, List.length_set]; omega)) | (with_reducible refine fact ?_ ?_; first | trivial | exact ⟨rfl, rfl⟩ | kernel_rfl) | with_reducible refine choT (by assumption) ?_ | with_reducible refine choF (by assumption) ?_ | with_reducible refine choF' (by assumption) ?_ | (with_reducible refine altT ?_ ?_; first | omega | (simp only [List.length_append, List.length_cons, List.length_nil, List.length_map, List.length_take, List.length_drop, List.length_replicate, List.length_set]; omega)) | with_reducible refine altF ?_ | with_reducible refine all fun _ => ?_ | with_reducible refine both ?_ ?_ | (with_reducible refine choT ?_ ?_; omega) | (with_reducible refine choF ?_ ?_; omega) | with_reducible refine cho (fun _ => ?_) (fun _ => ?_))
  all_goals first
    | exact ⟨_, _, _, rfl, Sub.app_nil _, rfl, rfl⟩
    | contradiction
    | (exfalso; rename_i h; exact h rfl)
    | (exfalso; rename_i h; exact h (by decide))
    | trace_state
instance shown11I : PC Go.Proofs.Try.prog 11 [] True (B true) := ⟨fun _ => PC.of shown11_ok⟩
end Go.Ab

/- Layer 11: TableBlocks. -/
set_option linter.unusedVariables false
set_option linter.unusedSimpArgs false
namespace Go.Ab
/-- The part of a list by its number. -/
def partE (L : List En) (q : Nat) : List En := (L.drop (16 * q)).take 16
theorem chunks_at (L : List En) (q : Nat) (h : 16 * q < L.length) : (chunksE L).drop q = partE L q :: (chunksE L).drop (q + 1) := by
  have hq : q < (chunksE L).length := by simp only [chunksE, List.length_map, List.length_range]; omega
  rw [List.drop_eq_getElem_cons hq]
  congr 1
  simp only [chunksE, List.getElem_map, List.getElem_range, partE]
theorem chunks_len (L : List En) : (chunksE L).length = (L.length + 15) / 16 := by simp [chunksE]
theorem chunks_part {L p : List En} (h : p ∈ chunksE L) : PartOf L p := by
  simp only [chunksE, List.mem_map, List.mem_range] at h
  obtain ⟨q, hq, rfl⟩ := h
  exact ⟨16 * q, by omega, rfl⟩
def law11_TableBlocks.mark : Mark := ⟨fun t => Nat.beq t 10 || Nat.beq t 12 || Nat.beq t 19 || Nat.beq t 37, fun t => false, fun t => false, fun t => false, fun t => false⟩
def law11_TableBlocks.ann : Ann := ⟨fun n => bif Nat.beq n 8 then [0, 3, 4, 6, 7] else [], fun n => none, fun n => none⟩
end Go.Ab

/- ref11.Bytes. -/
set_option linter.unusedVariables false
set_option linter.unusedSimpArgs false
namespace Go.Ab
theorem chunk_take {L : List En} (q : Nat) (h : 16 * q < L.length) : (chunksE L).take (q + 1) = (chunksE L).take q ++ [partE L q] := by
  have hd := chunks_at L q h
  have hq : q < (chunksE L).length := by rw [chunks_len]; omega
  rw [List.take_add_one, List.getElem?_eq_getElem hq]
  have h2 := List.drop_eq_getElem_cons hq
  rw [hd] at h2
  injection h2 with h3 h4
  rw [← h3]; rfl
theorem part_slice (L : List En) (q : Nat) : (L.take (min L.length (16 * q + 16))).drop (16 * q) = partE L q := by
  unfold partE
  rw [List.drop_take]
  by_cases hm : L.length ≤ 16 * q + 16
  · rw [Nat.min_eq_left hm, List.take_of_length_le (by simp), List.take_of_length_le (by simp only [List.length_drop]; omega)]
  · rw [Nat.min_eq_right (by omega), show 16 * q + 16 - 16 * q = 16 by omega]
theorem part_head (L : List En) (q : Nat) (h : 16 * q < L.length) : (partE L q).getD 0 default = L.getD (16 * q) default := by
  rw [partE, List.getD_eq_getElem?_getD, List.getD_eq_getElem?_getD, List.getElem?_take_of_lt (by omega), List.getElem?_drop, Nat.add_zero]
def ref11_Bytes.mark : Mark := ⟨fun t => Nat.beq t 12 || Nat.beq t 30 || Nat.beq t 42 || Nat.beq t 46 || Nat.beq t 54 || Nat.beq t 58, fun t => false, fun t => false, fun t => Nat.beq t 41, fun t => false⟩
def ref11_Bytes.ann : Ann := ⟨fun n => bif Nat.beq n 8 then [0, 5, 6, 7, 8] else [], fun n => none, fun n => none⟩
/-- 'marlstone/marlstoneref11.Bytes' -/
def ref11_Bytes.sh (a0 : AV) (σ : Store) (Q : AEnd → Store → Prop) : Prop :=
  Do (aPureC Go.Proofs.Try.prog 35 [a0]) fun t12 =>
  Do (aUn Go.Proofs.Try.prog .not t12) fun t14 =>
  aCond t14
    (Q (.ret (.tuple [(.val (.string ⟨#[]⟩)), (.val (.int .i64 1))])) σ)
    (aLoop (fun go vs σ =>
    At vs 0 fun s0 => At vs 1 fun s5 => At vs 2 fun s6 => At vs 3 fun s7 => At vs 4 fun s8 => Do (aBuiltin Go.Proofs.Try.prog .len #[22] [s0]) fun t17 =>
    Do (aBin Go.Proofs.Try.prog .lss 3 s8 t17) fun t18 =>
    aCond t18
      (Do (aBuiltin Go.Proofs.Try.prog .len #[22] [s0]) fun t25 =>
    Do (aBin Go.Proofs.Try.prog .add 3 s8 (.val (.int .i64 16))) fun t27 =>
    Do (aBuiltin Go.Proofs.Try.prog .min #[3, 3] [t25, t27]) fun t28 =>
    Do (aSlice .slice 4 s0 (some s8) (some t28) none) fun t29 =>
    Do (aPureC Go.Proofs.Try.prog 36 [t29]) fun t30 =>
    Do (aExt t30 0) fun t31 =>
    Do (aExt t30 1) fun t32 =>
    Do (aBin Go.Proofs.Try.prog .add 9 s5 t31) fun t35 =>
    Do (aIndexAddr .slice 4 s0 s8) fun t39 =>
    Do (aFieldAddr 0 1 t39) fun t40 =>
    Do (loadF false 1 t40) fun t41 =>
    Do (aPureC Go.Proofs.Try.prog 38 [s6, t41]) fun t42 =>
    Do (aBuiltin Go.Proofs.Try.prog .len #[9] [t31]) fun t44 =>
    Do (fun x => aConvN 3 71 t44 x Go.Proofs.Try.prog) fun t45 =>
    Do (aPureC Go.Proofs.Try.prog 37 [t42, t45]) fun t46 =>
    Do (aBin Go.Proofs.Try.prog .add 3 s7 (.val (.int .i64 1))) fun t48 =>
    Do (aBin Go.Proofs.Try.prog .add 3 s8 (.val (.int .i64 16))) fun t20 =>
    go [s0, t35, t46, t48, t20] σ)
      (Do (aBin Go.Proofs.Try.prog .add 9 s5 s6) fun t51 =>
  Do (fun x => aConvN 3 73 s7 x Go.Proofs.Try.prog) fun t53 =>
  Do (aPureC Go.Proofs.Try.prog 39 [t51, t53]) fun t54 =>
  Do (aBuiltin Go.Proofs.Try.prog .len #[9] [s5]) fun t56 =>
  Do (fun x => aConvN 3 73 t56 x Go.Proofs.Try.prog) fun t57 =>
  Do (aPureC Go.Proofs.Try.prog 39 [t54, t57]) fun t58 =>
  Q (.ret (.tuple [t58, (.val (.int .i64 0))])) σ))
    [a0, (.val (.string ⟨#[77, 65, 82, 76]⟩)), (.val (.string ⟨#[]⟩)), (.val (.int .i64 0)), (.val (.int .i64 0))] σ)
theorem ref11_Bytes.eq (a0 : AV) (σ : Store) (Q : AEnd → Store → Prop) : vc (semOf Go.Proofs.Try.prog ref11_Bytes.mark) Go.Proofs.Try.f14.ntmps ref11_Bytes.ann (bodyOf Go.Proofs.Try.f14) (endK [.tmp 2, .tmp 3] Q) (argFr [a0]) σ = ref11_Bytes.sh a0 σ Q := by kernel_rfl
theorem ref11_Bytes.go {a0 : AV} {σ : Store} {Q : AEnd → Store → Prop} (h : ref11_Bytes.sh a0 σ Q) : ACalls Go.Proofs.Try.prog 14 [a0] σ Q :=
  acalls_of_eq [.tmp 2, .tmp 3] Go.Proofs.Try.func14 (by kernel_rfl) (by kernel_rfl) (by kernel_rfl) (by kernel_rfl) (ref11_Bytes.eq a0 σ Q) h
theorem ref11_Bytes_ok (l : List En) (m : SM) (hl : l.length ≤ 1000000000) : aPure Go.Proofs.Try.prog 14 [.lst 4 (l.map En.av) m] (.tuple [S (tbB l), I .i64 (tbE l : Nat)]) := by
  refine ACalls.fin (ref11_Bytes.go ?_)
  unfold ref11_Bytes.sh
  by_cases hf : fit l = true
  · have h64 := (fit_right hf).1
    have hps : ∀ ps : List (List En), (∀ p ∈ ps, PartOf l p) → (headB ps).length ≤ 4 + 20000 * ps.length ∧ (indexB ps).length ≤ 200 * ps.length := fun ps h => by
      have h2 : ∀ q ∈ ps, q.length ≤ 16 ∧ (q.getD 0 default).key.length ≤ 128 := fun q hq => by
        obtain ⟨h1, h2, h3⟩ := fit_part hf (h q hq)
        exact ⟨h3, (right_bounds ((fit_right h1).2.2.2 0 h2)).2.1⟩
      exact ⟨headB_le fun q hq => (h2 q hq).1, indexB_le h2⟩
    have hcl := chunks_len l
    repeat' (first | with_reducible apply Stp.go | with_reducible refine imp fun _ => ?_ | (with_reducible refine hyp ?_ ?_; first | assumption | exact leftT_mem (by assumption)) | (with_reducible refine need ?_ ?_; first | trivial | omega | exact ⟨by assumption, by omega⟩ | (simp only [List.length_append, List.length_cons, List.length_nil, List.length_map, List.length_take, List.length_drop, List.length_replicate, List.length_set]; omega)) | (with_reducible refine fact ?_ ?_; first | trivial | exact ⟨rfl, rfl⟩ | kernel_rfl) | with_reducible refine choT (by assumption) ?_ | with_reducible refine choF (by assumption) ?_ | with_reducible refine choF' (by assumption) ?_ | (with_reducible refine altT ?_ ?_; first | omega | (simp only [List.length_append, List.length_cons, List.length_nil, List.length_map, List.length_take, List.length_drop, List.length_replicate, List.length_set]; omega)) | with_reducible refine altF ?_ | with_reducible refine all fun _ => ?_ | with_reducible refine both ?_ ?_ | (with_reducible refine choT ?_ ?_; omega) | (with_reducible refine choF ?_ ?_; omega) | with_reducible refine cho (fun _ => ?_) (fun _ => ?_))
    all_goals first
      | contradiction
      | skip
    refine loopI (β := Nat) (fun q => q ≤ (chunksE l).length) (fun q => [.lst 4 (l.map En.av) m, S (headB ((chunksE l).take q)), S (indexB ((chunksE l).take q)), I .i64 (q : Nat), I .i64 ((16 * q : Nat) : Int)]) (fun _ => []) (fun q => (chunksE l).length - q) 0 (Nat.zero_le _) (Sub.refl _ _) ?_
    intro q hq
    obtain ⟨b1, b2⟩ := hps ((chunksE l).take q) fun p hp => chunks_part (List.mem_of_mem_take hp)
    have hql : ((chunksE l).take q).length = q := by rw [List.length_take]; omega
    by_cases hlt : 16 * q < l.length
    · obtain ⟨hfp, hp0, hp16⟩ := fit_part hf (⟨16 * q, hlt, rfl⟩ : PartOf l (partE l q))
      have hE : blkE (partE l q) = 0 := by simp [blkE, hfp]
      have hbl := blkB_le hp16
      have hpl := put_len64 (v := (l.getD (16 * q) default).key.length) (by
        have := (right_bounds ((fit_right hf).2.2.2 (16 * q) hlt)).2.1
        omega)
      have hkl := (right_bounds ((fit_right hf).2.2.2 (16 * q) hlt)).2.1
      have hx1 : (indexB ((chunksE l).take q) ++ (put (l.getD (16 * q) default).key.length ++ (l.getD (16 * q) default).key)).length ≤ 1000000 := by simp only [List.length_append]; omega
      have iB : PC Go.Proofs.Try.prog 36 [.lst 4 (((l.take (min l.length (16 * q + 16))).drop (16 * q)).map En.av) .ro] True (.tuple [S (blkB (partE l q)), .val (.int .i64 0)]) := ⟨fun _ => by
        rw [part_slice]
        have := PC.of (ref04_Bytes_ok (partE l q) .ro (by omega))
        rw [hE] at this
        exact this⟩
      have hqn : q < (chunksE l).length := by omega
      repeat' (first | with_reducible apply Stp.go | with_reducible refine imp fun _ => ?_ | (with_reducible refine hyp ?_ ?_; first | assumption | exact leftT_mem (by assumption)) | (with_reducible refine need ?_ ?_; first | trivial | omega | exact ⟨by assumption, by omega⟩ | (simp only [List.length_append, List.length_cons, List.length_nil, List.length_map, List.length_take, List.length_drop, List.length_replicate, List.length_set]; omega)) | (with_reducible refine fact ?_ ?_; first | trivial | exact ⟨rfl, rfl⟩ | kernel_rfl) | with_reducible refine choT (by assumption) ?_ | with_reducible refine choF (by assumption) ?_ | with_reducible refine choF' (by assumption) ?_ | (with_reducible refine altT ?_ ?_; first | omega | (simp only [List.length_append, List.length_cons, List.length_nil, List.length_map, List.length_take, List.length_drop, List.length_replicate, List.length_set]; omega)) | with_reducible refine altF ?_ | with_reducible refine all fun _ => ?_ | with_reducible refine both ?_ ?_ | (with_reducible refine choT ?_ ?_; omega) | (with_reducible refine choF ?_ ?_; omega) | with_reducible refine cho (fun _ => ?_) (fun _ => ?_))
      refine again (q + 1) (by omega) (by omega) ?_
      rw [chunk_take q hlt, headB_snoc, indexB_snoc, part_head l q hlt, show 16 * (q + 1) = 16 * q + 16 by omega]
      exact Sub.refl _ _
    · have e : (chunksE l).take q = chunksE l := List.take_of_length_le (by omega)
      rw [e] at b1 b2 hql ⊢
      have hx2 : (headB (chunksE l) ++ indexB (chunksE l)).length ≤ 1000000 := by simp only [List.length_append]; omega
      have hx3 : (headB (chunksE l) ++ indexB (chunksE l) ++ fixed q).length ≤ 1000000 := by simp only [List.length_append, fixed, List.length_cons, List.length_nil]; omega
      have hT : tbB l = headB (chunksE l) ++ indexB (chunksE l) ++ fixed q ++ fixed (headB (chunksE l)).length := by
        unfold tbB partsB
        rw [if_pos hf, hql]
      have hE : tbE l = 0 := by rw [tbE, if_pos hf]
      rw [hT, hE]
      repeat' (first | with_reducible apply Stp.go | with_reducible refine imp fun _ => ?_ | (with_reducible refine hyp ?_ ?_; first | assumption | exact leftT_mem (by assumption)) | (with_reducible refine need ?_ ?_; first | trivial | omega | exact ⟨by assumption, by omega⟩ | (simp only [List.length_append, List.length_cons, List.length_nil, List.length_map, List.length_take, List.length_drop, List.length_replicate, List.length_set]; omega)) | (with_reducible refine fact ?_ ?_; first | trivial | exact ⟨rfl, rfl⟩ | kernel_rfl) | with_reducible refine choT (by assumption) ?_ | with_reducible refine choF (by assumption) ?_ | with_reducible refine choF' (by assumption) ?_ | (with_reducible refine altT ?_ ?_; first | omega | (simp only [List.length_append, List.length_cons, List.length_nil, List.length_map, List.length_take, List.length_drop, List.length_replicate, List.length_set]; omega)) | with_reducible refine altF ?_ | with_reducible refine all fun _ => ?_ | with_reducible refine both ?_ ?_ | (with_reducible refine choT ?_ ?_; omega) | (with_reducible refine choF ?_ ?_; omega) | with_reducible refine cho (fun _ => ?_) (fun _ => ?_))
      exact ⟨_, _, _, rfl, Sub.app_nil _, rfl, rfl⟩
  · unfold tbB tbE
    rw [if_neg hf, if_neg hf]
    repeat' (first | with_reducible apply Stp.go | with_reducible refine imp fun _ => ?_ | (with_reducible refine hyp ?_ ?_; first | assumption | exact leftT_mem (by assumption)) | (with_reducible refine need ?_ ?_; first | trivial | omega | exact ⟨by assumption, by omega⟩ | (simp only [List.length_append, List.length_cons, List.length_nil, List.length_map, List.length_take, List.length_drop, List.length_replicate, List.length_set]; omega)) | (with_reducible refine fact ?_ ?_; first | trivial | exact ⟨rfl, rfl⟩ | kernel_rfl) | with_reducible refine choT (by assumption) ?_ | with_reducible refine choF (by assumption) ?_ | with_reducible refine choF' (by assumption) ?_ | (with_reducible refine altT ?_ ?_; first | omega | (simp only [List.length_append, List.length_cons, List.length_nil, List.length_map, List.length_take, List.length_drop, List.length_replicate, List.length_set]; omega)) | with_reducible refine altF ?_ | with_reducible refine all fun _ => ?_ | with_reducible refine both ?_ ?_ | (with_reducible refine choT ?_ ?_; omega) | (with_reducible refine choF ?_ ?_; omega) | with_reducible refine cho (fun _ => ?_) (fun _ => ?_))
    all_goals first
      | contradiction
      | exact ⟨_, _, _, rfl, Sub.app_nil _, rfl, rfl⟩
instance {a : AV} {l : List En} {m : SM} [h : IsL a En.av 4 l m] : PC Go.Proofs.Try.prog 14 [a] (l.length ≤ 1000000000) (.tuple [S (tbB l), I .i64 (tbE l : Nat)]) := ⟨fun hl => ⟨[.lst 4 (l.map En.av) m], ⟨h.sub, trivial⟩, ref11_Bytes_ok l m hl⟩⟩
end Go.Ab
