/- The texts that this claim needs, part 10: a logic over abstract values, its steps, what the functions do. No condition of its own. -/
import Derived.Laws.BitsAllLaws
import Derived.Test.YtapkomfnbfbceaaMovePlacesK9
/- The document's sum of a text: its first bits. -/
set_option linter.unusedVariables false
set_option linter.unusedSimpArgs false
namespace Go.Ab
def ref02_Kept.mark : Mark := ⟨fun t => Nat.beq t 8, fun t => false, fun t => false, fun t => false, fun t => false⟩
def ref02_Kept.ann : Ann := ⟨fun n => bif Nat.beq n 3 then [1, 4, 5, 6] else [], fun n => none, fun n => none⟩
end Go.Ab

/- The document's leaves, nodes and roots. -/
set_option linter.unusedVariables false
set_option linter.unusedSimpArgs false
namespace Go.Ab
def ref05_LeafText.mark : Mark := ⟨fun t => false, fun t => false, fun t => false, fun t => false, fun t => false⟩
def ref05_LeafText.ann : Ann := ⟨fun n => [], fun n => none, fun n => none⟩
def ref05_NodeText.mark : Mark := ⟨fun t => false, fun t => false, fun t => Nat.beq t 2 || Nat.beq t 3, fun t => false, fun t => false⟩
def ref05_NodeText.ann : Ann := ⟨fun n => [], fun n => none, fun n => none⟩
def ref05_Leaf.mark : Mark := ⟨fun t => Nat.beq t 6 || Nat.beq t 8, fun t => false, fun t => false, fun t => false, fun t => false⟩
def ref05_Leaf.ann : Ann := ⟨fun n => [], fun n => none, fun n => none⟩
def ref05_Node.mark : Mark := ⟨fun t => Nat.beq t 9 || Nat.beq t 11, fun t => false, fun t => Nat.beq t 4 || Nat.beq t 5, fun t => Nat.beq t 7 || Nat.beq t 8, fun t => false⟩
def ref05_Node.ann : Ann := ⟨fun n => [], fun n => none, fun n => none⟩
def ref05_Half.mark : Mark := ⟨fun t => false, fun t => false, fun t => false, fun t => false, fun t => false⟩
def ref05_Half.ann : Ann := ⟨fun n => bif Nat.beq n 2 then [0, 3] else [], fun n => none, fun n => none⟩
def ref05_Root.mark : Mark := ⟨fun t => Nat.beq t 12 || Nat.beq t 20 || Nat.beq t 23 || Nat.beq t 28 || Nat.beq t 33 || Nat.beq t 37, fun t => false, fun t => false, fun t => Nat.beq t 19, fun t => false⟩
def ref05_Root.ann : Ann := ⟨fun n => [], fun n => none, fun n => none⟩
end Go.Ab

/- ref11.Leaves, ref11.Describe. -/
set_option linter.unusedVariables false
set_option linter.unusedSimpArgs false
namespace Go.Ab
def ref11_Leaves.mark : Mark := ⟨fun t => Nat.beq t 16, fun t => false, fun t => false, fun t => Nat.beq t 15, fun t => false⟩
def ref11_Leaves.ann : Ann := ⟨fun n => bif Nat.beq n 3 then [0, 3, 4] else [], fun n => none, fun n => none⟩
def ref11_Describe.mark : Mark := ⟨fun t => Nat.beq t 10 || Nat.beq t 27 || Nat.beq t 28, fun t => false, fun t => false, fun t => Nat.beq t 32 || Nat.beq t 39, fun t => false⟩
def ref11_Describe.ann : Ann := ⟨fun n => [], fun n => none, fun n => none⟩
end Go.Ab

/- What stands in memory at a start, read by its type: numbers, texts, slices, structs. No program in sight. -/
set_option linter.unusedVariables false
set_option linter.unusedSimpArgs false
namespace Go.Ab
variable {P : Program}
/-- Whatever is read at a type is told by something, in so many cells. -/
structure Rd (P : Program) (t : TypeId) {α : Type} (g : α → AV) (sz : Nat) (ok : α → Prop) : Prop where
  size : P.cellsOf t = sz
  pos : 0 < sz
  told : Told g sz
  read : ∀ {H : Type} {enc : TypeId × Value → H} {w : World} {base : Nat} {spare : Nat → Bool} {held : Bool} {n : Nat} {cs : List Value} {x : DataW H × List MemPlace}, DataW.trod enc P w base spare held n t cs = some x → ∃ a, ok a ∧ cs.length = sz ∧ VRs (roOf w) cs (g a).cells ∧ ∀ v ∈ cs, v.oneCell' = true
theorem VRs.one {R : RO} {v : Value} {u : AV} (h : VR R v u) : VRs R [v] [u] := VRs.cons h (VRs.nil R)
theorem VRs.head {R : RO} {v : Value} {u : AV} (h : VRs R [v] [u]) : VR R v u := h.2 0 u v rfl rfl
theorem told_one {α : Type} {g : α → AV} (h : ∀ a, (g a).cells = [g a] ∧ (g a).one = true) : Told g 1 := fun a => ⟨by rw [(h a).1]; rfl, fun c hc => by rw [(h a).1] at hc; rw [List.mem_singleton.1 hc]; exact (h a).2⟩
theorem Rd.int {t : TypeId} (ht : P.underlying t = some (.int .i64)) (hs : P.cellsOf t = 1) : Rd P t (fun n : Int => I .i64 n) 1 (fun n => (Lit.int .i64 n).wf = true) := ⟨hs, by decide, told_one fun _ => ⟨rfl, rfl⟩, fun h => by
  obtain ⟨k, e, _, hw⟩ := DataW.trod_int ht h
  subst e
  exact ⟨k, hw, rfl, VRs.one (.val _), fun v hv => by rw [List.mem_singleton.1 hv]; rfl⟩⟩
theorem Rd.byte {t : TypeId} (ht : P.underlying t = some (.int .u8)) (hs : P.cellsOf t = 1) : Rd P t byt 1 (fun _ => True) := ⟨hs, by decide, told_one fun _ => ⟨rfl, rfl⟩, fun h => by
  obtain ⟨k, e, _, hw⟩ := DataW.trod_int ht h
  subst e
  simp only [Lit.wf, Bool.and_eq_true, decide_eq_true_eq] at hw
  have h0 : (0 : Int) ≤ k := by have := hw.1; simpa [IntKind.min, IntKind.signed] using this
  have h255 : k ≤ 255 := by have := hw.2; simpa [IntKind.max, IntKind.signed, IntKind.bits] using this
  have e6 : ((UInt8.ofNat k.toNat).toNat : Int) = k := by rw [UInt8.toNat_ofNat']; omega
  refine ⟨UInt8.ofNat k.toNat, trivial, rfl, ?_, fun v hv => by rw [List.mem_singleton.1 hv]; rfl⟩
  have e7 : byt (UInt8.ofNat k.toNat) = .val (.int .u8 k) := by rw [byt, e6]
  rw [e7]
  exact VRs.one (.val _)⟩
theorem Rd.str {t : TypeId} (ht : P.underlying t = some .string) (hs : P.cellsOf t = 1) : Rd P t (fun l : List UInt8 => S l) 1 (fun l => l.length ≤ maxLen) := ⟨hs, by decide, told_one fun _ => ⟨rfl, rfl⟩, fun h => by
  obtain ⟨s, e, _, hl⟩ := DataW.trod_string ht h
  subst e
  exact ⟨s.data.toList, by simpa using hl, rfl, VRs.one (.val _), fun v hv => by rw [List.mem_singleton.1 hv]; rfl⟩⟩
theorem Rd.bool {t : TypeId} (ht : P.underlying t = some .bool) (hs : P.cellsOf t = 1) : Rd P t (fun b : Bool => B b) 1 (fun _ => True) := ⟨hs, by decide, told_one fun _ => ⟨rfl, rfl⟩, fun h => by
  obtain ⟨b, e, _⟩ := DataW.trod_bool ht h
  subst e
  exact ⟨b, trivial, rfl, VRs.one (.val _), fun v hv => by rw [List.mem_singleton.1 hv]; rfl⟩⟩
theorem flat_rel {α : Type} {g : α → AV} {R : RO} {V : Nat → List Value} {F : Nat → α} : ∀ is : List Nat, (∀ i ∈ is, VRs R (V i) (g (F i)).cells) → VRs R (is.flatMap V) (flat ((is.map F).map g))
  | [], _ => VRs.nil R
  | i :: is, h => by
    have := (h i List.mem_cons_self).append (flat_rel is fun j hj => h j (List.mem_cons_of_mem _ hj))
    simpa [flat] using this
theorem flatMap_get {V : Nat → List Value} {sz : Nat} (hz : 0 < sz) : ∀ (n j : Nat) (v : Value), (∀ i, i < n → (V i).length = sz) → ((List.range n).flatMap V)[j]? = some v → j / sz < n ∧ (V (j / sz))[j % sz]? = some v := by
  intro n
  induction n with
  | zero => intro j v _ h; simp at h
  | succ n ih =>
    intro j v hl h
    have hlen : ∀ m, m ≤ n → ((List.range m).flatMap V).length = m * sz := by
      intro m hm
      induction m with
      | zero => simp
      | succ m ihm => rw [List.range_succ, List.flatMap_append, List.length_append, ihm (by omega)]; simp [hl m (by omega), Nat.succ_mul]
    rw [List.range_succ, List.flatMap_append] at h
    by_cases hj : j < n * sz
    · rw [List.getElem?_append_left (by rw [hlen n (Nat.le_refl _)]; exact hj)] at h
      obtain ⟨h1, h2⟩ := ih j v (fun i hi => hl i (by omega)) h
      exact ⟨by omega, h2⟩
    · rw [List.getElem?_append_right (by rw [hlen n (Nat.le_refl _)]; omega), hlen n (Nat.le_refl _)] at h
      simp only [List.flatMap_cons, List.flatMap_nil, List.append_nil] at h
      have h3 : j - n * sz < sz := by
        have h4 := (List.getElem?_eq_some_iff.1 h).1
        rw [hl n (by omega)] at h4
        exact h4
      have hd : j / sz = n := by
        have : j = sz * n + (j - n * sz) := by rw [Nat.mul_comm sz n]; omega
        rw [this, Nat.mul_add_div hz, Nat.div_eq_of_lt h3, Nat.add_zero]
      have hm : j % sz = j - n * sz := by
        have := Nat.div_add_mod j sz
        rw [hd, Nat.mul_comm] at this
        omega
      rw [hd, hm]
      exact ⟨by omega, h⟩
theorem Rd.slice {α : Type} [Inhabited α] {g : α → AV} {sz : Nat} {ok : α → Prop} {t e : TypeId} (he : Rd P e g sz ok) (ht : P.underlying t = some (.slice e)) (hs : P.cellsOf t = 1) : Rd P t (fun l : List α => .lst sz (l.map g) .ro) 1 (fun l => (∀ a ∈ l, ok a) ∧ l.length ≤ maxLen) := ⟨hs, by decide, told_one fun _ => ⟨rfl, rfl⟩, fun {H enc w base spare held n cs x} h => by
  rcases Deep.open_slice ht h with ⟨hcs, hx⟩ | ⟨a, len, cap, m, n', D, Pl, hcs, hb, hl, hm, hmm, hx, hel⟩
  · subst hcs
    exact ⟨[], ⟨by simp, Nat.zero_le _⟩, rfl, VRs.one (.lst [] rfl he.pos (by simp) rfl (by simp) (by simp) (by simp [SMok]) (Nat.zero_le _) (by simp)), fun v hv => by rw [List.mem_singleton.1 hv]; rfl⟩
  · subst hcs
    have hle : len ≤ m := by rw [hmm]; split <;> omega
    have hex : ∀ i, i < len → ∃ f : α × List Value, ok f.1 ∧ f.2.length = sz ∧ VRs (roOf w) f.2 (g f.1).cells ∧ (∀ v ∈ f.2, v.oneCell' = true) ∧ ∀ r, r < sz → w.cell? ((a.add (i * sz)).add r) = f.2[r]? := by
      intro i hi
      obtain ⟨cs', h1, h2⟩ := hel i (by omega)
      obtain ⟨f, k1, k2, k3, k4⟩ := he.read h2
      rw [he.size] at h1
      obtain ⟨_, _, h3⟩ := World.cells?_some h1
      exact ⟨(f, cs'), k1, k2, k3, k4, h3⟩
    obtain ⟨F, hF⟩ := Deep.choose_lt hex
    refine ⟨(List.range len).map fun i => (F i).1, ⟨fun a ha => ?_, by simp; omega⟩, rfl, VRs.one ?_, fun v hv => by rw [List.mem_singleton.1 hv]; rfl⟩
    · obtain ⟨i, hi, rfl⟩ := List.mem_map.1 ha
      exact (hF i (List.mem_range.1 hi)).1
    · have hrel := flat_rel (g := g) (R := roOf w) (V := fun i => (F i).2) (F := fun i => (F i).1) (List.range len) fun i hi => (hF i (List.mem_range.1 hi)).2.2.1
      refine .lst ((List.range len).flatMap fun i => (F i).2) (by simp) he.pos (told_len he.told _) hrel.1 hrel.2 (fun _ => ⟨a, rfl, fun j v hj => ?_⟩) hl (by simp only [maxLen] at hm ⊢; omega) (fun v hv => ?_)
      · obtain ⟨h1, h2⟩ := flatMap_get he.pos len j v (fun i hi => (hF i hi).2.1) hj
        have h3 := (hF (j / sz) h1).2.2.2.2 (j % sz) (Nat.mod_lt _ he.pos)
        rw [h2, addr_add_add] at h3
        show w.cell? (a.add j) = some v
        have := Nat.div_add_mod j sz
        rw [Nat.mul_comm] at this
        rw [← this]
        exact h3
      · obtain ⟨i, hi, h⟩ := List.mem_flatMap.1 hv
        exact (hF i (List.mem_range.1 hi)).2.2.2.1 v h⟩
/-- Fields behind one another. -/
structure RdFs (P : Program) (fs : List Field) (o : Nat) {α : Type} (g : α → List AV) (sz : Nat) (ok : α → Prop) : Prop where
  read : ∀ {H : Type} {enc : TypeId × Value → H} {w : World} {base : Nat} {spare : Nat → Bool} {held : Bool} {cs : List Value}, cs.length = o + sz → (∀ f ∈ fs, ∃ (n : Nat) (x : DataW H × List MemPlace), DataW.trod enc P w base spare held n f.type ((cs.drop f.offset).take (P.cellsOf f.type)) = some x) →
    ∃ a, ok a ∧ VRs (roOf w) (cs.drop o) (g a) ∧ ∀ v ∈ cs.drop o, v.oneCell' = true
theorem RdFs.nil {o : Nat} : RdFs P [] o (fun _ : Unit => []) 0 (fun _ => True) := ⟨fun hl _ => ⟨(), trivial, by rw [List.drop_of_length_le (by omega)]; exact VRs.nil _, by rw [List.drop_of_length_le (by omega)]; simp⟩⟩
theorem RdFs.cons {α β : Type} {f : Field} {fs : List Field} {o sz sz' : Nat} {g : α → AV} {g' : β → List AV} {ok : α → Prop} {ok' : β → Prop} (h : Rd P f.type g sz ok) (ho : f.offset = o) (hs : RdFs P fs (o + sz) g' sz' ok') : RdFs P (f :: fs) o (fun a : α × β => (g a.1).cells ++ g' a.2) (sz + sz') (fun a => ok a.1 ∧ ok' a.2) := ⟨fun {H enc w base spare held cs} hl hf => by
  obtain ⟨n, x, hx⟩ := hf f List.mem_cons_self
  rw [ho, h.size] at hx
  obtain ⟨a, k1, k2, k3, k4⟩ := h.read hx
  obtain ⟨b, j1, j2, j3⟩ := hs.read (cs := cs) (by omega) fun q hq => hf q (List.mem_cons_of_mem _ hq)
  have e : cs.drop o = (cs.drop o).take sz ++ cs.drop (o + sz) := by rw [← List.drop_drop, List.take_append_drop]
  refine ⟨(a, b), ⟨k1, j1⟩, ?_, ?_⟩
  · rw [e]; exact k3.append j2
  · rw [e]
    intro v hv
    rcases List.mem_append.1 hv with hv | hv
    · exact k4 v hv
    · exact j3 v hv⟩
theorem Rd.struct {α β : Type} {fs : Array Field} {t : TypeId} {g : α → List AV} {sz : Nat} {ok : α → Prop} (ht : P.underlying t = some (.struct fs)) (hs : P.cellsOf t = sz) (hf : RdFs P fs.toList 0 g sz ok) (φ : α → β) (g' : β → AV) (hφ : ∀ a, (g' (φ a)).cells = g a) (told : Told g' sz) (hz : 0 < sz) : Rd P t g' sz (fun b => ∃ a, ok a ∧ b = φ a) := ⟨hs, hz, told, fun {H enc w base spare held n cs x} h => by
  obtain ⟨xs, m, rfl, _, hl, hx, hfs⟩ := DataW.trod_struct ht h
  obtain ⟨a, k1, k2, k3⟩ := hf.read (H := H) (enc := enc) (w := w) (base := base) (spare := spare) (held := held) (cs := cs) (by omega) fun f hfm => by
    obtain ⟨i, hi⟩ := List.mem_iff_getElem?.1 hfm
    have hi2 : i < fs.size := by
      have := (List.getElem?_eq_some_iff.1 hi).1
      simpa using this
    have h2 := hfs i f (by rw [← Array.getElem?_toList]; exact hi)
    rw [List.getElem?_eq_getElem (by omega)] at h2
    exact ⟨m, _, h2⟩
  rw [List.drop_zero] at k2 k3
  exact ⟨φ a, ⟨a, k1, rfl⟩, by omega, by rw [hφ]; exact k2, k3⟩⟩
theorem Rd.arr {α β : Type} [Inhabited α] {g : α → AV} {sz n : Nat} {ok : α → Prop} {t e : TypeId} (he : Rd P e g sz ok) (ht : P.underlying t = some (.array n e)) (hs : P.cellsOf t = n * sz) (hn : 0 < n) (φ : ∀ l : List α, l.length = n → β) (g' : β → AV) (hφ : ∀ l h, (g' (φ l h)).cells = flat (l.map g)) (told : Told g' (n * sz)) : Rd P t g' (n * sz) (fun _ => True) := ⟨hs, Nat.mul_pos hn he.pos, told, fun {H enc w base spare held m cs x} h => by
  obtain ⟨xs, m', rfl, _, hl, hx, hel⟩ := DataW.trod_array ht h
  rw [hs] at hl
  rw [he.size] at hel
  have hex : ∀ i, i < n → ∃ f : α, VRs (roOf w) ((cs.drop (i * sz)).take sz) (g f).cells ∧ ∀ v ∈ (cs.drop (i * sz)).take sz, v.oneCell' = true := by
    intro i hi
    have h2 := hel i hi
    rw [List.getElem?_eq_getElem (by omega)] at h2
    obtain ⟨f, k1, k2, k3, k4⟩ := he.read h2
    exact ⟨f, k3, k4⟩
  obtain ⟨F, hF⟩ := Deep.choose_lt hex
  have hcs : ∀ k, k ≤ n → cs = ((List.range k).flatMap fun i => (cs.drop (i * sz)).take sz) ++ cs.drop (k * sz) := by
    intro k hk
    induction k with
    | zero => simp
    | succ k ih =>
      rw [List.range_succ, List.flatMap_append]
      have e : cs.drop (k * sz) = (cs.drop (k * sz)).take sz ++ cs.drop ((k + 1) * sz) := by
        rw [Nat.succ_mul, ← List.drop_drop, List.take_append_drop]
      conv => lhs; rw [ih (by omega), e]
      simp
  have e1 := hcs n (Nat.le_refl _)
  rw [List.drop_of_length_le (by omega), List.append_nil] at e1
  have hrel := flat_rel (g := g) (R := roOf w) (V := fun i => (cs.drop (i * sz)).take sz) (F := F) (List.range n) fun i hi => (hF i (List.mem_range.1 hi)).1
  refine ⟨φ ((List.range n).map F) (by simp), trivial, hl, ?_, fun v hv => ?_⟩
  · rw [hφ, e1]; exact hrel
  · rw [e1] at hv
    obtain ⟨i, hi, h⟩ := List.mem_flatMap.1 hv
    exact (hF i (List.mem_range.1 hi)).2 v h⟩
theorem Rd.mono {α : Type} {g : α → AV} {t : TypeId} {sz : Nat} {ok ok' : α → Prop} (h : Rd P t g sz ok) (hk : ∀ a, ok a → ok' a) : Rd P t g sz ok' := ⟨h.size, h.pos, h.told, fun hx => by
  obtain ⟨a, k1, k2⟩ := h.read hx
  exact ⟨a, hk a k1, k2⟩⟩
/-- A value that is one cell, or a struct's. -/
theorem Rd.val {α : Type} {g : α → AV} {t : TypeId} {ok : α → Prop} (h : Rd P t g 1 ok) (hg : ∀ a, (g a).cells = [g a]) {H : Type} {enc : TypeId × Value → H} {w : World} {base : Nat} {spare : Nat → Bool} {held : Bool} {n : Nat} {v : Value} {x : DataW H × List MemPlace} (hx : DataW.trod enc P w base spare held n t [v] = some x) : ∃ a, ok a ∧ VR (roOf w) v (g a) := by
  obtain ⟨a, k1, _, k3, _⟩ := h.read hx
  rw [hg] at k3
  exact ⟨a, k1, k3.head⟩
end Go.Ab

/- Tables, read at a start. -/
set_option linter.unusedVariables false
set_option linter.unusedSimpArgs false
namespace Go.Ab
theorem told_dg : Told dgF 32 := (inferInstance : Enc dgF 32).told
theorem rdDig : Rd Go.Proofs.Try.prog DgT dgF 32 (fun _ => True) := (Rd.arr (Rd.byte Go.Proofs.Try.underlying5 (by kernel_rfl)) Go.Proofs.Try.underlying37 (by kernel_rfl) (by decide)) (fun l h => (⟨l, h⟩ : D32)) dgF (fun l h => (flat_byt l).symm) told_dg
theorem rdTab : Rd Go.Proofs.Try.prog 39 tbF 36 (fun x => x.lev ≤ 9223372036854775807 ∧ x.cnt ≤ 9223372036854775807 ∧ -9223372036854775808 ≤ x.lev ∧ -9223372036854775808 ≤ x.cnt) := ((Rd.struct Go.Proofs.Try.underlying39 (by kernel_rfl) (RdFs.cons (Rd.int Go.Proofs.Try.underlying3 (by kernel_rfl)) rfl (RdFs.cons (Rd.int Go.Proofs.Try.underlying3 (by kernel_rfl)) rfl (RdFs.cons rdDig rfl (RdFs.cons (Rd.str Go.Proofs.Try.underlying9 (by kernel_rfl)) rfl (RdFs.cons (Rd.str Go.Proofs.Try.underlying9 (by kernel_rfl)) rfl RdFs.nil)))))) (fun a => TabR.mk a.1 a.2.1 a.2.2.1 a.2.2.2.1 a.2.2.2.2.1) tbF (fun _ => rfl) told_tb (by decide)).mono (by
  rintro _ ⟨a, h, rfl⟩
  have h1 := h.1
  have h2 := h.2.1
  simp only [Lit.wf, Bool.and_eq_true, decide_eq_true_eq, IntKind.min, IntKind.max, IntKind.signed, IntKind.bits] at h1 h2
  simp at h1 h2
  dsimp only
  exact ⟨by omega, by omega, by omega, by omega⟩)
/-- What is told of tables at a start. -/
abbrev okTb (x : TabR) : Prop := x.lev ≤ 9223372036854775807 ∧ x.cnt ≤ 9223372036854775807 ∧ -9223372036854775808 ≤ x.lev ∧ -9223372036854775808 ≤ x.cnt
end Go.Ab

/- Numbers of tables; where nothing is to be merged. -/
set_option linter.unusedVariables false
set_option linter.unusedSimpArgs false
namespace Go.Ab
abbrev InT : TypeId := 3
/-- A number as an element. -/
abbrev it (n : Int) : AV := .val (.int .i64 n)
instance : Enc it 1 := ⟨fun n => ⟨rfl, fun c hc => by
  have hc : c ∈ [it n] := hc
  rw [List.mem_singleton.1 hc]; rfl⟩, by decide, fun _ => rfl⟩
instance : ElemF [.val (.int .i64 0)] Int it := ⟨trivial⟩
instance (n : Int) : AsF it (.val (.int .i64 n)) n := ⟨rfl⟩
instance (n : Int) : Cells (it n) [it n] := ⟨rfl⟩
/-- The numbers of those ahead of a place that are meant. -/
def posT (p : TabR → Bool) (l : List TabR) (k : Nat) : List Int := ((List.range k).filter fun i => p (l.getD i default)).map Int.ofNat
theorem posT_succ (p : TabR → Bool) (l : List TabR) (k : Nat) : posT p l (k + 1) = posT p l k ++ if p (l.getD k default) = true then [(k : Int)] else [] := by
  unfold posT
  rw [List.range_succ, List.filter_append, List.map_append]
  congr 1
  by_cases h : p (l.getD k default) = true
  · rw [if_pos h]; simp only [List.filter_cons, h, if_true, List.filter_nil]; rfl
  · rw [if_neg h]; simp only [List.filter_cons, if_neg h, List.filter_nil]; rfl
theorem posT_len (p : TabR → Bool) (l : List TabR) (k : Nat) : (posT p l k).length ≤ k := by
  unfold posT
  rw [List.length_map]
  exact Nat.le_trans (List.length_filter_le _ _) (by rw [List.length_range]; exact Nat.le_refl _)
def pick_places.mark : Mark := ⟨fun t => false, fun t => false, fun t => false, fun t => Nat.beq t 14, fun t => false⟩
def pick_places.ann : Ann := ⟨fun n => bif Nat.beq n 3 then [1, 5, 8, 9, 10] else [], fun n => none, fun n => none⟩
/-- 'marlstone/pick.places' -/
def pick_places.sh (a0 a1 : AV) (σ : Store) (Q : AEnd → Store → Prop) : Prop :=
  Do (aBuiltin Go.Proofs.Try.prog .len #[22] [a0]) fun t9 =>
  aLoop (fun go vs σ =>
    At vs 0 fun s1 => At vs 1 fun s5 => At vs 2 fun s8 => At vs 3 fun s9 => At vs 4 fun s10 => Do (aBin Go.Proofs.Try.prog .lss 3 s10 s9) fun t11 =>
    aCond t11
      (Do (aIndexAddr .slice 36 s8 s10) fun t13 =>
    Do (loadF true 36 t13) fun t14 =>
    aNewVar 39 [.val (.int .i64 0), .val (.int .i64 0), .val (.int .u8 0), .val (.int .u8 0), .val (.int .u8 0), .val (.int .u8 0), .val (.int .u8 0), .val (.int .u8 0), .val (.int .u8 0), .val (.int .u8 0), .val (.int .u8 0), .val (.int .u8 0), .val (.int .u8 0), .val (.int .u8 0), .val (.int .u8 0), .val (.int .u8 0), .val (.int .u8 0), .val (.int .u8 0), .val (.int .u8 0), .val (.int .u8 0), .val (.int .u8 0), .val (.int .u8 0), .val (.int .u8 0), .val (.int .u8 0), .val (.int .u8 0), .val (.int .u8 0), .val (.int .u8 0), .val (.int .u8 0), .val (.int .u8 0), .val (.int .u8 0), .val (.int .u8 0), .val (.int .u8 0), .val (.int .u8 0), .val (.int .u8 0), .val (.string ⟨#[]⟩), .val (.string ⟨#[]⟩)] σ fun t7 σ_1 =>
    storeA 36 t7 t14 σ_1 fun u σ_2 =>
    Do (loadA true 36 t7 σ_2) fun t16 =>
    aCallV Go.Proofs.Try.prog s1 [t16] σ_2 (fun t17 σ_3 =>
    aCond t17
      (Do (aSlLit (mkE [.val (.int .i64 0)]) 1 1 [(0, s10)]) fun t20 =>
      aAppend 3 1 8 s5 t20 σ_3 (subK fun t21 σ_4 =>
      Do (aBin Go.Proofs.Try.prog .add 3 s10 (.val (.int .i64 1))) fun t22 =>
    go [s1, t21, s8, s9, t22] σ_4))
      (Do (aBin Go.Proofs.Try.prog .add 3 s10 (.val (.int .i64 1))) fun t22_1 =>
    go [s1, s5, s8, s9, t22_1] σ_3)) (fun e σ_5 => Q (.pan e) σ_5))
      (Q (.ret s5) σ))
    [a1, (.val (.slice none 0 0)), a0, t9, (.val (.int .i64 0))] σ
theorem pick_places.eq (a0 a1 : AV) (σ : Store) (Q : AEnd → Store → Prop) : vc (semOf Go.Proofs.Try.prog pick_places.mark) Go.Proofs.Try.f53.ntmps pick_places.ann (bodyOf Go.Proofs.Try.f53) (endK [.tmp 4] Q) (argFr [a0, a1]) σ = pick_places.sh a0 a1 σ Q := by kernel_rfl
theorem pick_places.go {a0 a1 : AV} {σ : Store} {Q : AEnd → Store → Prop} (h : pick_places.sh a0 a1 σ Q) : ACalls Go.Proofs.Try.prog 53 [a0, a1] σ Q :=
  acalls_of_eq [.tmp 4] Go.Proofs.Try.func53 (by kernel_rfl) (by kernel_rfl) (by kernel_rfl) (by kernel_rfl) (pick_places.eq a0 a1 σ Q) h
def pick_span_on.mark : Mark := ⟨fun t => false, fun t => false, fun t => Nat.beq t 2 || Nat.beq t 3, fun t => Nat.beq t 6 || Nat.beq t 8, fun t => false⟩
def pick_span_on.ann : Ann := ⟨fun n => [], fun n => none, fun n => none⟩
/-- '(marlstone/pick.span).on' -/
def pick_span_on.sh (a0 a1 : AV) (σ : Store) (Q : AEnd → Store → Prop) : Prop :=
  Do (aFreeze ((a0 : AV)).cells) fun t2 =>
  Do (aFreeze ((a1 : AV)).cells) fun t3 =>
  Do (aFieldAddr 0 1 t3) fun t5 =>
  Do (loadF false 1 t5) fun t6 =>
  Do (aFieldAddr 0 1 t2) fun t7 =>
  Do (loadF false 1 t7) fun t8 =>
  Do (aBin Go.Proofs.Try.prog .eql 3 t6 t8) fun t9 =>
  Q (.ret t9) σ
theorem pick_span_on.eq (a0 a1 : AV) (σ : Store) (Q : AEnd → Store → Prop) : vc (semOf Go.Proofs.Try.prog pick_span_on.mark) Go.Proofs.Try.f54.ntmps pick_span_on.ann (bodyOf Go.Proofs.Try.f54) (endK [.tmp 4] Q) (argFr [a0, a1]) σ = pick_span_on.sh a0 a1 σ Q := by kernel_rfl
theorem pick_span_on.go {a0 a1 : AV} {σ : Store} {Q : AEnd → Store → Prop} (h : pick_span_on.sh a0 a1 σ Q) : ACalls Go.Proofs.Try.prog 54 [a0, a1] σ Q :=
  acalls_of_eq [.tmp 4] Go.Proofs.Try.func54 (by kernel_rfl) (by kernel_rfl) (by kernel_rfl) (by kernel_rfl) (pick_span_on.eq a0 a1 σ Q) h
def pick_Cap.mark : Mark := ⟨fun t => false, fun t => false, fun t => false, fun t => false, fun t => false⟩
def pick_Cap.ann : Ann := ⟨fun n => [], fun n => none, fun n => none⟩
/-- 'marlstone/pick.Cap' -/
def pick_Cap.sh (a0 : AV) (σ : Store) (Q : AEnd → Store → Prop) : Prop :=
  Do (aBin Go.Proofs.Try.prog .eql 3 a0 (.val (.int .i64 0))) fun t4 =>
  aCond t4
    (Q (.ret (.val (.int .i64 4))) σ)
    (Do (aBin Go.Proofs.Try.prog .lss 3 a0 (.val (.int .i64 0))) fun t6 =>
  Do (aGuard t6 false (aIs a0)) fun t8 =>
  Do (aGuard t6 false (aBin Go.Proofs.Try.prog .geq 3 t8 (.val (.int .i64 3)))) fun t9 =>
  Do (aPick t6 (.val (.bool true)) t9) fun t10 =>
  aCond t10
    (Q (.ret (.val (.int .i64 (-1)))) σ)
    (Do (aBin Go.Proofs.Try.prog .sub 3 a0 (.val (.int .i64 1))) fun t12 =>
  Do (aBin Go.Proofs.Try.prog .mul 3 (.val (.int .i64 2)) t12) fun t13 =>
  Do (aBin Go.Proofs.Try.prog .shl 3 (.val (.int .i64 8)) t13) fun t14 =>
  Q (.ret t14) σ))
theorem pick_Cap.eq (a0 : AV) (σ : Store) (Q : AEnd → Store → Prop) : vc (semOf Go.Proofs.Try.prog pick_Cap.mark) Go.Proofs.Try.f55.ntmps pick_Cap.ann (bodyOf Go.Proofs.Try.f55) (endK [.tmp 2] Q) (argFr [a0]) σ = pick_Cap.sh a0 σ Q := by kernel_rfl
theorem pick_Cap.go {a0 : AV} {σ : Store} {Q : AEnd → Store → Prop} (h : pick_Cap.sh a0 σ Q) : ACalls Go.Proofs.Try.prog 55 [a0] σ Q :=
  acalls_of_eq [.tmp 2] Go.Proofs.Try.func55 (by kernel_rfl) (by kernel_rfl) (by kernel_rfl) (by kernel_rfl) (pick_Cap.eq a0 σ Q) h
def pick_Pick.mark : Mark := ⟨fun t => Nat.beq t 22 || Nat.beq t 26 || Nat.beq t 79, fun t => false, fun t => false, fun t => Nat.beq t 37 || Nat.beq t 40 || Nat.beq t 44 || Nat.beq t 47 || Nat.beq t 54 || Nat.beq t 61 || Nat.beq t 69 || Nat.beq t 85, fun t => false⟩
def pick_Pick.ann : Ann := ⟨fun n => bif Nat.beq n 2 then [0, 15] else bif Nat.beq n 10 then [0, 5, 6, 7, 49, 50, 51] else bif Nat.beq n 16 then [0, 5, 10, 80, 81, 82] else bif Nat.beq n 22 then [5, 10, 13, 90, 91] else [], fun n => bif Nat.beq n 8 then some [0, 5, 6] else none, fun n => none⟩
/-- 'marlstone/pick.Pick' -/
def pick_Pick.sh (a0 : AV) (σ : Store) (Q : AEnd → Store → Prop) : Prop :=
  aLoop (fun go vs σ =>
    At vs 0 fun s0 => At vs 1 fun s15 => Do (aBin Go.Proofs.Try.prog .lss 3 s15 (.val (.int .i64 3))) fun t16 =>
    aCond t16
      (Do (aLit [.val (.int .i64 0), .val (.string ⟨#[]⟩), .val (.string ⟨#[]⟩)] [(0, 1), (1, 1), (2, 1)] [(0, s15)]) fun t20 =>
    Do (aPureC Go.Proofs.Try.prog 53 [s0, (.fn (.func 54) [t20] [])]) fun t22 =>
    Do (aBuiltin Go.Proofs.Try.prog .len #[34] [t22]) fun t24 =>
    Do (aPureC Go.Proofs.Try.prog 55 [s15]) fun t26 =>
    Do (aBin Go.Proofs.Try.prog .leq 3 t24 t26) fun t27 =>
    aCond t27
      (Do (aBin Go.Proofs.Try.prog .add 3 s15 (.val (.int .i64 1))) fun t105 =>
    go [s0, t105] σ)
      (aJoin (fun j =>
      Do (aBin Go.Proofs.Try.prog .gtr 3 s15 (.val (.int .i64 0))) fun t29 =>
      aCond t29
        (Do (aSlice .slice 1 t22 none (some (.val (.int .i64 1))) none) fun t31 =>
        j [s0, s15, t31] σ)
        (j [s0, s15, t22] σ)) fun vs_1 σ_1 =>
    At vs_1 0 fun s0_1 => At vs_1 1 fun s5 => At vs_1 2 fun s6 => Do (aBin Go.Proofs.Try.prog .add 3 s5 (.val (.int .i64 1))) fun t33 =>
    Do (aIndexAddr .slice 1 s6 (.val (.int .i64 0))) fun t36 =>
    Do (loadF false 1 t36) fun t37 =>
    Do (aIndexAddr .slice 36 s0_1 t37) fun t38 =>
    Do (aFieldAddr 34 1 t38) fun t39 =>
    Do (loadF false 1 t39) fun t40 =>
    Do (aIndexAddr .slice 1 s6 (.val (.int .i64 0))) fun t43 =>
    Do (loadF false 1 t43) fun t44 =>
    Do (aIndexAddr .slice 36 s0_1 t44) fun t45 =>
    Do (aFieldAddr 35 1 t45) fun t46 =>
    Do (loadF false 1 t46) fun t47 =>
    Do (aLit [.val (.int .i64 0), .val (.string ⟨#[]⟩), .val (.string ⟨#[]⟩)] [(0, 1), (1, 1), (2, 1)] [(0, t33), (1, t40), (2, t47)]) fun t48 =>
    aNewVar 84 [.val (.int .i64 0), .val (.string ⟨#[]⟩), .val (.string ⟨#[]⟩)] σ_1 fun t7 σ_2 =>
    storeA 3 t7 t48 σ_2 fun u σ_3 =>
    Do (aBuiltin Go.Proofs.Try.prog .len #[34] [s6]) fun t50 =>
    aLoop (fun go_1 vs_2 σ_4 =>
      At vs_2 0 fun s0_2 => At vs_2 1 fun s5_1 => At vs_2 2 fun s6_1 => At vs_2 3 fun s7 => At vs_2 4 fun s49 => At vs_2 5 fun s50 => At vs_2 6 fun s51 => Do (aBin Go.Proofs.Try.prog .lss 3 s51 s50) fun t52 =>
      aCond t52
        (Do (aIndexAddr .slice 1 s49 s51) fun t53 =>
      Do (loadF false 1 t53) fun t54 =>
      Do (aFieldAddr 1 1 s7) fun t55 =>
      Do (loadA false 1 t55 σ_4) fun t56 =>
      Do (aIndexAddr .slice 36 s0_2 t54) fun t59 =>
      Do (aFieldAddr 34 1 t59) fun t60 =>
      Do (loadF false 1 t60) fun t61 =>
      Do (aBuiltin Go.Proofs.Try.prog .min #[9, 9] [t56, t61]) fun t62 =>
      Do (aFieldAddr 2 1 s7) fun t63 =>
      Do (loadA false 1 t63 σ_4) fun t64 =>
      Do (aIndexAddr .slice 36 s0_2 t54) fun t67 =>
      Do (aFieldAddr 35 1 t67) fun t68 =>
      Do (loadF false 1 t68) fun t69 =>
      Do (aBuiltin Go.Proofs.Try.prog .max #[9, 9] [t64, t69]) fun t70 =>
      Do (aFieldAddr 1 1 s7) fun t71 =>
      storeA 1 t71 t62 σ_4 fun u_1 σ_5 =>
      Do (aFieldAddr 2 1 s7) fun t72 =>
      storeA 1 t72 t70 σ_5 fun u_2 σ_6 =>
      Do (aBin Go.Proofs.Try.prog .add 3 s51 (.val (.int .i64 1))) fun t73 =>
      go_1 [s0_2, s5_1, s6_1, s7, s49, s50, t73] σ_6)
        (aHook (eMakeMap σ_4) fun t74 σ_7 =>
    Do (loadA true 3 s7 σ_7) fun t77 =>
    Do (aPureC Go.Proofs.Try.prog 53 [s0_2, (.fn (.func 56) [t77] [])]) fun t79 =>
    aAppend 3 1 8 s6_1 t79 σ_7 (subF fun t80 σ_8 =>
    Do (aBuiltin Go.Proofs.Try.prog .len #[34] [t80]) fun t81 =>
    aLoop (fun go_2 vs_3 σ_9 =>
      At vs_3 0 fun s0_3 => At vs_3 1 fun s5_2 => At vs_3 2 fun s10 => At vs_3 3 fun s80 => At vs_3 4 fun s81 => At vs_3 5 fun s82 => Do (aBin Go.Proofs.Try.prog .lss 3 s82 s81) fun t83 =>
      aCond t83
        (Do (aIndexAddr .slice 1 s80 s82) fun t84 =>
      Do (loadF false 1 t84) fun t85 =>
      aHook (eMapUpd Go.Proofs.Try.prog 86 s10 t85 (.val (.bool true)) σ_9) fun u_3 σ_10 =>
      Do (aBin Go.Proofs.Try.prog .add 3 s82 (.val (.int .i64 1))) fun t88 =>
      go_2 [s0_3, s5_2, s10, s80, s81, t88] σ_10)
        (Do (aBuiltin Go.Proofs.Try.prog .len #[22] [s0_3]) fun t90 =>
    aLoop (fun go_3 vs_4 σ_11 =>
      At vs_4 0 fun s5_3 => At vs_4 1 fun s10_1 => At vs_4 2 fun s13 => At vs_4 3 fun s90 => At vs_4 4 fun s91 => Do (aBin Go.Proofs.Try.prog .lss 3 s91 s90) fun t92 =>
      aCond t92
        (Do (lookA Go.Proofs.Try.prog 86 false s10_1 s91 σ_11) fun t96 =>
      aCond t96
        (Do (aSlLit (mkE [.val (.int .i64 0)]) 1 1 [(0, s91)]) fun t99 =>
        aAppend 3 1 8 s13 t99 σ_11 (subK fun t100 σ_12 =>
        Do (aBin Go.Proofs.Try.prog .add 3 s91 (.val (.int .i64 1))) fun t101 =>
      go_3 [s5_3, s10_1, t100, s90, t101] σ_12))
        (Do (aBin Go.Proofs.Try.prog .add 3 s91 (.val (.int .i64 1))) fun t101_1 =>
      go_3 [s5_3, s10_1, s13, s90, t101_1] σ_11))
        (Do (aBin Go.Proofs.Try.prog .add 3 s5_3 (.val (.int .i64 1))) fun t104 =>
    Q (.ret (.tuple [s13, t104, (.val (.bool true))])) σ_11))
      [s5_2, s10, (.val (.slice none 0 0)), t90, (.val (.int .i64 0))] σ_9))
      [s0_2, s5_1, t74, t80, t81, (.val (.int .i64 0))] σ_8)))
      [s0_1, s5, s6, t7, s6, t50, (.val (.int .i64 0))] σ_3))
      (Q (.ret (.tuple [(.val (.slice none 0 0)), (.val (.int .i64 0)), (.val (.bool false))])) σ))
    [a0, (.val (.int .i64 0))] σ
theorem pick_Pick.eq (a0 : AV) (σ : Store) (Q : AEnd → Store → Prop) : vc (semOf Go.Proofs.Try.prog pick_Pick.mark) Go.Proofs.Try.f32.ntmps pick_Pick.ann (bodyOf Go.Proofs.Try.f32) (endK [.tmp 2, .tmp 3, .tmp 4] Q) (argFr [a0]) σ = pick_Pick.sh a0 σ Q := by kernel_rfl
theorem pick_Pick.go {a0 : AV} {σ : Store} {Q : AEnd → Store → Prop} (h : pick_Pick.sh a0 σ Q) : ACalls Go.Proofs.Try.prog 32 [a0] σ Q :=
  acalls_of_eq [.tmp 2, .tmp 3, .tmp 4] Go.Proofs.Try.func32 (by kernel_rfl) (by kernel_rfl) (by kernel_rfl) (by kernel_rfl) (pick_Pick.eq a0 σ Q) h
def move_Inputs.mark : Mark := ⟨fun t => Nat.beq t 6 || Nat.beq t 9, fun t => false, fun t => false, fun t => false, fun t => false⟩
def move_Inputs.ann : Ann := ⟨fun n => [], fun n => none, fun n => none⟩
/-- 'marlstone/move.Inputs' -/
def move_Inputs.sh (a0 : AV) (σ : Store) (Q : AEnd → Store → Prop) : Prop :=
  Do (aPureC Go.Proofs.Try.prog 17 [a0]) fun t6 =>
  Do (aUn Go.Proofs.Try.prog .not t6) fun t7 =>
  aCond t7
    (Q (.ret (.tuple [(.val (.slice none 0 0)), (.val (.int .i64 0)), (.val (.bool false))])) σ)
    (Do (aPureC Go.Proofs.Try.prog 32 [a0]) fun t9 =>
  Do (aExt t9 0) fun t10 =>
  Do (aExt t9 1) fun t11 =>
  Do (aExt t9 2) fun t12 =>
  Q (.ret (.tuple [t10, t11, t12])) σ)
theorem move_Inputs.eq (a0 : AV) (σ : Store) (Q : AEnd → Store → Prop) : vc (semOf Go.Proofs.Try.prog move_Inputs.mark) Go.Proofs.Try.f15.ntmps move_Inputs.ann (bodyOf Go.Proofs.Try.f15) (endK [.tmp 2, .tmp 3, .tmp 4] Q) (argFr [a0]) σ = move_Inputs.sh a0 σ Q := by kernel_rfl
theorem move_Inputs.go {a0 : AV} {σ : Store} {Q : AEnd → Store → Prop} (h : move_Inputs.sh a0 σ Q) : ACalls Go.Proofs.Try.prog 15 [a0] σ Q :=
  acalls_of_eq [.tmp 2, .tmp 3, .tmp 4] Go.Proofs.Try.func15 (by kernel_rfl) (by kernel_rfl) (by kernel_rfl) (by kernel_rfl) (move_Inputs.eq a0 σ Q) h
def move_Compact.mark : Mark := ⟨fun t => Nat.beq t 23 || Nat.beq t 27 || Nat.beq t 58 || Nat.beq t 75 || Nat.beq t 76 || Nat.beq t 87 || Nat.beq t 98, fun t => false, fun t => Nat.beq t 3, fun t => Nat.beq t 46 || Nat.beq t 48 || Nat.beq t 53 || Nat.beq t 57 || Nat.beq t 68 || Nat.beq t 82 || Nat.beq t 84, fun t => false⟩
def move_Compact.ann : Ann := ⟨fun n => bif Nat.beq n 9 then [1, 2, 3, 9, 10, 40, 41, 42] else bif Nat.beq n 18 then [1, 3, 9, 10, 16, 17, 77, 78, 79] else [], fun n => none, fun n => none⟩
/-- 'marlstone/move.Compact' -/
def move_Compact.sh (a0 a1 a2 : AV) (σ : Store) (Q : AEnd → Store → Prop) : Prop :=
  Do (aFreeze ((a0 : AV)).cells) fun t3 =>
  Do (aPureC Go.Proofs.Try.prog 17 [a1]) fun t23 =>
  Do (aUn Go.Proofs.Try.prog .not t23) fun t24 =>
  aCond t24
    (Q (.ret (.tuple [(.val (.slice none 0 0)), (.val (.slice none 0 0)), (.val (.int .i64 1))])) σ)
    (Do (aPureC Go.Proofs.Try.prog 32 [a1]) fun t27 =>
  Do (aExt t27 0) fun t28 =>
  Do (aExt t27 1) fun t29 =>
  Do (aExt t27 2) fun t30 =>
  Do (aUn Go.Proofs.Try.prog .not t30) fun t33 =>
  aCond t33
    (Q (.ret (.tuple [(.val (.slice none 0 0)), (.val (.slice none 0 0)), (.val (.int .i64 5))])) σ)
    (Do (aBuiltin Go.Proofs.Try.prog .len #[34] [t28]) fun t36 =>
    Do (aBuiltin Go.Proofs.Try.prog .len #[41] [a2]) fun t38 =>
    Do (aBin Go.Proofs.Try.prog .neq 3 t36 t38) fun t39 =>
    aCond t39
      (Q (.ret (.tuple [(.val (.slice none 0 0)), (.val (.slice none 0 0)), (.val (.int .i64 8))])) σ)
      (Do (aBuiltin Go.Proofs.Try.prog .len #[34] [t28]) fun t41 =>
  aLoop (fun go vs σ =>
    At vs 0 fun s1 => At vs 1 fun s2 => At vs 2 fun s3 => At vs 3 fun s9 => At vs 4 fun s10 => At vs 5 fun s40 => At vs 6 fun s41 => At vs 7 fun s42 => Do (aBin Go.Proofs.Try.prog .lss 3 s42 s41) fun t43 =>
    aCond t43
      (Do (aIndexAddr .slice 1 s40 s42) fun t45 =>
    Do (loadF false 1 t45) fun t46 =>
    Do (loadF true 1 s3) fun t48 =>
    Do (aIndexAddr .slice 36 s1 t46) fun t51 =>
    Do (aFieldAddr 0 1 t51) fun t52 =>
    Do (loadF false 1 t52) fun t53 =>
    Do (aIndexAddr .slice 1 s2 s42) fun t56 =>
    Do (loadF false 1 t56) fun t57 =>
    Do (aPureC Go.Proofs.Try.prog 20 [t48, t53, t57]) fun t58 =>
    Do (aExt t58 0) fun t59 =>
    Do (aExt t58 1) fun t60 =>
    aNewVar 39 [.val (.int .i64 0), .val (.int .i64 0), .val (.int .u8 0), .val (.int .u8 0), .val (.int .u8 0), .val (.int .u8 0), .val (.int .u8 0), .val (.int .u8 0), .val (.int .u8 0), .val (.int .u8 0), .val (.int .u8 0), .val (.int .u8 0), .val (.int .u8 0), .val (.int .u8 0), .val (.int .u8 0), .val (.int .u8 0), .val (.int .u8 0), .val (.int .u8 0), .val (.int .u8 0), .val (.int .u8 0), .val (.int .u8 0), .val (.int .u8 0), .val (.int .u8 0), .val (.int .u8 0), .val (.int .u8 0), .val (.int .u8 0), .val (.int .u8 0), .val (.int .u8 0), .val (.int .u8 0), .val (.int .u8 0), .val (.int .u8 0), .val (.int .u8 0), .val (.int .u8 0), .val (.int .u8 0), .val (.string ⟨#[]⟩), .val (.string ⟨#[]⟩)] σ fun t14 σ_1 =>
    storeA 36 t14 t59 σ_1 fun u σ_2 =>
    Do (aBin Go.Proofs.Try.prog .neq 26 t60 (.val (.int .i64 0))) fun t62 =>
    Do (aGuard t62 false (loadA true 36 t14 σ_2)) fun t64 =>
    Do (aGuard t62 false (aIs s1)) fun t65 =>
    Do (aGuard t62 false (aIs t46)) fun t66 =>
    Do (aGuard t62 false (aIndexAddr .slice 36 t65 t66)) fun t67 =>
    Do (aGuard t62 false (loadF true 36 t67)) fun t68 =>
    Do (aGuard t62 false (aBin Go.Proofs.Try.prog .neq 39 t64 t68)) fun t69 =>
    Do (aPick t62 (.val (.bool true)) t69) fun t70 =>
    aCond t70
      (Q (.ret (.tuple [(.val (.slice none 0 0)), (.val (.slice none 0 0)), (.val (.int .i64 8))])) σ_2)
      (Do (aBin Go.Proofs.Try.prog .add 3 s42 (.val (.int .i64 1))) fun t71 =>
    go [s1, s2, s3, s9, s10, s40, s41, t71] σ_2))
      (Do (aBin Go.Proofs.Try.prog .eql 3 s10 (.val (.int .i64 3))) fun t74 =>
  Do (aPureC Go.Proofs.Try.prog 37 [s2, t74]) fun t75 =>
  Do (aPureC Go.Proofs.Try.prog 36 [t75]) fun t76 =>
  Do (aBuiltin Go.Proofs.Try.prog .len #[41] [t76]) fun t78 =>
  aLoop (fun go_1 vs_1 σ_3 =>
    At vs_1 0 fun s1_1 => At vs_1 1 fun s3_1 => At vs_1 2 fun s9_1 => At vs_1 3 fun s10_1 => At vs_1 4 fun s16 => At vs_1 5 fun s17 => At vs_1 6 fun s77 => At vs_1 7 fun s78 => At vs_1 8 fun s79 => Do (aBin Go.Proofs.Try.prog .lss 3 s79 s78) fun t80 =>
    aCond t80
      (Do (aIndexAddr .slice 1 s77 s79) fun t81 =>
    Do (loadF false 1 t81) fun t82 =>
    Do (loadF true 1 s3_1) fun t84 =>
    Do (aPureC Go.Proofs.Try.prog 20 [t84, s10_1, t82]) fun t87 =>
    Do (aExt t87 0) fun t88 =>
    Do (aExt t87 1) fun t89 =>
    aNewVar 39 [.val (.int .i64 0), .val (.int .i64 0), .val (.int .u8 0), .val (.int .u8 0), .val (.int .u8 0), .val (.int .u8 0), .val (.int .u8 0), .val (.int .u8 0), .val (.int .u8 0), .val (.int .u8 0), .val (.int .u8 0), .val (.int .u8 0), .val (.int .u8 0), .val (.int .u8 0), .val (.int .u8 0), .val (.int .u8 0), .val (.int .u8 0), .val (.int .u8 0), .val (.int .u8 0), .val (.int .u8 0), .val (.int .u8 0), .val (.int .u8 0), .val (.int .u8 0), .val (.int .u8 0), .val (.int .u8 0), .val (.int .u8 0), .val (.int .u8 0), .val (.int .u8 0), .val (.int .u8 0), .val (.int .u8 0), .val (.int .u8 0), .val (.int .u8 0), .val (.int .u8 0), .val (.int .u8 0), .val (.string ⟨#[]⟩), .val (.string ⟨#[]⟩)] σ_3 fun t20 σ_4 =>
    storeA 36 t20 t88 σ_4 fun u_1 σ_5 =>
    Do (loadA true 36 t20 σ_5) fun t91 =>
    Do (aSlLit (mkE [.val (.int .i64 0), .val (.int .i64 0), .val (.int .u8 0), .val (.int .u8 0), .val (.int .u8 0), .val (.int .u8 0), .val (.int .u8 0), .val (.int .u8 0), .val (.int .u8 0), .val (.int .u8 0), .val (.int .u8 0), .val (.int .u8 0), .val (.int .u8 0), .val (.int .u8 0), .val (.int .u8 0), .val (.int .u8 0), .val (.int .u8 0), .val (.int .u8 0), .val (.int .u8 0), .val (.int .u8 0), .val (.int .u8 0), .val (.int .u8 0), .val (.int .u8 0), .val (.int .u8 0), .val (.int .u8 0), .val (.int .u8 0), .val (.int .u8 0), .val (.int .u8 0), .val (.int .u8 0), .val (.int .u8 0), .val (.int .u8 0), .val (.int .u8 0), .val (.int .u8 0), .val (.int .u8 0), .val (.string ⟨#[]⟩), .val (.string ⟨#[]⟩)]) 36 1 [(0, t91)]) fun t92 =>
    aAppend 39 36 80 s17 t92 σ_5 (subK fun t93 σ_6 =>
    Do (aBin Go.Proofs.Try.prog .add 3 s79 (.val (.int .i64 1))) fun t94 =>
    go_1 [s1_1, s3_1, s9_1, s10_1, s16, t93, s77, s78, t94] σ_6))
      (Do (aPureC Go.Proofs.Try.prog 12 [s1_1, s9_1, s17]) fun t98 =>
  Q (.ret (.tuple [t98, s16, (.val (.int .i64 0))])) σ_3))
    [s1, s3, s9, s10, t76, (.val (.slice none 0 0)), t76, t78, (.val (.int .i64 0))] σ))
    [a1, a2, t3, t28, t29, t28, t41, (.val (.int .i64 0))] σ)))
theorem move_Compact.eq (a0 a1 a2 : AV) (σ : Store) (Q : AEnd → Store → Prop) : vc (semOf Go.Proofs.Try.prog move_Compact.mark) Go.Proofs.Try.f18.ntmps move_Compact.ann (bodyOf Go.Proofs.Try.f18) (endK [.tmp 6, .tmp 7, .tmp 8] Q) (argFr [a0, a1, a2]) σ = move_Compact.sh a0 a1 a2 σ Q := by kernel_rfl
theorem move_Compact.go {a0 a1 a2 : AV} {σ : Store} {Q : AEnd → Store → Prop} (h : move_Compact.sh a0 a1 a2 σ Q) : ACalls Go.Proofs.Try.prog 18 [a0, a1, a2] σ Q :=
  acalls_of_eq [.tmp 6, .tmp 7, .tmp 8] Go.Proofs.Try.func18 (by kernel_rfl) (by kernel_rfl) (by kernel_rfl) (by kernel_rfl) (move_Compact.eq a0 a1 a2 σ Q) h
def ref17_Flush.mark : Mark := ⟨fun t => Nat.beq t 13 || Nat.beq t 15 || Nat.beq t 28, fun t => Nat.beq t 32, fun t => false, fun t => false, fun t => false⟩
def ref17_Flush.ann : Ann := ⟨fun n => [], fun n => none, fun n => none⟩
def law17_few.mark : Mark := ⟨fun t => false, fun t => false, fun t => false, fun t => Nat.beq t 22, fun t => false⟩
def law17_few.ann : Ann := ⟨fun n => bif Nat.beq n 3 then [0, 1, 5, 6] else [], fun n => none, fun n => none⟩
def law17_shown.mark : Mark := ⟨fun t => Nat.beq t 15 || Nat.beq t 21 || Nat.beq t 27, fun t => false, fun t => false, fun t => Nat.beq t 38 || Nat.beq t 45, fun t => false⟩
def law17_shown.ann : Ann := ⟨fun n => [], fun n => none, fun n => none⟩
/-- 'marlstone/marlstonelaw17.shown' -/
def law17_shown.sh (σ : Store) (Q : AEnd → Store → Prop) : Prop :=
  Do (aLit [.val (.int .i64 0)] [(0, 1)] [(0, (.val (.int .i64 256)))]) fun t10 =>
  aNewVar 30 [.val (.int .i64 0)] σ fun t1 σ =>
  storeA 1 t1 t10 σ fun u σ_1 =>
  Do (loadA true 1 t1 σ_1) fun t12 =>
  Do (aLit [.val (.string ⟨#[]⟩), .val (.string ⟨#[]⟩), .val (.bool false), .val (.int .i64 0)] [(0, 1), (1, 1), (2, 1), (3, 1)] [(0, (.val (.string ⟨#[97]⟩))), (3, (.val (.int .i64 1)))]) fun t13 =>
  Do (aSlLit (mkE [.val (.string ⟨#[]⟩), .val (.string ⟨#[]⟩), .val (.bool false), .val (.int .i64 0)]) 4 1 [(0, t13)]) fun t14 =>
  Do (aPureC Go.Proofs.Try.prog 9 [t12, (.val (.slice none 0 0)), t14]) fun t15 =>
  Do (aExt t15 0) fun t16 =>
  Do (aExt t15 1) fun t17 =>
  Do (loadA true 1 t1 σ_1) fun t19 =>
  Do (aPureC Go.Proofs.Try.prog 18 [t19, t16, (.val (.slice none 0 0))]) fun t21 =>
  Do (aExt t21 0) fun t22 =>
  Do (aExt t21 1) fun t23 =>
  Do (aExt t21 2) fun t24 =>
  Do (aPureC Go.Proofs.Try.prog 15 [t16]) fun t27 =>
  Do (aExt t27 0) fun t28 =>
  Do (aExt t27 1) fun t29 =>
  Do (aExt t27 2) fun t30 =>
  Do (aBuiltin Go.Proofs.Try.prog .len #[22] [t16]) fun t32 =>
  Do (aBin Go.Proofs.Try.prog .eql 3 t32 (.val (.int .i64 1))) fun t33 =>
  Do (aGuard t33 true (aIs t16)) fun t35 =>
  Do (aGuard t33 true (aIndexAddr .slice 36 t35 (.val (.int .i64 0)))) fun t36 =>
  Do (aGuard t33 true (aFieldAddr 0 1 t36)) fun t37 =>
  Do (aGuard t33 true (loadF false 1 t37)) fun t38 =>
  Do (aGuard t33 true (aBin Go.Proofs.Try.prog .eql 3 t38 (.val (.int .i64 0)))) fun t39 =>
  Do (aPick t33 t39 (.val (.bool false))) fun t40 =>
  Do (aGuard t40 true (aIs t16)) fun t42 =>
  Do (aGuard t40 true (aIndexAddr .slice 36 t42 (.val (.int .i64 0)))) fun t43 =>
  Do (aGuard t40 true (aFieldAddr 1 1 t43)) fun t44 =>
  Do (aGuard t40 true (loadF false 1 t44)) fun t45 =>
  Do (aGuard t40 true (aBin Go.Proofs.Try.prog .eql 3 t45 (.val (.int .i64 1)))) fun t46 =>
  Do (aPick t40 t46 (.val (.bool false))) fun t47 =>
  Do (aGuard t47 true (aIs t17)) fun t49 =>
  Do (aGuard t47 true (aBin Go.Proofs.Try.prog .eql 26 t49 (.val (.int .i64 0)))) fun t50 =>
  Do (aPick t47 t50 (.val (.bool false))) fun t51 =>
  Do (aGuard t51 true (aIs t24)) fun t53 =>
  Do (aGuard t51 true (aBin Go.Proofs.Try.prog .eql 26 t53 (.val (.int .i64 5)))) fun t54 =>
  Do (aPick t51 t54 (.val (.bool false))) fun t55 =>
  Do (aGuard t55 true (aIs t30)) fun t57 =>
  Do (aGuard t55 true (aUn Go.Proofs.Try.prog .not t57)) fun t58 =>
  Do (aPick t55 t58 (.val (.bool false))) fun t59 =>
  Q (.ret t59) σ_1
theorem law17_shown.eq (σ : Store) (Q : AEnd → Store → Prop) : vc (semOf Go.Proofs.Try.prog law17_shown.mark) Go.Proofs.Try.f7.ntmps law17_shown.ann (bodyOf Go.Proofs.Try.f7) (endK [.tmp 0] Q) (argFr []) σ = law17_shown.sh  σ Q := by kernel_rfl
theorem law17_shown.go {σ : Store} {Q : AEnd → Store → Prop} (h : law17_shown.sh  σ Q) : ACalls Go.Proofs.Try.prog 7 [] σ Q :=
  acalls_of_eq [.tmp 0] Go.Proofs.Try.func7 (by kernel_rfl) (by kernel_rfl) (by kernel_rfl) (by kernel_rfl) (law17_shown.eq  σ Q) h
def law17_MoveFlushes.mark : Mark := ⟨fun t => Nat.beq t 13 || Nat.beq t 20 || Nat.beq t 26 || Nat.beq t 33 || Nat.beq t 38, fun t => false, fun t => false, fun t => false, fun t => false⟩
def law17_MoveFlushes.ann : Ann := ⟨fun n => [], fun n => none, fun n => none⟩
theorem places_ok (l : List TabR) (m : SM) (g : FuncId) (r : AV) (p : TabR → Bool) (hl : l.length ≤ 1000000) (hg : ∀ x : TabR, aPure Go.Proofs.Try.prog g [r, tbF x] (B (p x))) : aPure Go.Proofs.Try.prog 53 [.lst 36 (l.map tbF) m, .fn (.func g) [r] []] (.lst 1 ((posT p l l.length).map it) .ro) := by
  refine ACalls.fin (pick_places.go ?_)
  unfold pick_places.sh
  repeat' (first | with_reducible apply Stp.go | with_reducible refine imp fun _ => ?_ | (with_reducible refine hyp ?_ ?_; first | assumption | exact leftT_mem (by assumption)) | (with_reducible refine need ?_ ?_; first | trivial | omega | exact ⟨by assumption, by omega⟩ | (simp only [List.length_append, List.length_cons, List.length_nil, List.length_map, List.length_take, List.length_drop, List.length_replicate, List.length_set]; omega)) | (with_reducible refine fact ?_ ?_; first | trivial | exact ⟨rfl, rfl⟩ | kernel_rfl) | with_reducible refine choT (by assumption) ?_ | with_reducible refine choF (by assumption) ?_ | with_reducible refine choF' (by assumption) ?_ | (with_reducible refine altT ?_ ?_; first | omega | (simp only [List.length_append, List.length_cons, List.length_nil, List.length_map, List.length_take, List.length_drop, List.length_replicate, List.length_set]; omega)) | with_reducible refine altF ?_ | with_reducible refine all fun _ => ?_ | with_reducible refine both ?_ ?_ | (with_reducible refine choT ?_ ?_; omega) | (with_reducible refine choF ?_ ?_; omega) | with_reducible refine cho (fun _ => ?_) (fun _ => ?_))
  refine loopI (β := Nat × Value) (fun x => x.1 ≤ l.length) (fun x => [.fn (.func g) [r] [], .own x.2 (posT p l x.1).length, .lst 36 (l.map tbF) m, I .i64 (l.length : Nat), I .i64 (x.1 : Nat)]) (fun x => [.row x.2 InT 1 ((posT p l x.1).map it) 0]) (fun x => l.length - x.1) (0, .slice none 0 0) (Nat.zero_le _) (Sub.nil_own InT (sz := 1) (by decide) _ [_] [_, _, _]) ?_
  rintro ⟨i, v⟩ h1
  dsimp only at h1 ⊢
  have hpl := posT_len p l i
  by_cases hi : i < l.length
  · have hs := posT_succ p l i
    have hpc : ∀ x : TabR, PC Go.Proofs.Try.prog g ([r] ++ [tbF x] ++ []) True (B (p x)) := fun x => ⟨fun _ => PC.of (hg x)⟩
    have hpi := hpc (l.getD i default)
    by_cases hp : p (l.getD i default) = true
    · rw [if_pos hp] at hs
      repeat' (first | with_reducible apply Stp.go | with_reducible refine imp fun _ => ?_ | (with_reducible refine hyp ?_ ?_; first | assumption | exact leftT_mem (by assumption)) | (with_reducible refine need ?_ ?_; first | trivial | omega | exact ⟨by assumption, by omega⟩ | (simp only [List.length_append, List.length_cons, List.length_nil, List.length_map, List.length_take, List.length_drop, List.length_replicate, List.length_set]; omega)) | (with_reducible refine fact ?_ ?_; first | trivial | exact ⟨rfl, rfl⟩ | kernel_rfl) | with_reducible refine choT (by assumption) ?_ | with_reducible refine choF (by assumption) ?_ | with_reducible refine choF' (by assumption) ?_ | (with_reducible refine altT ?_ ?_; first | omega | (simp only [List.length_append, List.length_cons, List.length_nil, List.length_map, List.length_take, List.length_drop, List.length_replicate, List.length_set]; omega)) | with_reducible refine altF ?_ | with_reducible refine all fun _ => ?_ | with_reducible refine both ?_ ?_ | (with_reducible refine choT ?_ ?_; omega) | (with_reducible refine choF ?_ ?_; omega) | with_reducible refine cho (fun _ => ?_) (fun _ => ?_))
      rename_i w
      exact again (i + 1, w) (by dsimp only; omega) (by dsimp only; omega) (by dsimp only; rw [hs]; exact Sub.drop_ (.cons _ (.cons_cons _ .slnil)) _)
    · rw [if_neg hp, List.append_nil] at hs
      repeat' (first | with_reducible apply Stp.go | with_reducible refine imp fun _ => ?_ | (with_reducible refine hyp ?_ ?_; first | assumption | exact leftT_mem (by assumption)) | (with_reducible refine need ?_ ?_; first | trivial | omega | exact ⟨by assumption, by omega⟩ | (simp only [List.length_append, List.length_cons, List.length_nil, List.length_map, List.length_take, List.length_drop, List.length_replicate, List.length_set]; omega)) | (with_reducible refine fact ?_ ?_; first | trivial | exact ⟨rfl, rfl⟩ | kernel_rfl) | with_reducible refine choT (by assumption) ?_ | with_reducible refine choF (by assumption) ?_ | with_reducible refine choF' (by assumption) ?_ | (with_reducible refine altT ?_ ?_; first | omega | (simp only [List.length_append, List.length_cons, List.length_nil, List.length_map, List.length_take, List.length_drop, List.length_replicate, List.length_set]; omega)) | with_reducible refine altF ?_ | with_reducible refine all fun _ => ?_ | with_reducible refine both ?_ ?_ | (with_reducible refine choT ?_ ?_; omega) | (with_reducible refine choF ?_ ?_; omega) | with_reducible refine cho (fun _ => ?_) (fun _ => ?_))
      exact again (i + 1, v) (by dsimp only; omega) (by dsimp only; omega) (by dsimp only; rw [hs]; exact Sub.drop_ (.cons _ (.cons_cons _ .slnil)) _)
  · have e : i = l.length := by omega
    subst e
    repeat' (first | with_reducible apply Stp.go | with_reducible refine imp fun _ => ?_ | (with_reducible refine hyp ?_ ?_; first | assumption | exact leftT_mem (by assumption)) | (with_reducible refine need ?_ ?_; first | trivial | omega | exact ⟨by assumption, by omega⟩ | (simp only [List.length_append, List.length_cons, List.length_nil, List.length_map, List.length_take, List.length_drop, List.length_replicate, List.length_set]; omega)) | (with_reducible refine fact ?_ ?_; first | trivial | exact ⟨rfl, rfl⟩ | kernel_rfl) | with_reducible refine choT (by assumption) ?_ | with_reducible refine choF (by assumption) ?_ | with_reducible refine choF' (by assumption) ?_ | (with_reducible refine altT ?_ ?_; first | omega | (simp only [List.length_append, List.length_cons, List.length_nil, List.length_map, List.length_take, List.length_drop, List.length_replicate, List.length_set]; omega)) | with_reducible refine altF ?_ | with_reducible refine all fun _ => ?_ | with_reducible refine both ?_ ?_ | (with_reducible refine choT ?_ ?_; omega) | (with_reducible refine choF ?_ ?_; omega) | with_reducible refine cho (fun _ => ?_) (fun _ => ?_))
    exact ⟨_, _, _, rfl, retOwn (Sub.refl _ _), rfl, rfl⟩
/-- Whether a table is of a level. -/
def onP (k : Int) (x : TabR) : Bool := decide (x.lev = k)
theorem on_ok (k : Int) (f g : List UInt8) (x : TabR) : aPure Go.Proofs.Try.prog 54 [.agg [I .i64 k, S f, S g], tbF x] (B (onP k x)) := by
  refine pick_span_on.go ?_
  unfold pick_span_on.sh
  repeat' (first | with_reducible apply Stp.go | with_reducible refine imp fun _ => ?_ | (with_reducible refine hyp ?_ ?_; first | assumption | exact leftT_mem (by assumption)) | (with_reducible refine need ?_ ?_; first | trivial | omega | exact ⟨by assumption, by omega⟩ | (simp only [List.length_append, List.length_cons, List.length_nil, List.length_map, List.length_take, List.length_drop, List.length_replicate, List.length_set]; omega)) | (with_reducible refine fact ?_ ?_; first | trivial | exact ⟨rfl, rfl⟩ | kernel_rfl) | with_reducible refine choT (by assumption) ?_ | with_reducible refine choF (by assumption) ?_ | with_reducible refine choF' (by assumption) ?_ | (with_reducible refine altT ?_ ?_; first | omega | (simp only [List.length_append, List.length_cons, List.length_nil, List.length_map, List.length_take, List.length_drop, List.length_replicate, List.length_set]; omega)) | with_reducible refine altF ?_ | with_reducible refine all fun _ => ?_ | with_reducible refine both ?_ ?_ | (with_reducible refine choT ?_ ?_; omega) | (with_reducible refine choF ?_ ?_; omega) | with_reducible refine cho (fun _ => ?_) (fun _ => ?_))
  exact ⟨rfl, rfl⟩
def capT : Nat → Nat
  | 0 => 4
  | 1 => 8
  | _ => 32
theorem Cap_ok (k : Nat) (hk : k < 3) : aPure Go.Proofs.Try.prog 55 [I .i64 (k : Nat)] (I .i64 (capT k : Nat)) := by
  refine pick_Cap.go ?_
  unfold pick_Cap.sh
  match k, hk with
  | 0, _ =>
    repeat' (first | with_reducible apply Stp.go | with_reducible refine imp fun _ => ?_ | (with_reducible refine hyp ?_ ?_; first | assumption | exact leftT_mem (by assumption)) | (with_reducible refine need ?_ ?_; first | trivial | omega | exact ⟨by assumption, by omega⟩ | (simp only [List.length_append, List.length_cons, List.length_nil, List.length_map, List.length_take, List.length_drop, List.length_replicate, List.length_set]; omega)) | (with_reducible refine fact ?_ ?_; first | trivial | exact ⟨rfl, rfl⟩ | kernel_rfl) | with_reducible refine choT (by assumption) ?_ | with_reducible refine choF (by assumption) ?_ | with_reducible refine choF' (by assumption) ?_ | (with_reducible refine altT ?_ ?_; first | omega | (simp only [List.length_append, List.length_cons, List.length_nil, List.length_map, List.length_take, List.length_drop, List.length_replicate, List.length_set]; omega)) | with_reducible refine altF ?_ | with_reducible refine all fun _ => ?_ | with_reducible refine both ?_ ?_ | (with_reducible refine choT ?_ ?_; omega) | (with_reducible refine choF ?_ ?_; omega) | with_reducible refine cho (fun _ => ?_) (fun _ => ?_))
    exact ⟨rfl, rfl⟩
  | 1, _ =>
    repeat' (first | with_reducible apply Stp.go | with_reducible refine imp fun _ => ?_ | (with_reducible refine hyp ?_ ?_; first | assumption | exact leftT_mem (by assumption)) | (with_reducible refine need ?_ ?_; first | trivial | omega | exact ⟨by assumption, by omega⟩ | (simp only [List.length_append, List.length_cons, List.length_nil, List.length_map, List.length_take, List.length_drop, List.length_replicate, List.length_set]; omega)) | (with_reducible refine fact ?_ ?_; first | trivial | exact ⟨rfl, rfl⟩ | kernel_rfl) | with_reducible refine choT (by assumption) ?_ | with_reducible refine choF (by assumption) ?_ | with_reducible refine choF' (by assumption) ?_ | (with_reducible refine altT ?_ ?_; first | omega | (simp only [List.length_append, List.length_cons, List.length_nil, List.length_map, List.length_take, List.length_drop, List.length_replicate, List.length_set]; omega)) | with_reducible refine altF ?_ | with_reducible refine all fun _ => ?_ | with_reducible refine both ?_ ?_ | (with_reducible refine choT ?_ ?_; omega) | (with_reducible refine choF ?_ ?_; omega) | with_reducible refine cho (fun _ => ?_) (fun _ => ?_))
    refine s_shl (by decide) ?_
    exact ⟨by rfl, rfl⟩
  | 2, _ =>
    repeat' (first | with_reducible apply Stp.go | with_reducible refine imp fun _ => ?_ | (with_reducible refine hyp ?_ ?_; first | assumption | exact leftT_mem (by assumption)) | (with_reducible refine need ?_ ?_; first | trivial | omega | exact ⟨by assumption, by omega⟩ | (simp only [List.length_append, List.length_cons, List.length_nil, List.length_map, List.length_take, List.length_drop, List.length_replicate, List.length_set]; omega)) | (with_reducible refine fact ?_ ?_; first | trivial | exact ⟨rfl, rfl⟩ | kernel_rfl) | with_reducible refine choT (by assumption) ?_ | with_reducible refine choF (by assumption) ?_ | with_reducible refine choF' (by assumption) ?_ | (with_reducible refine altT ?_ ?_; first | omega | (simp only [List.length_append, List.length_cons, List.length_nil, List.length_map, List.length_take, List.length_drop, List.length_replicate, List.length_set]; omega)) | with_reducible refine altF ?_ | with_reducible refine all fun _ => ?_ | with_reducible refine both ?_ ?_ | (with_reducible refine choT ?_ ?_; omega) | (with_reducible refine choF ?_ ?_; omega) | with_reducible refine cho (fun _ => ?_) (fun _ => ?_))
    refine s_shl (by decide) ?_
    exact ⟨by rfl, rfl⟩
instance {x : Int} {k : Nat} [hx : NatOf x k] : PC Go.Proofs.Try.prog 55 [.val (.int .i64 x)] (k < 3) (I .i64 (capT k : Nat)) := ⟨fun hk => by rw [hx.eq]; exact PC.of (Cap_ok k hk)⟩
instance {a : AV} {l : List TabR} {m : SM} {k : Int} {f g : List UInt8} [h : IsL a tbF 36 l m] : PC Go.Proofs.Try.prog 53 [a, .fn (.func 54) [.agg [.val (.int .i64 k), S f, S g]] []] (l.length ≤ 1000000) (.lst 1 ((posT (onP k) l l.length).map it) .ro) := ⟨fun hl => ⟨[.lst 36 (l.map tbF) m, .fn (.func 54) [.agg [.val (.int .i64 k), S f, S g]] []], ⟨h.sub, SubV.refl _, trivial⟩, places_ok l m _ _ _ hl (on_ok k f g)⟩⟩
/-- Nothing is to be merged. -/
def calm (l : List TabR) : Prop := ∀ k, k < 3 → (posT (onP (k : Nat)) l l.length).length ≤ capT k
theorem Pick_calm (l : List TabR) (m : SM) (hl : l.length ≤ 1000000) (hc : calm l) : aPure Go.Proofs.Try.prog 32 [.lst 36 (l.map tbF) m] (.tuple [.lst 1 (([] : List Int).map it) .ro, I .i64 0, B false]) := by
  refine ACalls.fin (pick_Pick.go ?_)
  unfold pick_Pick.sh
  repeat' (first | with_reducible apply Stp.go | with_reducible refine imp fun _ => ?_ | (with_reducible refine hyp ?_ ?_; first | assumption | exact leftT_mem (by assumption)) | (with_reducible refine need ?_ ?_; first | trivial | omega | exact ⟨by assumption, by omega⟩ | (simp only [List.length_append, List.length_cons, List.length_nil, List.length_map, List.length_take, List.length_drop, List.length_replicate, List.length_set]; omega)) | (with_reducible refine fact ?_ ?_; first | trivial | exact ⟨rfl, rfl⟩ | kernel_rfl) | with_reducible refine choT (by assumption) ?_ | with_reducible refine choF (by assumption) ?_ | with_reducible refine choF' (by assumption) ?_ | (with_reducible refine altT ?_ ?_; first | omega | (simp only [List.length_append, List.length_cons, List.length_nil, List.length_map, List.length_take, List.length_drop, List.length_replicate, List.length_set]; omega)) | with_reducible refine altF ?_ | with_reducible refine all fun _ => ?_ | with_reducible refine both ?_ ?_ | (with_reducible refine choT ?_ ?_; omega) | (with_reducible refine choF ?_ ?_; omega) | with_reducible refine cho (fun _ => ?_) (fun _ => ?_))
  refine loopI (β := Nat) (fun k => k ≤ 3) (fun k => [.lst 36 (l.map tbF) m, I .i64 (k : Nat)]) (fun _ => []) (fun k => 3 - k) 0 (Nat.zero_le _) (Sub.refl _ _) ?_
  intro k hk
  dsimp only at hk ⊢
  by_cases h3 : k < 3
  · have h4 := hc k h3
    have h5 := posT_len (onP (k : Nat)) l l.length
    have h6 : capT k ≤ 32 := by unfold capT; split <;> decide
    repeat' (first | with_reducible apply Stp.go | with_reducible refine imp fun _ => ?_ | (with_reducible refine hyp ?_ ?_; first | assumption | exact leftT_mem (by assumption)) | (with_reducible refine need ?_ ?_; first | trivial | omega | exact ⟨by assumption, by omega⟩ | (simp only [List.length_append, List.length_cons, List.length_nil, List.length_map, List.length_take, List.length_drop, List.length_replicate, List.length_set]; omega)) | (with_reducible refine fact ?_ ?_; first | trivial | exact ⟨rfl, rfl⟩ | kernel_rfl) | with_reducible refine choT (by assumption) ?_ | with_reducible refine choF (by assumption) ?_ | with_reducible refine choF' (by assumption) ?_ | (with_reducible refine altT ?_ ?_; first | omega | (simp only [List.length_append, List.length_cons, List.length_nil, List.length_map, List.length_take, List.length_drop, List.length_replicate, List.length_set]; omega)) | with_reducible refine altF ?_ | with_reducible refine all fun _ => ?_ | with_reducible refine both ?_ ?_ | (with_reducible refine choT ?_ ?_; omega) | (with_reducible refine choF ?_ ?_; omega) | with_reducible refine cho (fun _ => ?_) (fun _ => ?_))
    exact again (k + 1) (by omega) (by omega) (Sub.refl _ _)
  · repeat' (first | with_reducible apply Stp.go | with_reducible refine imp fun _ => ?_ | (with_reducible refine hyp ?_ ?_; first | assumption | exact leftT_mem (by assumption)) | (with_reducible refine need ?_ ?_; first | trivial | omega | exact ⟨by assumption, by omega⟩ | (simp only [List.length_append, List.length_cons, List.length_nil, List.length_map, List.length_take, List.length_drop, List.length_replicate, List.length_set]; omega)) | (with_reducible refine fact ?_ ?_; first | trivial | exact ⟨rfl, rfl⟩ | kernel_rfl) | with_reducible refine choT (by assumption) ?_ | with_reducible refine choF (by assumption) ?_ | with_reducible refine choF' (by assumption) ?_ | (with_reducible refine altT ?_ ?_; first | omega | (simp only [List.length_append, List.length_cons, List.length_nil, List.length_map, List.length_take, List.length_drop, List.length_replicate, List.length_set]; omega)) | with_reducible refine altF ?_ | with_reducible refine all fun _ => ?_ | with_reducible refine both ?_ ?_ | (with_reducible refine choT ?_ ?_; omega) | (with_reducible refine choF ?_ ?_; omega) | with_reducible refine cho (fun _ => ?_) (fun _ => ?_))
    exact ⟨_, _, _, rfl, Sub.tuple (retNil it (sz := 1) (by decide) (Sub.app_nil _)), rfl, rfl⟩
theorem Inputs_calm (l : List TabR) (m : SM) (hl : l.length ≤ 1000000) (hc : calm l) : aPure Go.Proofs.Try.prog 15 [.lst 36 (l.map tbF) m] (.tuple [.lst 1 (([] : List Int).map it) .ro, I .i64 0, B false]) := by
  refine ACalls.fin (move_Inputs.go ?_)
  unfold move_Inputs.sh
  have iP : PC Go.Proofs.Try.prog 32 [.lst 36 (l.map tbF) m] True (.tuple [.lst 1 (([] : List Int).map it) .ro, I .i64 0, B false]) := ⟨fun _ => PC.of (Pick_calm l m hl hc)⟩
  repeat' (first | with_reducible apply Stp.go | with_reducible refine imp fun _ => ?_ | (with_reducible refine hyp ?_ ?_; first | assumption | exact leftT_mem (by assumption)) | (with_reducible refine need ?_ ?_; first | trivial | omega | exact ⟨by assumption, by omega⟩ | (simp only [List.length_append, List.length_cons, List.length_nil, List.length_map, List.length_take, List.length_drop, List.length_replicate, List.length_set]; omega)) | (with_reducible refine fact ?_ ?_; first | trivial | exact ⟨rfl, rfl⟩ | kernel_rfl) | with_reducible refine choT (by assumption) ?_ | with_reducible refine choF (by assumption) ?_ | with_reducible refine choF' (by assumption) ?_ | (with_reducible refine altT ?_ ?_; first | omega | (simp only [List.length_append, List.length_cons, List.length_nil, List.length_map, List.length_take, List.length_drop, List.length_replicate, List.length_set]; omega)) | with_reducible refine altF ?_ | with_reducible refine all fun _ => ?_ | with_reducible refine both ?_ ?_ | (with_reducible refine choT ?_ ?_; omega) | (with_reducible refine choF ?_ ?_; omega) | with_reducible refine cho (fun _ => ?_) (fun _ => ?_))
  all_goals first
    | exact ⟨_, _, _, rfl, Sub.refl _ _, rfl, rfl⟩
    | exact ⟨_, _, _, rfl, Sub.tuple (retNil it (sz := 1) (by decide) (Sub.app_nil _)), rfl, rfl⟩
theorem Compact_calm (b : Int) (l : List TabR) (m : SM) (hl : l.length ≤ 1000000) (hr : rightT l = true) (hc : calm l) : aPure Go.Proofs.Try.prog 18 [trA b, .lst 36 (l.map tbF) m, .val (.slice none 0 0)] (.tuple [.val (.slice none 0 0), .val (.slice none 0 0), I .i64 5]) := by
  refine ACalls.fin (move_Compact.go ?_)
  unfold move_Compact.sh
  have iP : PC Go.Proofs.Try.prog 32 [.lst 36 (l.map tbF) m] True (.tuple [.lst 1 (([] : List Int).map it) .ro, I .i64 0, B false]) := ⟨fun _ => PC.of (Pick_calm l m hl hc)⟩
  have hff : ¬ (false : Bool) = true := by decide
  repeat' (first | with_reducible apply Stp.go | with_reducible refine imp fun _ => ?_ | (with_reducible refine hyp ?_ ?_; first | assumption | exact leftT_mem (by assumption)) | (with_reducible refine need ?_ ?_; first | trivial | omega | exact ⟨by assumption, by omega⟩ | (simp only [List.length_append, List.length_cons, List.length_nil, List.length_map, List.length_take, List.length_drop, List.length_replicate, List.length_set]; omega)) | (with_reducible refine fact ?_ ?_; first | trivial | exact ⟨rfl, rfl⟩ | kernel_rfl) | with_reducible refine choT (by assumption) ?_ | with_reducible refine choF (by assumption) ?_ | with_reducible refine choF' (by assumption) ?_ | (with_reducible refine altT ?_ ?_; first | omega | (simp only [List.length_append, List.length_cons, List.length_nil, List.length_map, List.length_take, List.length_drop, List.length_replicate, List.length_set]; omega)) | with_reducible refine altF ?_ | with_reducible refine all fun _ => ?_ | with_reducible refine both ?_ ?_ | (with_reducible refine choT ?_ ?_; omega) | (with_reducible refine choF ?_ ?_; omega) | with_reducible refine cho (fun _ => ?_) (fun _ => ?_))
  exact ⟨_, _, _, rfl, Sub.refl _ _, rfl, rfl⟩
instance {a c : AV} {b : Int} {l : List TabR} {p : List En} {m m' : SM} [h : IsL a tbF 36 l m] [h' : IsL c En.av 4 p m'] : PC Go.Proofs.Try.prog 9 [trA b, a, c] (l.length ≤ 1000000 ∧ p.length ≤ 1000000) (.tuple [.lst 36 ((flushT b l p).1.map tbF) .ro, I .i64 ((flushT b l p).2 : Nat)]) := ⟨fun hl => ⟨[trA b, .lst 36 (l.map tbF) m, .lst 4 (p.map En.av) m'], ⟨SubV.refl _, h.sub, h'.sub, trivial⟩, Flush_ok b l p m m' hl.1 hl.2⟩⟩
theorem shown17_ok : aPure Go.Proofs.Try.prog 7 [] (B true) := by
  refine ACalls.fin (law17_shown.go ?_)
  unfold law17_shown.sh
  have hf : fit [⟨[97], [], false, 1⟩] = true := by decide
  have hF : flushT 256 [] [⟨[97], [], false, 1⟩] = ([newT 256 0 [⟨[97], [], false, 1⟩]], 0) := by
    unfold flushT
    rw [if_pos ⟨by decide, hf⟩]
    rfl
  obtain ⟨N, hN⟩ : ∃ N, N = newT 256 0 [⟨[97], [], false, 1⟩] := ⟨_, rfl⟩
  have n1 : N.lev = 0 := by rw [hN]; rfl
  have n2 : N.cnt = 1 := by rw [hN]; rfl
  have n3 : N.fst = [97] := by rw [hN]; rfl
  have n4 : N.lst = [97] := by rw [hN]; rfl
  rw [← hN] at hF
  clear hN
  have hr : rightT [N] = true := by
    unfold rightT
    rw [Bool.and_eq_true, decide_eq_true_eq, decide_eq_true_eq]
    refine ⟨fun i hi => ?_, by simp⟩
    have : i = 0 := by simpa using hi
    subst this
    unfold okT
    show (mayT N && (decide (0 = 0) || _)) = true
    unfold mayT
    rw [n1, n2, n3, n4]
    rfl
  have hc : calm [N] := fun k hk => Nat.le_trans (posT_len _ _ _) (by unfold capT; split <;> simp)
  have iF : ∀ {a c : AV} {m m' : SM} [h : IsL a tbF 36 ([] : List TabR) m] [h' : IsL c En.av 4 [⟨[97], [], false, 1⟩] m'], PC Go.Proofs.Try.prog 9 [trA 256, a, c] True (.tuple [.lst 36 ([N].map tbF) .ro, I .i64 (0 : Nat)]) := fun {a c m m'} h h' => ⟨fun _ => by
    have := (inferInstance : PC Go.Proofs.Try.prog 9 [trA 256, a, c] _ _).ct ⟨by decide, by decide⟩
    rw [hF] at this
    exact this⟩
  have iI : PC Go.Proofs.Try.prog 15 [.lst 36 ([N].map tbF) .ro] True (.tuple [.lst 1 (([] : List Int).map it) .ro, I .i64 0, B false]) := ⟨fun _ => PC.of (Inputs_calm [N] .ro (by simp) hc)⟩
  have iC : PC Go.Proofs.Try.prog 18 [trA 256, .lst 36 ([N].map tbF) .ro, .val (.slice none 0 0)] True (.tuple [.val (.slice none 0 0), .val (.slice none 0 0), I .i64 5]) := ⟨fun _ => PC.of (Compact_calm 256 [N] .ro (by simp) hr hc)⟩
  repeat' (first | with_reducible apply Stp.go | with_reducible refine imp fun _ => ?_ | (with_reducible refine hyp ?_ ?_; first | assumption | exact leftT_mem (by assumption)) | (with_reducible refine need ?_ ?_; first | trivial | omega | exact ⟨by assumption, by omega⟩ | (simp only [List.length_append, List.length_cons, List.length_nil, List.length_map, List.length_take, List.length_drop, List.length_replicate, List.length_set]; omega)) | (with_reducible refine fact ?_ ?_; first | trivial | exact ⟨rfl, rfl⟩ | kernel_rfl) | with_reducible refine choT (by assumption) ?_ | with_reducible refine choF (by assumption) ?_ | with_reducible refine choF' (by assumption) ?_ | (with_reducible refine altT ?_ ?_; first | omega | (simp only [List.length_append, List.length_cons, List.length_nil, List.length_map, List.length_take, List.length_drop, List.length_replicate, List.length_set]; omega)) | with_reducible refine altF ?_ | with_reducible refine all fun _ => ?_ | with_reducible refine both ?_ ?_ | (with_reducible refine choT ?_ ?_; omega) | (with_reducible refine choF ?_ ?_; omega) | with_reducible refine cho (fun _ => ?_) (fun _ => ?_))
  all_goals first
    | exact ⟨_, _, _, rfl, Sub.app_nil _, rfl, rfl⟩
    | (exfalso; simp_all; done)
instance : PC Go.Proofs.Try.prog 7 [] True (B true) := ⟨fun _ => PC.of shown17_ok⟩
end Go.Ab

/- Tables in place of others. -/
set_option linter.unusedVariables false
set_option linter.unusedSimpArgs false
namespace Go.Ab
theorem getD_memT {α : Type} [Inhabited α] {l : List α} {i : Nat} (h : i < l.length) : l.getD i default ∈ l := by
  rw [List.getD_eq_getElem?_getD, List.getElem?_eq_getElem h]; exact List.getElem_mem _
theorem findIdx_at {α : Type} [Inhabited α] {l : List α} {p : α → Bool} {i : Nat} (hi : i < l.length) (h : p (l.getD i default) = true) (h2 : ∀ j, j < i → p (l.getD j default) = false) : l.findIdx p = i := by
  rw [List.findIdx_eq hi]
  have e : ∀ j (hj : j < l.length), l.getD j default = l[j] := fun j hj => by rw [List.getD_eq_getElem?_getD, List.getElem?_eq_getElem hj]; rfl
  exact ⟨by rw [← e i hi]; exact h, fun j hj => by rw [← e j (by omega)]; exact h2 j hj⟩
theorem findIdx_none {α : Type} [Inhabited α] {l : List α} {p : α → Bool} (h : ∀ j, j < l.length → p (l.getD j default) = false) : l.findIdx p = l.length := by
  rw [List.findIdx_eq_length]
  intro x hx
  obtain ⟨j, hj, rfl⟩ := List.mem_iff_getElem.1 hx
  have := h j hj
  rw [List.getD_eq_getElem?_getD, List.getElem?_eq_getElem hj] at this
  exact this
/-- Whether a table stands ahead of a new one. -/
def aheadT (x y : TabR) : Bool := decide (x.lev < y.lev) || (decide (x.lev = y.lev) && lt x.fst y.fst)
/-- Those that are no inputs. -/
def stayT (l : List TabR) (ins : List Int) (k : Nat) : List TabR := ((List.range k).filter fun i => !decide (((i : Nat) : Int) ∈ ins)).map fun i : Nat => l.getD i default
def insT (out : List TabR) (x : TabR) : List TabR := out.take (out.findIdx fun y => !aheadT y x) ++ x :: out.drop (out.findIdx fun y => !aheadT y x)
def placeT (l : List TabR) (ins : List Int) (parts : List TabR) : List TabR := parts.foldl insT (stayT l ins l.length)
theorem stayT_succ (l : List TabR) (ins : List Int) (k : Nat) : stayT l ins (k + 1) = stayT l ins k ++ if (k : Int) ∈ ins then [] else [l.getD k default] := by
  unfold stayT
  rw [List.range_succ, List.filter_append, List.map_append]
  congr 1
  by_cases h : (k : Int) ∈ ins
  · rw [if_pos h]; simp only [List.filter_cons, h, decide_true, Bool.not_true, Bool.false_eq_true, if_false, List.filter_nil]; rfl
  · rw [if_neg h]; simp only [List.filter_cons, h, decide_false, Bool.not_false, if_true, List.filter_nil]; rfl
theorem stayT_len (l : List TabR) (ins : List Int) (k : Nat) : (stayT l ins k).length ≤ k := by
  unfold stayT
  rw [List.length_map]
  exact Nat.le_trans (List.length_filter_le _ _) (by rw [List.length_range]; exact Nat.le_refl _)
theorem insT_len (out : List TabR) (x : TabR) : (insT out x).length = out.length + 1 := by
  have h := List.findIdx_le_length (xs := out) (p := fun y => !aheadT y x)
  unfold insT
  rw [List.length_append, List.length_take, List.length_cons, List.length_drop]
  omega
theorem foldl_ins_len (parts : List TabR) : ∀ out : List TabR, (parts.foldl insT out).length = out.length + parts.length := by
  induction parts with
  | nil => intro out; rfl
  | cons x l ih => intro out; rw [List.foldl_cons, ih, insT_len, List.length_cons]; omega
def move_ahead.mark : Mark := ⟨fun t => false, fun t => false, fun t => Nat.beq t 2 || Nat.beq t 3, fun t => Nat.beq t 6 || Nat.beq t 8 || Nat.beq t 12 || Nat.beq t 14 || Nat.beq t 18 || Nat.beq t 20, fun t => false⟩
def move_ahead.ann : Ann := ⟨fun n => [], fun n => none, fun n => none⟩
/-- 'marlstone/move.ahead' -/
def move_ahead.sh (a0 a1 : AV) (σ : Store) (Q : AEnd → Store → Prop) : Prop :=
  Do (aFreeze ((a0 : AV)).cells) fun t2 =>
  Do (aFreeze ((a1 : AV)).cells) fun t3 =>
  Do (aFieldAddr 0 1 t2) fun t5 =>
  Do (loadF false 1 t5) fun t6 =>
  Do (aFieldAddr 0 1 t3) fun t7 =>
  Do (loadF false 1 t7) fun t8 =>
  Do (aBin Go.Proofs.Try.prog .lss 3 t6 t8) fun t9 =>
  Do (aGuard t9 false (aFieldAddr 0 1 t2)) fun t11 =>
  Do (aGuard t9 false (loadF false 1 t11)) fun t12 =>
  Do (aGuard t9 false (aFieldAddr 0 1 t3)) fun t13 =>
  Do (aGuard t9 false (loadF false 1 t13)) fun t14 =>
  Do (aGuard t9 false (aBin Go.Proofs.Try.prog .eql 3 t12 t14)) fun t15 =>
  Do (aGuard t9 false (aIs t15)) fun t16 =>
  Do (aGuard t16 true (aFieldAddr 34 1 t2)) fun t17 =>
  Do (aGuard t16 true (loadF false 1 t17)) fun t18 =>
  Do (aGuard t16 true (aFieldAddr 34 1 t3)) fun t19 =>
  Do (aGuard t16 true (loadF false 1 t19)) fun t20 =>
  Do (aGuard t16 true (aBin Go.Proofs.Try.prog .lss 9 t18 t20)) fun t21 =>
  Do (aGuard t9 false (aPick t16 t21 (.val (.bool false)))) fun t22 =>
  Do (aPick t9 (.val (.bool true)) t22) fun t23 =>
  Q (.ret t23) σ
theorem move_ahead.eq (a0 a1 : AV) (σ : Store) (Q : AEnd → Store → Prop) : vc (semOf Go.Proofs.Try.prog move_ahead.mark) Go.Proofs.Try.f29.ntmps move_ahead.ann (bodyOf Go.Proofs.Try.f29) (endK [.tmp 4] Q) (argFr [a0, a1]) σ = move_ahead.sh a0 a1 σ Q := by kernel_rfl
theorem move_ahead.go {a0 a1 : AV} {σ : Store} {Q : AEnd → Store → Prop} (h : move_ahead.sh a0 a1 σ Q) : ACalls Go.Proofs.Try.prog 29 [a0, a1] σ Q :=
  acalls_of_eq [.tmp 4] Go.Proofs.Try.func29 (by kernel_rfl) (by kernel_rfl) (by kernel_rfl) (by kernel_rfl) (move_ahead.eq a0 a1 σ Q) h
def move_Place_1.mark : Mark := ⟨fun t => Nat.beq t 6, fun t => false, fun t => Nat.beq t 2, fun t => Nat.beq t 4, fun t => false⟩
def move_Place_1.ann : Ann := ⟨fun n => [], fun n => none, fun n => none⟩
/-- 'marlstone/move.Place$1' -/
def move_Place_1.sh (a0 a1 : AV) (σ : Store) (Q : AEnd → Store → Prop) : Prop :=
  Do (aFreeze ((a0 : AV)).cells) fun t2 =>
  Do (loadF true 36 t2) fun t4 =>
  Do (loadA true 36 a1 σ) fun t5 =>
  Do (aPureC Go.Proofs.Try.prog 29 [t4, t5]) fun t6 =>
  Do (aUn Go.Proofs.Try.prog .not t6) fun t7 =>
  Q (.ret t7) σ
theorem move_Place_1.eq (a0 a1 : AV) (σ : Store) (Q : AEnd → Store → Prop) : vc (semOf Go.Proofs.Try.prog move_Place_1.mark) Go.Proofs.Try.f28.ntmps move_Place_1.ann (bodyOf Go.Proofs.Try.f28) (endK [.tmp 3] Q) (argFr [a0, a1]) σ = move_Place_1.sh a0 a1 σ Q := by kernel_rfl
theorem move_Place_1.go {a0 a1 : AV} {σ : Store} {Q : AEnd → Store → Prop} (h : move_Place_1.sh a0 a1 σ Q) : ACalls Go.Proofs.Try.prog 28 [a0, a1] σ Q :=
  acalls_of_eq [.tmp 3] Go.Proofs.Try.func28 (by kernel_rfl) (by kernel_rfl) (by kernel_rfl) (by kernel_rfl) (move_Place_1.eq a0 a1 σ Q) h
def slices_Index.mark : Mark := ⟨fun t => false, fun t => false, fun t => false, fun t => Nat.beq t 15, fun t => false⟩
def slices_Index.ann : Ann := ⟨fun n => bif Nat.beq n 2 then [0, 1, 7, 8] else [], fun n => none, fun n => none⟩
/-- 'slices.Index[[]int,int]' -/
def slices_Index.sh (a0 a1 : AV) (σ : Store) (Q : AEnd → Store → Prop) : Prop :=
  Do (aBuiltin Go.Proofs.Try.prog .len #[34] [a0]) fun t7 =>
  aLoop (fun go vs σ =>
    At vs 0 fun s0 => At vs 1 fun s1 => At vs 2 fun s7 => At vs 3 fun s8 => Do (aBin Go.Proofs.Try.prog .lss 3 s8 s7) fun t9 =>
    aCond t9
      (Do (aIndexAddr .slice 1 s0 s8) fun t14 =>
    Do (loadF false 1 t14) fun t15 =>
    Do (aBin Go.Proofs.Try.prog .eql 3 s1 t15) fun t16 =>
    aCond t16
      (Q (.ret s8) σ)
      (Do (aBin Go.Proofs.Try.prog .add 3 s8 (.val (.int .i64 1))) fun t18 =>
    go [s0, s1, s7, t18] σ))
      (Q (.ret (.val (.int .i64 (-1)))) σ))
    [a0, a1, t7, (.val (.int .i64 0))] σ
theorem slices_Index.eq (a0 a1 : AV) (σ : Store) (Q : AEnd → Store → Prop) : vc (semOf Go.Proofs.Try.prog slices_Index.mark) Go.Proofs.Try.f50.ntmps slices_Index.ann (bodyOf Go.Proofs.Try.f50) (endK [.tmp 4] Q) (argFr [a0, a1]) σ = slices_Index.sh a0 a1 σ Q := by kernel_rfl
theorem slices_Index.go {a0 a1 : AV} {σ : Store} {Q : AEnd → Store → Prop} (h : slices_Index.sh a0 a1 σ Q) : ACalls Go.Proofs.Try.prog 50 [a0, a1] σ Q :=
  acalls_of_eq [.tmp 4] Go.Proofs.Try.func50 (by kernel_rfl) (by kernel_rfl) (by kernel_rfl) (by kernel_rfl) (slices_Index.eq a0 a1 σ Q) h
def slices_Contains.mark : Mark := ⟨fun t => Nat.beq t 7, fun t => false, fun t => false, fun t => false, fun t => false⟩
def slices_Contains.ann : Ann := ⟨fun n => [], fun n => none, fun n => none⟩
/-- 'slices.Contains[[]int,int]' -/
def slices_Contains.sh (a0 a1 : AV) (σ : Store) (Q : AEnd → Store → Prop) : Prop :=
  Do (aPureC Go.Proofs.Try.prog 50 [a0, a1]) fun t7 =>
  Do (aBin Go.Proofs.Try.prog .geq 3 t7 (.val (.int .i64 0))) fun t8 =>
  Q (.ret t8) σ
theorem slices_Contains.eq (a0 a1 : AV) (σ : Store) (Q : AEnd → Store → Prop) : vc (semOf Go.Proofs.Try.prog slices_Contains.mark) Go.Proofs.Try.f26.ntmps slices_Contains.ann (bodyOf Go.Proofs.Try.f26) (endK [.tmp 4] Q) (argFr [a0, a1]) σ = slices_Contains.sh a0 a1 σ Q := by kernel_rfl
theorem slices_Contains.go {a0 a1 : AV} {σ : Store} {Q : AEnd → Store → Prop} (h : slices_Contains.sh a0 a1 σ Q) : ACalls Go.Proofs.Try.prog 26 [a0, a1] σ Q :=
  acalls_of_eq [.tmp 4] Go.Proofs.Try.func26 (by kernel_rfl) (by kernel_rfl) (by kernel_rfl) (by kernel_rfl) (slices_Contains.eq a0 a1 σ Q) h
def move_Place.mark : Mark := ⟨fun t => Nat.beq t 22, fun t => Nat.beq t 45, fun t => false, fun t => Nat.beq t 19 || Nat.beq t 34, fun t => false⟩
def move_Place.ann : Ann := ⟨fun n => bif Nat.beq n 3 then [1, 2, 7, 13, 14, 15] else bif Nat.beq n 9 then [7, 29, 30, 31] else [], fun n => bif Nat.beq n 14 then some [7, 11, 12, 29, 30, 31] else none, fun n => none⟩
/-- 'marlstone/move.Place' -/
def move_Place.sh (a0 a1 a2 : AV) (σ : Store) (Q : AEnd → Store → Prop) : Prop :=
  Do (aBuiltin Go.Proofs.Try.prog .len #[22] [a0]) fun t14 =>
  aLoop (fun go vs σ =>
    At vs 0 fun s1 => At vs 1 fun s2 => At vs 2 fun s7 => At vs 3 fun s13 => At vs 4 fun s14 => At vs 5 fun s15 => Do (aBin Go.Proofs.Try.prog .lss 3 s15 s14) fun t16 =>
    aCond t16
      (Do (aIndexAddr .slice 36 s13 s15) fun t18 =>
    Do (loadF true 36 t18) fun t19 =>
    aNewVar 39 [.val (.int .i64 0), .val (.int .i64 0), .val (.int .u8 0), .val (.int .u8 0), .val (.int .u8 0), .val (.int .u8 0), .val (.int .u8 0), .val (.int .u8 0), .val (.int .u8 0), .val (.int .u8 0), .val (.int .u8 0), .val (.int .u8 0), .val (.int .u8 0), .val (.int .u8 0), .val (.int .u8 0), .val (.int .u8 0), .val (.int .u8 0), .val (.int .u8 0), .val (.int .u8 0), .val (.int .u8 0), .val (.int .u8 0), .val (.int .u8 0), .val (.int .u8 0), .val (.int .u8 0), .val (.int .u8 0), .val (.int .u8 0), .val (.int .u8 0), .val (.int .u8 0), .val (.int .u8 0), .val (.int .u8 0), .val (.int .u8 0), .val (.int .u8 0), .val (.int .u8 0), .val (.int .u8 0), .val (.string ⟨#[]⟩), .val (.string ⟨#[]⟩)] σ fun t9 σ_1 =>
    storeA 36 t9 t19 σ_1 fun u σ_2 =>
    Do (aPureC Go.Proofs.Try.prog 26 [s1, s15]) fun t22 =>
    Do (aUn Go.Proofs.Try.prog .not t22) fun t23 =>
    aCond t23
      (Do (loadA true 36 t9 σ_2) fun t25 =>
      Do (aSlLit (mkE [.val (.int .i64 0), .val (.int .i64 0), .val (.int .u8 0), .val (.int .u8 0), .val (.int .u8 0), .val (.int .u8 0), .val (.int .u8 0), .val (.int .u8 0), .val (.int .u8 0), .val (.int .u8 0), .val (.int .u8 0), .val (.int .u8 0), .val (.int .u8 0), .val (.int .u8 0), .val (.int .u8 0), .val (.int .u8 0), .val (.int .u8 0), .val (.int .u8 0), .val (.int .u8 0), .val (.int .u8 0), .val (.int .u8 0), .val (.int .u8 0), .val (.int .u8 0), .val (.int .u8 0), .val (.int .u8 0), .val (.int .u8 0), .val (.int .u8 0), .val (.int .u8 0), .val (.int .u8 0), .val (.int .u8 0), .val (.int .u8 0), .val (.int .u8 0), .val (.int .u8 0), .val (.int .u8 0), .val (.string ⟨#[]⟩), .val (.string ⟨#[]⟩)]) 36 1 [(0, t25)]) fun t26 =>
      aAppend 39 36 80 s7 t26 σ_2 (subK fun t27 σ_3 =>
      Do (aBin Go.Proofs.Try.prog .add 3 s15 (.val (.int .i64 1))) fun t28 =>
    go [s1, s2, t27, s13, s14, t28] σ_3))
      (Do (aBin Go.Proofs.Try.prog .add 3 s15 (.val (.int .i64 1))) fun t28_1 =>
    go [s1, s2, s7, s13, s14, t28_1] σ_2))
      (Do (aBuiltin Go.Proofs.Try.prog .len #[22] [s2]) fun t30 =>
  aLoop (fun go_1 vs_1 σ_4 =>
    At vs_1 0 fun s7_1 => At vs_1 1 fun s29 => At vs_1 2 fun s30 => At vs_1 3 fun s31 => Do (aBin Go.Proofs.Try.prog .lss 3 s31 s30) fun t32 =>
    aCond t32
      (Do (aIndexAddr .slice 36 s29 s31) fun t33 =>
    Do (loadF true 36 t33) fun t34 =>
    aNewVar 39 [.val (.int .i64 0), .val (.int .i64 0), .val (.int .u8 0), .val (.int .u8 0), .val (.int .u8 0), .val (.int .u8 0), .val (.int .u8 0), .val (.int .u8 0), .val (.int .u8 0), .val (.int .u8 0), .val (.int .u8 0), .val (.int .u8 0), .val (.int .u8 0), .val (.int .u8 0), .val (.int .u8 0), .val (.int .u8 0), .val (.int .u8 0), .val (.int .u8 0), .val (.int .u8 0), .val (.int .u8 0), .val (.int .u8 0), .val (.int .u8 0), .val (.int .u8 0), .val (.int .u8 0), .val (.int .u8 0), .val (.int .u8 0), .val (.int .u8 0), .val (.int .u8 0), .val (.int .u8 0), .val (.int .u8 0), .val (.int .u8 0), .val (.int .u8 0), .val (.int .u8 0), .val (.int .u8 0), .val (.string ⟨#[]⟩), .val (.string ⟨#[]⟩)] σ_4 fun t11 σ_5 =>
    storeA 36 t11 t34 σ_5 fun u_1 σ_6 =>
    aCall Go.Proofs.Try.prog 27 [s7_1, (.fn (.func 28) [] [t11])] σ_6 (fun t37 σ_7 =>
    aJoin (fun j =>
      Do (aBin Go.Proofs.Try.prog .lss 3 t37 (.val (.int .i64 0))) fun t39 =>
      aCond t39
        (Do (aBuiltin Go.Proofs.Try.prog .len #[22] [s7_1]) fun t41 =>
        j [s7_1, t11, t41, s29, s30, s31] σ_7)
        (j [s7_1, t11, t37, s29, s30, s31] σ_7)) fun vs_2 σ_8 =>
    At vs_2 0 fun s7_2 => At vs_2 1 fun s11 => At vs_2 2 fun s12 => At vs_2 3 fun s29_1 => At vs_2 4 fun s30_1 => At vs_2 5 fun s31_1 => Do (loadA true 36 s11 σ_8) fun t44 =>
    aRowL 39 (mkE [.val (.int .i64 0), .val (.int .i64 0), .val (.int .u8 0), .val (.int .u8 0), .val (.int .u8 0), .val (.int .u8 0), .val (.int .u8 0), .val (.int .u8 0), .val (.int .u8 0), .val (.int .u8 0), .val (.int .u8 0), .val (.int .u8 0), .val (.int .u8 0), .val (.int .u8 0), .val (.int .u8 0), .val (.int .u8 0), .val (.int .u8 0), .val (.int .u8 0), .val (.int .u8 0), .val (.int .u8 0), .val (.int .u8 0), .val (.int .u8 0), .val (.int .u8 0), .val (.int .u8 0), .val (.int .u8 0), .val (.int .u8 0), .val (.int .u8 0), .val (.int .u8 0), .val (.int .u8 0), .val (.int .u8 0), .val (.int .u8 0), .val (.int .u8 0), .val (.int .u8 0), .val (.int .u8 0), .val (.string ⟨#[]⟩), .val (.string ⟨#[]⟩)]) 36 1 [(0, t44)] σ_8 fun t45 σ_9 =>
    aCall Go.Proofs.Try.prog 21 [s7_2, s12, t45] σ_9 (fun t46 σ_10 =>
    Do (aBin Go.Proofs.Try.prog .add 3 s31_1 (.val (.int .i64 1))) fun t47 =>
    go_1 [t46, s29_1, s30_1, t47] σ_10) (fun e σ_11 => Q (.pan e) σ_11)) (fun e_1 σ_12 => Q (.pan e_1) σ_12))
      (Q (.ret s7_1) σ_4))
    [s7, s2, t30, (.val (.int .i64 0))] σ))
    [a1, a2, (.val (.slice none 0 0)), a0, t14, (.val (.int .i64 0))] σ
theorem move_Place.eq (a0 a1 a2 : AV) (σ : Store) (Q : AEnd → Store → Prop) : vc (semOf Go.Proofs.Try.prog move_Place.mark) Go.Proofs.Try.f12.ntmps move_Place.ann (bodyOf Go.Proofs.Try.f12) (endK [.tmp 6] Q) (argFr [a0, a1, a2]) σ = move_Place.sh a0 a1 a2 σ Q := by kernel_rfl
theorem move_Place.go {a0 a1 a2 : AV} {σ : Store} {Q : AEnd → Store → Prop} (h : move_Place.sh a0 a1 a2 σ Q) : ACalls Go.Proofs.Try.prog 12 [a0, a1, a2] σ Q :=
  acalls_of_eq [.tmp 6] Go.Proofs.Try.func12 (by kernel_rfl) (by kernel_rfl) (by kernel_rfl) (by kernel_rfl) (move_Place.eq a0 a1 a2 σ Q) h
namespace Tbl
def slices_IndexFunc.mark : Mark := ⟨fun t => false, fun t => false, fun t => false, fun t => false, fun t => false⟩
def slices_IndexFunc.ann : Ann := ⟨fun n => bif Nat.beq n 2 then [0, 1, 7, 8] else [], fun n => none, fun n => none⟩
/-- 'slices.IndexFunc[[]marlstone/api.Table,marlstone/api.Table]' -/
def slices_IndexFunc.sh (a0 a1 : AV) (σ : Store) (Q : AEnd → Store → Prop) : Prop :=
  Do (aBuiltin Go.Proofs.Try.prog .len #[22] [a0]) fun t7 =>
  aLoop (fun go vs σ =>
    At vs 0 fun s0 => At vs 1 fun s1 => At vs 2 fun s7 => At vs 3 fun s8 => Do (aBin Go.Proofs.Try.prog .lss 3 s8 s7) fun t9 =>
    aCond t9
      (Do (aIndexAddr .slice 36 s0 s8) fun t14 =>
    Do (loadA true 36 t14 σ) fun t15 =>
    aCallV Go.Proofs.Try.prog s1 [t15] σ (fun t16 σ_1 =>
    aCond t16
      (Q (.ret s8) σ_1)
      (Do (aBin Go.Proofs.Try.prog .add 3 s8 (.val (.int .i64 1))) fun t18 =>
    go [s0, s1, s7, t18] σ_1)) (fun e σ_2 => Q (.pan e) σ_2))
      (Q (.ret (.val (.int .i64 (-1)))) σ))
    [a0, a1, t7, (.val (.int .i64 0))] σ
theorem slices_IndexFunc.eq (a0 a1 : AV) (σ : Store) (Q : AEnd → Store → Prop) : vc (semOf Go.Proofs.Try.prog slices_IndexFunc.mark) Go.Proofs.Try.f27.ntmps slices_IndexFunc.ann (bodyOf Go.Proofs.Try.f27) (endK [.tmp 4] Q) (argFr [a0, a1]) σ = slices_IndexFunc.sh a0 a1 σ Q := by kernel_rfl
theorem slices_IndexFunc.go {a0 a1 : AV} {σ : Store} {Q : AEnd → Store → Prop} (h : slices_IndexFunc.sh a0 a1 σ Q) : ACalls Go.Proofs.Try.prog 27 [a0, a1] σ Q :=
  acalls_of_eq [.tmp 4] Go.Proofs.Try.func27 (by kernel_rfl) (by kernel_rfl) (by kernel_rfl) (by kernel_rfl) (slices_IndexFunc.eq a0 a1 σ Q) h
end Tbl
theorem ahead_ok (x y : TabR) : aPure Go.Proofs.Try.prog 29 [tbF x, tbF y] (B (aheadT x y)) := by
  refine move_ahead.go ?_
  unfold move_ahead.sh
  repeat' (first | with_reducible apply Stp.go | with_reducible refine imp fun _ => ?_ | (with_reducible refine hyp ?_ ?_; first | assumption | exact leftT_mem (by assumption)) | (with_reducible refine need ?_ ?_; first | trivial | omega | exact ⟨by assumption, by omega⟩ | (simp only [List.length_append, List.length_cons, List.length_nil, List.length_map, List.length_take, List.length_drop, List.length_replicate, List.length_set]; omega)) | (with_reducible refine fact ?_ ?_; first | trivial | exact ⟨rfl, rfl⟩ | kernel_rfl) | with_reducible refine choT (by assumption) ?_ | with_reducible refine choF (by assumption) ?_ | with_reducible refine choF' (by assumption) ?_ | (with_reducible refine altT ?_ ?_; first | omega | (simp only [List.length_append, List.length_cons, List.length_nil, List.length_map, List.length_take, List.length_drop, List.length_replicate, List.length_set]; omega)) | with_reducible refine altF ?_ | with_reducible refine all fun _ => ?_ | with_reducible refine both ?_ ?_ | (with_reducible refine choT ?_ ?_; omega) | (with_reducible refine choF ?_ ?_; omega) | with_reducible refine cho (fun _ => ?_) (fun _ => ?_))
  all_goals
    refine ⟨?_, rfl⟩
    unfold aheadT
    first
    | (rw [decide_eq_true (show x.lev < y.lev by omega)]; rfl)
    | (rw [decide_eq_false (show ¬ x.lev < y.lev by omega), Bool.false_or]
       first
       | (rw [decide_eq_true (show x.lev = y.lev by omega)]; rfl)
       | (rw [decide_eq_false (show ¬ x.lev = y.lev by omega)]; rfl))
instance {lev cnt lev' cnt' : Int} {d f g d' f' g' : List UInt8} [hd : Len32 d] [hd' : Len32 d'] : PC Go.Proofs.Try.prog 29 [tabA lev cnt d f g, tabA lev' cnt' d' f' g'] True (B (aheadT ⟨lev, cnt, ⟨d, hd.len⟩, f, g⟩ ⟨lev', cnt', ⟨d', hd'.len⟩, f', g'⟩)) := ⟨fun _ => PC.of (ahead_ok ⟨lev, cnt, ⟨d, hd.len⟩, f, g⟩ ⟨lev', cnt', ⟨d', hd'.len⟩, f', g'⟩)⟩
theorem place1_ok (b : Nat) (x y : TabR) : ACalls Go.Proofs.Try.prog 28 [tbF y, ptrAt b 0] [.var b TbE (tbC x)] (fun r σ => r = .ret (B (!aheadT y x)) ∧ σ = [.var b TbE (tbC x)]) := by
  refine move_Place_1.go ?_
  unfold move_Place_1.sh
  repeat' (first | with_reducible apply Stp.go | with_reducible refine imp fun _ => ?_ | (with_reducible refine hyp ?_ ?_; first | assumption | exact leftT_mem (by assumption)) | (with_reducible refine need ?_ ?_; first | trivial | omega | exact ⟨by assumption, by omega⟩ | (simp only [List.length_append, List.length_cons, List.length_nil, List.length_map, List.length_take, List.length_drop, List.length_replicate, List.length_set]; omega)) | (with_reducible refine fact ?_ ?_; first | trivial | exact ⟨rfl, rfl⟩ | kernel_rfl) | with_reducible refine choT (by assumption) ?_ | with_reducible refine choF (by assumption) ?_ | with_reducible refine choF' (by assumption) ?_ | (with_reducible refine altT ?_ ?_; first | omega | (simp only [List.length_append, List.length_cons, List.length_nil, List.length_map, List.length_take, List.length_drop, List.length_replicate, List.length_set]; omega)) | with_reducible refine altF ?_ | with_reducible refine all fun _ => ?_ | with_reducible refine both ?_ ?_ | (with_reducible refine choT ?_ ?_; omega) | (with_reducible refine choF ?_ ?_; omega) | with_reducible refine cho (fun _ => ?_) (fun _ => ?_))
  exact ⟨rfl, rfl⟩
theorem Index_ok (l : List Int) (m : SM) (x : Int) (hl : l.length ≤ 1000000) : aPure Go.Proofs.Try.prog 50 [.lst 1 (l.map it) m, I .i64 x] (I .i64 (if x ∈ l then ((l.findIdx fun y => decide (x = y) : Nat) : Int) else -1)) := by
  refine ACalls.fin (slices_Index.go ?_)
  unfold slices_Index.sh
  repeat' (first | with_reducible apply Stp.go | with_reducible refine imp fun _ => ?_ | (with_reducible refine hyp ?_ ?_; first | assumption | exact leftT_mem (by assumption)) | (with_reducible refine need ?_ ?_; first | trivial | omega | exact ⟨by assumption, by omega⟩ | (simp only [List.length_append, List.length_cons, List.length_nil, List.length_map, List.length_take, List.length_drop, List.length_replicate, List.length_set]; omega)) | (with_reducible refine fact ?_ ?_; first | trivial | exact ⟨rfl, rfl⟩ | kernel_rfl) | with_reducible refine choT (by assumption) ?_ | with_reducible refine choF (by assumption) ?_ | with_reducible refine choF' (by assumption) ?_ | (with_reducible refine altT ?_ ?_; first | omega | (simp only [List.length_append, List.length_cons, List.length_nil, List.length_map, List.length_take, List.length_drop, List.length_replicate, List.length_set]; omega)) | with_reducible refine altF ?_ | with_reducible refine all fun _ => ?_ | with_reducible refine both ?_ ?_ | (with_reducible refine choT ?_ ?_; omega) | (with_reducible refine choF ?_ ?_; omega) | with_reducible refine cho (fun _ => ?_) (fun _ => ?_))
  refine loopI (β := Nat) (fun i => i ≤ l.length ∧ ∀ j, j < i → ¬ x = l.getD j default) (fun i => [.lst 1 (l.map it) m, I .i64 x, I .i64 (l.length : Nat), I .i64 (i : Nat)]) (fun _ => []) (fun i => l.length - i) 0 ⟨Nat.zero_le _, fun j h => absurd h (Nat.not_lt_zero _)⟩ (Sub.refl _ _) ?_
  rintro i ⟨h1, h2⟩
  dsimp only at h1 h2 ⊢
  by_cases hi : i < l.length
  · by_cases hx : x = l.getD i default
    · have hm : x ∈ l := by rw [hx]; exact getD_memT hi
      have hf : l.findIdx (fun y => decide (x = y)) = i := by
        exact findIdx_at hi (by rw [decide_eq_true_eq]; exact hx) (fun j hj => by rw [decide_eq_false_iff_not]; exact h2 j hj)
      rw [if_pos hm, hf]
      repeat' (first | with_reducible apply Stp.go | with_reducible refine imp fun _ => ?_ | (with_reducible refine hyp ?_ ?_; first | assumption | exact leftT_mem (by assumption)) | (with_reducible refine need ?_ ?_; first | trivial | omega | exact ⟨by assumption, by omega⟩ | (simp only [List.length_append, List.length_cons, List.length_nil, List.length_map, List.length_take, List.length_drop, List.length_replicate, List.length_set]; omega)) | (with_reducible refine fact ?_ ?_; first | trivial | exact ⟨rfl, rfl⟩ | kernel_rfl) | with_reducible refine choT (by assumption) ?_ | with_reducible refine choF (by assumption) ?_ | with_reducible refine choF' (by assumption) ?_ | (with_reducible refine altT ?_ ?_; first | omega | (simp only [List.length_append, List.length_cons, List.length_nil, List.length_map, List.length_take, List.length_drop, List.length_replicate, List.length_set]; omega)) | with_reducible refine altF ?_ | with_reducible refine all fun _ => ?_ | with_reducible refine both ?_ ?_ | (with_reducible refine choT ?_ ?_; omega) | (with_reducible refine choF ?_ ?_; omega) | with_reducible refine cho (fun _ => ?_) (fun _ => ?_))
      exact ⟨_, _, _, rfl, Sub.app_nil _, rfl, rfl⟩
    · repeat' (first | with_reducible apply Stp.go | with_reducible refine imp fun _ => ?_ | (with_reducible refine hyp ?_ ?_; first | assumption | exact leftT_mem (by assumption)) | (with_reducible refine need ?_ ?_; first | trivial | omega | exact ⟨by assumption, by omega⟩ | (simp only [List.length_append, List.length_cons, List.length_nil, List.length_map, List.length_take, List.length_drop, List.length_replicate, List.length_set]; omega)) | (with_reducible refine fact ?_ ?_; first | trivial | exact ⟨rfl, rfl⟩ | kernel_rfl) | with_reducible refine choT (by assumption) ?_ | with_reducible refine choF (by assumption) ?_ | with_reducible refine choF' (by assumption) ?_ | (with_reducible refine altT ?_ ?_; first | omega | (simp only [List.length_append, List.length_cons, List.length_nil, List.length_map, List.length_take, List.length_drop, List.length_replicate, List.length_set]; omega)) | with_reducible refine altF ?_ | with_reducible refine all fun _ => ?_ | with_reducible refine both ?_ ?_ | (with_reducible refine choT ?_ ?_; omega) | (with_reducible refine choF ?_ ?_; omega) | with_reducible refine cho (fun _ => ?_) (fun _ => ?_))
      exact again (i + 1) (by omega) ⟨by omega, fun j hj => by
        by_cases e : j = i
        · rw [e]; exact hx
        · exact h2 j (by omega)⟩ (Sub.refl _ _)
  · have hn : ¬ x ∈ l := fun h => by
      obtain ⟨j, hj, e⟩ := List.mem_iff_getElem.1 h
      refine h2 j (by omega) ?_
      rw [List.getD_eq_getElem?_getD, List.getElem?_eq_getElem hj]; exact e.symm
    rw [if_neg hn]
    repeat' (first | with_reducible apply Stp.go | with_reducible refine imp fun _ => ?_ | (with_reducible refine hyp ?_ ?_; first | assumption | exact leftT_mem (by assumption)) | (with_reducible refine need ?_ ?_; first | trivial | omega | exact ⟨by assumption, by omega⟩ | (simp only [List.length_append, List.length_cons, List.length_nil, List.length_map, List.length_take, List.length_drop, List.length_replicate, List.length_set]; omega)) | (with_reducible refine fact ?_ ?_; first | trivial | exact ⟨rfl, rfl⟩ | kernel_rfl) | with_reducible refine choT (by assumption) ?_ | with_reducible refine choF (by assumption) ?_ | with_reducible refine choF' (by assumption) ?_ | (with_reducible refine altT ?_ ?_; first | omega | (simp only [List.length_append, List.length_cons, List.length_nil, List.length_map, List.length_take, List.length_drop, List.length_replicate, List.length_set]; omega)) | with_reducible refine altF ?_ | with_reducible refine all fun _ => ?_ | with_reducible refine both ?_ ?_ | (with_reducible refine choT ?_ ?_; omega) | (with_reducible refine choF ?_ ?_; omega) | with_reducible refine cho (fun _ => ?_) (fun _ => ?_))
    exact ⟨_, _, _, rfl, Sub.app_nil _, rfl, rfl⟩
theorem Contains_ok (l : List Int) (m : SM) (x : Int) (hl : l.length ≤ 1000000) : aPure Go.Proofs.Try.prog 26 [.lst 1 (l.map it) m, I .i64 x] (B (decide (x ∈ l))) := by
  refine slices_Contains.go ?_
  unfold slices_Contains.sh
  by_cases h : x ∈ l
  · have hi : PC Go.Proofs.Try.prog 50 [.lst 1 (l.map it) m, I .i64 x] True (I .i64 ((l.findIdx fun y => decide (x = y) : Nat) : Int)) := ⟨fun _ => by
      have := Index_ok l m x hl
      rw [if_pos h] at this
      exact PC.of this⟩
    rw [decide_eq_true h]
    repeat' (first | with_reducible apply Stp.go | with_reducible refine imp fun _ => ?_ | (with_reducible refine hyp ?_ ?_; first | assumption | exact leftT_mem (by assumption)) | (with_reducible refine need ?_ ?_; first | trivial | omega | exact ⟨by assumption, by omega⟩ | (simp only [List.length_append, List.length_cons, List.length_nil, List.length_map, List.length_take, List.length_drop, List.length_replicate, List.length_set]; omega)) | (with_reducible refine fact ?_ ?_; first | trivial | exact ⟨rfl, rfl⟩ | kernel_rfl) | with_reducible refine choT (by assumption) ?_ | with_reducible refine choF (by assumption) ?_ | with_reducible refine choF' (by assumption) ?_ | (with_reducible refine altT ?_ ?_; first | omega | (simp only [List.length_append, List.length_cons, List.length_nil, List.length_map, List.length_take, List.length_drop, List.length_replicate, List.length_set]; omega)) | with_reducible refine altF ?_ | with_reducible refine all fun _ => ?_ | with_reducible refine both ?_ ?_ | (with_reducible refine choT ?_ ?_; omega) | (with_reducible refine choF ?_ ?_; omega) | with_reducible refine cho (fun _ => ?_) (fun _ => ?_))
    all_goals first
      | exact ⟨by rw [decide_eq_true (by omega)], rfl⟩
      | exact ⟨rfl, rfl⟩
  · have hi : PC Go.Proofs.Try.prog 50 [.lst 1 (l.map it) m, I .i64 x] True (I .i64 (-1)) := ⟨fun _ => by
      have := Index_ok l m x hl
      rw [if_neg h] at this
      exact PC.of this⟩
    rw [decide_eq_false h]
    repeat' (first | with_reducible apply Stp.go | with_reducible refine imp fun _ => ?_ | (with_reducible refine hyp ?_ ?_; first | assumption | exact leftT_mem (by assumption)) | (with_reducible refine need ?_ ?_; first | trivial | omega | exact ⟨by assumption, by omega⟩ | (simp only [List.length_append, List.length_cons, List.length_nil, List.length_map, List.length_take, List.length_drop, List.length_replicate, List.length_set]; omega)) | (with_reducible refine fact ?_ ?_; first | trivial | exact ⟨rfl, rfl⟩ | kernel_rfl) | with_reducible refine choT (by assumption) ?_ | with_reducible refine choF (by assumption) ?_ | with_reducible refine choF' (by assumption) ?_ | (with_reducible refine altT ?_ ?_; first | omega | (simp only [List.length_append, List.length_cons, List.length_nil, List.length_map, List.length_take, List.length_drop, List.length_replicate, List.length_set]; omega)) | with_reducible refine altF ?_ | with_reducible refine all fun _ => ?_ | with_reducible refine both ?_ ?_ | (with_reducible refine choT ?_ ?_; omega) | (with_reducible refine choF ?_ ?_; omega) | with_reducible refine cho (fun _ => ?_) (fun _ => ?_))
    all_goals first
      | exact ⟨rfl, rfl⟩
      | exact ⟨by rw [decide_eq_false (by omega)], rfl⟩
instance {a : AV} {l : List Int} {m : SM} {x : Int} [h : IsL a it 1 l m] : PC Go.Proofs.Try.prog 26 [a, .val (.int .i64 x)] (l.length ≤ 1000000) (B (decide (x ∈ l))) := ⟨fun hl => ⟨[.lst 1 (l.map it) m, I .i64 x], ⟨h.sub, SubV.refl _, trivial⟩, Contains_ok l m x hl⟩⟩
theorem IndexT_ok (v : Value) (l : List TabR) (b : Nat) (x : TabR) (hl : l.length ≤ 1000000) : ACalls Go.Proofs.Try.prog 27 [.own v l.length, .fn (.func 28) [] [ptrAt b 0]] [.row v TbE 36 (l.map tbF) 0, .var b TbE (tbC x)] (fun r σ => (∃ z : Int, r = .ret (I .i64 z) ∧ ((l.findIdx (fun y => !aheadT y x) < l.length ∧ z = (l.findIdx (fun y => !aheadT y x) : Nat)) ∨ (l.findIdx (fun y => !aheadT y x) = l.length ∧ z = -1))) ∧ σ = [.row v TbE 36 (l.map tbF) 0, .var b TbE (tbC x)]) := by
  refine ACalls.fin (Tbl.slices_IndexFunc.go ?_)
  unfold Tbl.slices_IndexFunc.sh
  repeat' (first | with_reducible apply Stp.go | with_reducible refine imp fun _ => ?_ | (with_reducible refine hyp ?_ ?_; first | assumption | exact leftT_mem (by assumption)) | (with_reducible refine need ?_ ?_; first | trivial | omega | exact ⟨by assumption, by omega⟩ | (simp only [List.length_append, List.length_cons, List.length_nil, List.length_map, List.length_take, List.length_drop, List.length_replicate, List.length_set]; omega)) | (with_reducible refine fact ?_ ?_; first | trivial | exact ⟨rfl, rfl⟩ | kernel_rfl) | with_reducible refine choT (by assumption) ?_ | with_reducible refine choF (by assumption) ?_ | with_reducible refine choF' (by assumption) ?_ | (with_reducible refine altT ?_ ?_; first | omega | (simp only [List.length_append, List.length_cons, List.length_nil, List.length_map, List.length_take, List.length_drop, List.length_replicate, List.length_set]; omega)) | with_reducible refine altF ?_ | with_reducible refine all fun _ => ?_ | with_reducible refine both ?_ ?_ | (with_reducible refine choT ?_ ?_; omega) | (with_reducible refine choF ?_ ?_; omega) | with_reducible refine cho (fun _ => ?_) (fun _ => ?_))
  refine loopI (β := Nat) (fun i => i ≤ l.length ∧ ∀ j, j < i → (!aheadT (l.getD j default) x) = false) (fun i => [.own v l.length, .fn (.func 28) [] [ptrAt b 0], I .i64 (l.length : Nat), I .i64 (i : Nat)]) (fun _ => [.row v TbE 36 (l.map tbF) 0, .var b TbE (tbC x)]) (fun i => l.length - i) 0 ⟨Nat.zero_le _, fun j h => absurd h (Nat.not_lt_zero _)⟩ (Sub.refl _ _) ?_
  rintro i ⟨h1, h2⟩
  dsimp only at h1 h2 ⊢
  by_cases hi : i < l.length
  · repeat' (first | with_reducible apply Stp.go | with_reducible refine imp fun _ => ?_ | (with_reducible refine hyp ?_ ?_; first | assumption | exact leftT_mem (by assumption)) | (with_reducible refine need ?_ ?_; first | trivial | omega | exact ⟨by assumption, by omega⟩ | (simp only [List.length_append, List.length_cons, List.length_nil, List.length_map, List.length_take, List.length_drop, List.length_replicate, List.length_set]; omega)) | (with_reducible refine fact ?_ ?_; first | trivial | exact ⟨rfl, rfl⟩ | kernel_rfl) | with_reducible refine choT (by assumption) ?_ | with_reducible refine choF (by assumption) ?_ | with_reducible refine choF' (by assumption) ?_ | (with_reducible refine altT ?_ ?_; first | omega | (simp only [List.length_append, List.length_cons, List.length_nil, List.length_map, List.length_take, List.length_drop, List.length_replicate, List.length_set]; omega)) | with_reducible refine altF ?_ | with_reducible refine all fun _ => ?_ | with_reducible refine both ?_ ?_ | (with_reducible refine choT ?_ ?_; omega) | (with_reducible refine choF ?_ ?_; omega) | with_reducible refine cho (fun _ => ?_) (fun _ => ?_))
    refine Or.inl ⟨_, _, subS (τ := [.var b TbE (tbC x), .row v TbE 36 (l.map tbF) 0]) _, ((place1_ok b x (l.getD i default)).frame [.row v TbE 36 (l.map tbF) 0]).mono ?_⟩
    rintro r τ ⟨σ1, e1, _, e2, e3⟩
    rw [e2, e1, e3]
    simp only [onEnd]
    by_cases ha : aheadT (l.getD i default) x = true
    · repeat' (first | with_reducible apply Stp.go | with_reducible refine imp fun _ => ?_ | (with_reducible refine hyp ?_ ?_; first | assumption | exact leftT_mem (by assumption)) | (with_reducible refine need ?_ ?_; first | trivial | omega | exact ⟨by assumption, by omega⟩ | (simp only [List.length_append, List.length_cons, List.length_nil, List.length_map, List.length_take, List.length_drop, List.length_replicate, List.length_set]; omega)) | (with_reducible refine fact ?_ ?_; first | trivial | exact ⟨rfl, rfl⟩ | kernel_rfl) | with_reducible refine choT (by assumption) ?_ | with_reducible refine choF (by assumption) ?_ | with_reducible refine choF' (by assumption) ?_ | (with_reducible refine altT ?_ ?_; first | omega | (simp only [List.length_append, List.length_cons, List.length_nil, List.length_map, List.length_take, List.length_drop, List.length_replicate, List.length_set]; omega)) | with_reducible refine altF ?_ | with_reducible refine all fun _ => ?_ | with_reducible refine both ?_ ?_ | (with_reducible refine choT ?_ ?_; omega) | (with_reducible refine choF ?_ ?_; omega) | with_reducible refine cho (fun _ => ?_) (fun _ => ?_))
      exact again (i + 1) (by omega) ⟨by omega, fun j hj => by
        by_cases e : j = i
        · rw [e, ha]; rfl
        · exact h2 j (by omega)⟩ (Sub.perm (List.Perm.swap _ _ _) _)
    · have hf : l.findIdx (fun y => !aheadT y x) = i := findIdx_at hi (by rw [Bool.eq_false_iff.2 ha]; rfl) h2
      repeat' (first | with_reducible apply Stp.go | with_reducible refine imp fun _ => ?_ | (with_reducible refine hyp ?_ ?_; first | assumption | exact leftT_mem (by assumption)) | (with_reducible refine need ?_ ?_; first | trivial | omega | exact ⟨by assumption, by omega⟩ | (simp only [List.length_append, List.length_cons, List.length_nil, List.length_map, List.length_take, List.length_drop, List.length_replicate, List.length_set]; omega)) | (with_reducible refine fact ?_ ?_; first | trivial | exact ⟨rfl, rfl⟩ | kernel_rfl) | with_reducible refine choT (by assumption) ?_ | with_reducible refine choF (by assumption) ?_ | with_reducible refine choF' (by assumption) ?_ | (with_reducible refine altT ?_ ?_; first | omega | (simp only [List.length_append, List.length_cons, List.length_nil, List.length_map, List.length_take, List.length_drop, List.length_replicate, List.length_set]; omega)) | with_reducible refine altF ?_ | with_reducible refine all fun _ => ?_ | with_reducible refine both ?_ ?_ | (with_reducible refine choT ?_ ?_; omega) | (with_reducible refine choF ?_ ?_; omega) | with_reducible refine cho (fun _ => ?_) (fun _ => ?_))
      exact ⟨_, _, _, rfl, Sub.perm (List.Perm.swap _ _ _) _, ⟨_, rfl, .inl ⟨by omega, by rw [hf]⟩⟩, rfl⟩
  · have e : i = l.length := by omega
    subst e
    have hf : l.findIdx (fun y => !aheadT y x) = l.length := findIdx_none h2
    repeat' (first | with_reducible apply Stp.go | with_reducible refine imp fun _ => ?_ | (with_reducible refine hyp ?_ ?_; first | assumption | exact leftT_mem (by assumption)) | (with_reducible refine need ?_ ?_; first | trivial | omega | exact ⟨by assumption, by omega⟩ | (simp only [List.length_append, List.length_cons, List.length_nil, List.length_map, List.length_take, List.length_drop, List.length_replicate, List.length_set]; omega)) | (with_reducible refine fact ?_ ?_; first | trivial | exact ⟨rfl, rfl⟩ | kernel_rfl) | with_reducible refine choT (by assumption) ?_ | with_reducible refine choF (by assumption) ?_ | with_reducible refine choF' (by assumption) ?_ | (with_reducible refine altT ?_ ?_; first | omega | (simp only [List.length_append, List.length_cons, List.length_nil, List.length_map, List.length_take, List.length_drop, List.length_replicate, List.length_set]; omega)) | with_reducible refine altF ?_ | with_reducible refine all fun _ => ?_ | with_reducible refine both ?_ ?_ | (with_reducible refine choT ?_ ?_; omega) | (with_reducible refine choF ?_ ?_; omega) | with_reducible refine cho (fun _ => ?_) (fun _ => ?_))
    exact ⟨_, _, _, rfl, Sub.refl _ _, ⟨_, rfl, .inr ⟨hf, rfl⟩⟩, rfl⟩
theorem Place_ok (l : List TabR) (ins : List Int) (parts : List TabR) (m m' m'' : SM) (hl : l.length ≤ 100000) (hi : ins.length ≤ 100000) (hp : parts.length ≤ 100000) : aPure Go.Proofs.Try.prog 12 [.lst 36 (l.map tbF) m, .lst 1 (ins.map it) m', .lst 36 (parts.map tbF) m''] (.lst 36 ((placeT l ins parts).map tbF) .ro) := by
  refine ACalls.fin (move_Place.go ?_)
  unfold move_Place.sh
  repeat' (first | with_reducible apply Stp.go | with_reducible refine imp fun _ => ?_ | (with_reducible refine hyp ?_ ?_; first | assumption | exact leftT_mem (by assumption)) | (with_reducible refine need ?_ ?_; first | trivial | omega | exact ⟨by assumption, by omega⟩ | (simp only [List.length_append, List.length_cons, List.length_nil, List.length_map, List.length_take, List.length_drop, List.length_replicate, List.length_set]; omega)) | (with_reducible refine fact ?_ ?_; first | trivial | exact ⟨rfl, rfl⟩ | kernel_rfl) | with_reducible refine choT (by assumption) ?_ | with_reducible refine choF (by assumption) ?_ | with_reducible refine choF' (by assumption) ?_ | (with_reducible refine altT ?_ ?_; first | omega | (simp only [List.length_append, List.length_cons, List.length_nil, List.length_map, List.length_take, List.length_drop, List.length_replicate, List.length_set]; omega)) | with_reducible refine altF ?_ | with_reducible refine all fun _ => ?_ | with_reducible refine both ?_ ?_ | (with_reducible refine choT ?_ ?_; omega) | (with_reducible refine choF ?_ ?_; omega) | with_reducible refine cho (fun _ => ?_) (fun _ => ?_))
  refine loopI (β := Nat × Value) (fun x => x.1 ≤ l.length) (fun x => [.lst 1 (ins.map it) m', .lst 36 (parts.map tbF) m'', .own x.2 (stayT l ins x.1).length, .lst 36 (l.map tbF) m, I .i64 (l.length : Nat), I .i64 (x.1 : Nat)]) (fun x => [.row x.2 TbE 36 ((stayT l ins x.1).map tbF) 0]) (fun x => l.length - x.1) (0, .slice none 0 0) (Nat.zero_le _) (Sub.nil_own TbE (sz := 36) (by decide) _ [_, _] [_, _, _]) ?_
  rintro ⟨i, v⟩ h1
  dsimp only at h1 ⊢
  have hsl := stayT_len l ins i
  by_cases hlt : i < l.length
  · have hs := stayT_succ l ins i
    by_cases hc : (i : Int) ∈ ins
    · rw [if_pos hc, List.append_nil] at hs
      repeat' (first | with_reducible apply Stp.go | with_reducible refine imp fun _ => ?_ | (with_reducible refine hyp ?_ ?_; first | assumption | exact leftT_mem (by assumption)) | (with_reducible refine need ?_ ?_; first | trivial | omega | exact ⟨by assumption, by omega⟩ | (simp only [List.length_append, List.length_cons, List.length_nil, List.length_map, List.length_take, List.length_drop, List.length_replicate, List.length_set]; omega)) | (with_reducible refine fact ?_ ?_; first | trivial | exact ⟨rfl, rfl⟩ | kernel_rfl) | with_reducible refine choT (by assumption) ?_ | with_reducible refine choF (by assumption) ?_ | with_reducible refine choF' (by assumption) ?_ | (with_reducible refine altT ?_ ?_; first | omega | (simp only [List.length_append, List.length_cons, List.length_nil, List.length_map, List.length_take, List.length_drop, List.length_replicate, List.length_set]; omega)) | with_reducible refine altF ?_ | with_reducible refine all fun _ => ?_ | with_reducible refine both ?_ ?_ | (with_reducible refine choT ?_ ?_; omega) | (with_reducible refine choF ?_ ?_; omega) | with_reducible refine cho (fun _ => ?_) (fun _ => ?_))
      exact again (i + 1, v) (by dsimp only; omega) (by dsimp only; omega) (by dsimp only; rw [hs]; exact Sub.drop_ (.cons _ (.cons_cons _ .slnil)) _)
    · rw [if_neg hc] at hs
      repeat' (first | with_reducible apply Stp.go | with_reducible refine imp fun _ => ?_ | (with_reducible refine hyp ?_ ?_; first | assumption | exact leftT_mem (by assumption)) | (with_reducible refine need ?_ ?_; first | trivial | omega | exact ⟨by assumption, by omega⟩ | (simp only [List.length_append, List.length_cons, List.length_nil, List.length_map, List.length_take, List.length_drop, List.length_replicate, List.length_set]; omega)) | (with_reducible refine fact ?_ ?_; first | trivial | exact ⟨rfl, rfl⟩ | kernel_rfl) | with_reducible refine choT (by assumption) ?_ | with_reducible refine choF (by assumption) ?_ | with_reducible refine choF' (by assumption) ?_ | (with_reducible refine altT ?_ ?_; first | omega | (simp only [List.length_append, List.length_cons, List.length_nil, List.length_map, List.length_take, List.length_drop, List.length_replicate, List.length_set]; omega)) | with_reducible refine altF ?_ | with_reducible refine all fun _ => ?_ | with_reducible refine both ?_ ?_ | (with_reducible refine choT ?_ ?_; omega) | (with_reducible refine choF ?_ ?_; omega) | with_reducible refine cho (fun _ => ?_) (fun _ => ?_))
      rename_i w
      exact again (i + 1, w) (by dsimp only; omega) (by dsimp only; omega) (by dsimp only; rw [hs]; exact subS _)
  · have e : i = l.length := by omega
    subst e
    repeat' (first | with_reducible apply Stp.go | with_reducible refine imp fun _ => ?_ | (with_reducible refine hyp ?_ ?_; first | assumption | exact leftT_mem (by assumption)) | (with_reducible refine need ?_ ?_; first | trivial | omega | exact ⟨by assumption, by omega⟩ | (simp only [List.length_append, List.length_cons, List.length_nil, List.length_map, List.length_take, List.length_drop, List.length_replicate, List.length_set]; omega)) | (with_reducible refine fact ?_ ?_; first | trivial | exact ⟨rfl, rfl⟩ | kernel_rfl) | with_reducible refine choT (by assumption) ?_ | with_reducible refine choF (by assumption) ?_ | with_reducible refine choF' (by assumption) ?_ | (with_reducible refine altT ?_ ?_; first | omega | (simp only [List.length_append, List.length_cons, List.length_nil, List.length_map, List.length_take, List.length_drop, List.length_replicate, List.length_set]; omega)) | with_reducible refine altF ?_ | with_reducible refine all fun _ => ?_ | with_reducible refine both ?_ ?_ | (with_reducible refine choT ?_ ?_; omega) | (with_reducible refine choF ?_ ?_; omega) | with_reducible refine cho (fun _ => ?_) (fun _ => ?_))
    have hfl := foldl_ins_len
    refine loopI (β := Nat × Value) (fun x => x.1 ≤ parts.length) (fun x => [.own x.2 ((parts.take x.1).foldl insT (stayT l ins l.length)).length, .lst 36 (parts.map tbF) m'', I .i64 (parts.length : Nat), I .i64 (x.1 : Nat)]) (fun x => [.row x.2 TbE 36 (((parts.take x.1).foldl insT (stayT l ins l.length)).map tbF) 0]) (fun x => parts.length - x.1) (0, v) (Nat.zero_le _) (Sub.refl _ _) ?_
    rintro ⟨j, w⟩ h2
    dsimp only at h2 ⊢
    have hol : ((parts.take j).foldl insT (stayT l ins l.length)).length ≤ 200000 := by rw [hfl, List.length_take]; omega
    by_cases hj : j < parts.length
    · have hs : (parts.take (j + 1)).foldl insT (stayT l ins l.length) = insT ((parts.take j).foldl insT (stayT l ins l.length)) (parts.getD j default) := by
        rw [take_succ_d hj, List.foldl_append]; rfl
      generalize (parts.take j).foldl insT (stayT l ins l.length) = O at *
      repeat' (first | with_reducible apply Stp.go | with_reducible refine imp fun _ => ?_ | (with_reducible refine hyp ?_ ?_; first | assumption | exact leftT_mem (by assumption)) | (with_reducible refine need ?_ ?_; first | trivial | omega | exact ⟨by assumption, by omega⟩ | (simp only [List.length_append, List.length_cons, List.length_nil, List.length_map, List.length_take, List.length_drop, List.length_replicate, List.length_set]; omega)) | (with_reducible refine fact ?_ ?_; first | trivial | exact ⟨rfl, rfl⟩ | kernel_rfl) | with_reducible refine choT (by assumption) ?_ | with_reducible refine choF (by assumption) ?_ | with_reducible refine choF' (by assumption) ?_ | (with_reducible refine altT ?_ ?_; first | omega | (simp only [List.length_append, List.length_cons, List.length_nil, List.length_map, List.length_take, List.length_drop, List.length_replicate, List.length_set]; omega)) | with_reducible refine altF ?_ | with_reducible refine all fun _ => ?_ | with_reducible refine both ?_ ?_ | (with_reducible refine choT ?_ ?_; omega) | (with_reducible refine choF ?_ ?_; omega) | with_reducible refine cho (fun _ => ?_) (fun _ => ?_))
      rename_i t11
      refine Or.inl ⟨_, _, subS (τ := [.row w TbE 36 (O.map tbF) 0, .var t11 TbE (tbC (parts.getD j default))]) _, (IndexT_ok w O t11 (parts.getD j default) (by omega)).mono ?_⟩
      rintro r τ ⟨⟨z, e1, hz⟩, e2⟩
      rw [e1, e2]
      simp only [onEnd]
      have hfi := List.findIdx_le_length (xs := O) (p := fun y => !aheadT y (parts.getD j default))
      refine joinI (β := Unit) (fun _ => True) (fun _ => [.own w O.length, ptrAt t11 0, I .i64 (O.findIdx (fun y => !aheadT y (parts.getD j default)) : Nat), .lst 36 (parts.map tbF) m'', I .i64 (parts.length : Nat), I .i64 (j : Nat)]) (fun _ => [.row w TbE 36 (O.map tbF) 0, .var t11 TbE (tbC (parts.getD j default))]) ?_ ?_
      · rcases hz with ⟨g1, rfl⟩ | ⟨g1, rfl⟩
        · repeat' (first | with_reducible apply Stp.go | with_reducible refine imp fun _ => ?_ | (with_reducible refine hyp ?_ ?_; first | assumption | exact leftT_mem (by assumption)) | (with_reducible refine need ?_ ?_; first | trivial | omega | exact ⟨by assumption, by omega⟩ | (simp only [List.length_append, List.length_cons, List.length_nil, List.length_map, List.length_take, List.length_drop, List.length_replicate, List.length_set]; omega)) | (with_reducible refine fact ?_ ?_; first | trivial | exact ⟨rfl, rfl⟩ | kernel_rfl) | with_reducible refine choT (by assumption) ?_ | with_reducible refine choF (by assumption) ?_ | with_reducible refine choF' (by assumption) ?_ | (with_reducible refine altT ?_ ?_; first | omega | (simp only [List.length_append, List.length_cons, List.length_nil, List.length_map, List.length_take, List.length_drop, List.length_replicate, List.length_set]; omega)) | with_reducible refine altF ?_ | with_reducible refine all fun _ => ?_ | with_reducible refine both ?_ ?_ | (with_reducible refine choT ?_ ?_; omega) | (with_reducible refine choF ?_ ?_; omega) | with_reducible refine cho (fun _ => ?_) (fun _ => ?_))
          exact meet () trivial (Sub.refl _ _)
        · rw [g1]
          repeat' (first | with_reducible apply Stp.go | with_reducible refine imp fun _ => ?_ | (with_reducible refine hyp ?_ ?_; first | assumption | exact leftT_mem (by assumption)) | (with_reducible refine need ?_ ?_; first | trivial | omega | exact ⟨by assumption, by omega⟩ | (simp only [List.length_append, List.length_cons, List.length_nil, List.length_map, List.length_take, List.length_drop, List.length_replicate, List.length_set]; omega)) | (with_reducible refine fact ?_ ?_; first | trivial | exact ⟨rfl, rfl⟩ | kernel_rfl) | with_reducible refine choT (by assumption) ?_ | with_reducible refine choF (by assumption) ?_ | with_reducible refine choF' (by assumption) ?_ | (with_reducible refine altT ?_ ?_; first | omega | (simp only [List.length_append, List.length_cons, List.length_nil, List.length_map, List.length_take, List.length_drop, List.length_replicate, List.length_set]; omega)) | with_reducible refine altF ?_ | with_reducible refine all fun _ => ?_ | with_reducible refine both ?_ ?_ | (with_reducible refine choT ?_ ?_; omega) | (with_reducible refine choF ?_ ?_; omega) | with_reducible refine cho (fun _ => ?_) (fun _ => ?_))
          exact meet () trivial (Sub.refl _ _)
      · rintro ⟨⟩ -
        repeat' (first | with_reducible apply Stp.go | with_reducible refine imp fun _ => ?_ | (with_reducible refine hyp ?_ ?_; first | assumption | exact leftT_mem (by assumption)) | (with_reducible refine need ?_ ?_; first | trivial | omega | exact ⟨by assumption, by omega⟩ | (simp only [List.length_append, List.length_cons, List.length_nil, List.length_map, List.length_take, List.length_drop, List.length_replicate, List.length_set]; omega)) | (with_reducible refine fact ?_ ?_; first | trivial | exact ⟨rfl, rfl⟩ | kernel_rfl) | with_reducible refine choT (by assumption) ?_ | with_reducible refine choF (by assumption) ?_ | with_reducible refine choF' (by assumption) ?_ | (with_reducible refine altT ?_ ?_; first | omega | (simp only [List.length_append, List.length_cons, List.length_nil, List.length_map, List.length_take, List.length_drop, List.length_replicate, List.length_set]; omega)) | with_reducible refine altF ?_ | with_reducible refine all fun _ => ?_ | with_reducible refine both ?_ ?_ | (with_reducible refine choT ?_ ?_; omega) | (with_reducible refine choF ?_ ?_; omega) | with_reducible refine cho (fun _ => ?_) (fun _ => ?_))
        rename_i w2
        exact again (j + 1, w2) (by dsimp only; omega) (by dsimp only; omega) (by dsimp only; rw [hs, insT_len]; exact Sub.drop_ (.cons_cons _ (.cons _ .slnil)) _)
    · have e : j = parts.length := by omega
      subst e
      rw [List.take_length] at hol ⊢
      repeat' (first | with_reducible apply Stp.go | with_reducible refine imp fun _ => ?_ | (with_reducible refine hyp ?_ ?_; first | assumption | exact leftT_mem (by assumption)) | (with_reducible refine need ?_ ?_; first | trivial | omega | exact ⟨by assumption, by omega⟩ | (simp only [List.length_append, List.length_cons, List.length_nil, List.length_map, List.length_take, List.length_drop, List.length_replicate, List.length_set]; omega)) | (with_reducible refine fact ?_ ?_; first | trivial | exact ⟨rfl, rfl⟩ | kernel_rfl) | with_reducible refine choT (by assumption) ?_ | with_reducible refine choF (by assumption) ?_ | with_reducible refine choF' (by assumption) ?_ | (with_reducible refine altT ?_ ?_; first | omega | (simp only [List.length_append, List.length_cons, List.length_nil, List.length_map, List.length_take, List.length_drop, List.length_replicate, List.length_set]; omega)) | with_reducible refine altF ?_ | with_reducible refine all fun _ => ?_ | with_reducible refine both ?_ ?_ | (with_reducible refine choT ?_ ?_; omega) | (with_reducible refine choF ?_ ?_; omega) | with_reducible refine cho (fun _ => ?_) (fun _ => ?_))
      exact ⟨_, _, _, rfl, retOwn (Sub.refl _ _), rfl, rfl⟩
instance {a c d : AV} {l : List TabR} {ins : List Int} {parts : List TabR} {m m' m'' : SM} [h1 : IsL a tbF 36 l m] [h2 : IsL c it 1 ins m'] [h3 : IsL d tbF 36 parts m''] : PC Go.Proofs.Try.prog 12 [a, c, d] (l.length ≤ 100000 ∧ ins.length ≤ 100000 ∧ parts.length ≤ 100000) (.lst 36 ((placeT l ins parts).map tbF) .ro) := ⟨fun hl => ⟨[.lst 36 (l.map tbF) m, .lst 1 (ins.map it) m', .lst 36 (parts.map tbF) m''], ⟨h1.sub, h2.sub, h3.sub, trivial⟩, Place_ok l ins parts m m' m'' hl.1 hl.2.1 hl.2.2⟩⟩
/-! What is placed is there; what is no input stays, in order. -/
theorem ins_sub (out : List TabR) (x : TabR) : out.Sublist (insT out x) := by
  unfold insT
  conv => lhs; rw [← List.take_append_drop (out.findIdx fun y => !aheadT y x) out]
  exact (List.Sublist.refl _).append (List.sublist_cons_self _ _)
theorem place_sub (parts : List TabR) : ∀ out : List TabR, out.Sublist (parts.foldl insT out) := by
  induction parts with
  | nil => intro out; exact List.Sublist.refl _
  | cons x l ih => intro out; exact (ins_sub out x).trans (ih _)
theorem place_mem (parts : List TabR) : ∀ (out : List TabR) (x : TabR), x ∈ parts → x ∈ parts.foldl insT out := by
  induction parts with
  | nil => intro out x h; cases h
  | cons y l ih =>
    intro out x h
    rcases List.mem_cons.1 h with rfl | h
    · refine (place_sub l _).subset ?_
      unfold insT
      exact List.mem_append.2 (.inr (List.mem_cons_self ..))
    · exact ih _ x h
theorem stayT_nil (l : List TabR) : stayT l [] l.length = l := by
  have : ∀ k, k ≤ l.length → stayT l [] k = l.take k := by
    intro k
    induction k with
    | zero => intro _; rfl
    | succ k ih =>
      intro h
      rw [stayT_succ, ih (by omega), if_neg (by simp), take_succ_d (by omega)]
  rw [this _ (Nat.le_refl _), List.take_length]
end Go.Ab

/- Layer 17: MovePlaces. -/
set_option linter.unusedVariables false
set_option linter.unusedSimpArgs false
namespace Go.Ab
def law17_MovePlaces.mark : Mark := ⟨fun t => Nat.beq t 19 || Nat.beq t 38 || Nat.beq t 119 || Nat.beq t 121, fun t => false, fun t => false, fun t => Nat.beq t 56, fun t => false⟩
def law17_MovePlaces.ann : Ann := ⟨fun n => bif Nat.beq n 8 then [0, 1, 2, 7, 8, 9, 10] else bif Nat.beq n 12 then [0, 1, 2, 7, 8, 9, 10, 11, 12] else bif Nat.beq n 19 then [0, 2, 7, 8, 9, 13, 14] else bif Nat.beq n 24 then [0, 2, 7, 8, 9, 13, 15] else bif Nat.beq n 28 then [0, 2, 7, 8, 9, 13, 15, 16, 17] else [], fun n => none, fun n => none⟩
/-- 'marlstone/marlstonelaw17.MovePlaces' -/
def law17_MovePlaces.sh (a0 a1 a2 : AV) (σ : Store) (Q : AEnd → Store → Prop) : Prop :=
  Do (aPureC Go.Proofs.Try.prog 7 []) fun t19 =>
  Do (aBuiltin Go.Proofs.Try.prog .len #[22] [a0]) fun t22 =>
  Do (aBuiltin Go.Proofs.Try.prog .min #[3, 3] [t22, (.val (.int .i64 20))]) fun t23 =>
  Do (aSlice .slice 36 a0 none (some t23) none) fun t24 =>
  Do (aBuiltin Go.Proofs.Try.prog .len #[34] [a1]) fun t27 =>
  Do (aBuiltin Go.Proofs.Try.prog .min #[3, 3] [t27, (.val (.int .i64 20))]) fun t28 =>
  Do (aSlice .slice 1 a1 none (some t28) none) fun t29 =>
  Do (aBuiltin Go.Proofs.Try.prog .len #[22] [a2]) fun t32 =>
  Do (aBuiltin Go.Proofs.Try.prog .min #[3, 3] [t32, (.val (.int .i64 10))]) fun t33 =>
  Do (aSlice .slice 36 a2 none (some t33) none) fun t34 =>
  Do (aPureC Go.Proofs.Try.prog 12 [t24, t29, t34]) fun t38 =>
  aLoop (fun go vs σ =>
    At vs 0 fun s0 => At vs 1 fun s1 => At vs 2 fun s2 => At vs 3 fun s7 => At vs 4 fun s8 => At vs 5 fun s9 => At vs 6 fun s10 => Do (aBuiltin Go.Proofs.Try.prog .len #[22] [s0]) fun t41 =>
    Do (aBin Go.Proofs.Try.prog .lss 3 s10 t41) fun t42 =>
    aCond t42
      (aLoop (fun go_1 vs_1 σ_1 =>
      At vs_1 0 fun s0_1 => At vs_1 1 fun s1_1 => At vs_1 2 fun s2_1 => At vs_1 3 fun s7_1 => At vs_1 4 fun s8_1 => At vs_1 5 fun s9_1 => At vs_1 6 fun s10_1 => At vs_1 7 fun s11 => At vs_1 8 fun s12 => Do (aBuiltin Go.Proofs.Try.prog .len #[34] [s1_1]) fun t47 =>
      Do (aBin Go.Proofs.Try.prog .lss 3 s12 t47) fun t48 =>
      aCond t48
        (Do (aGuard s11 false (aIs s1_1)) fun t53 =>
      Do (aGuard s11 false (aIs s12)) fun t54 =>
      Do (aGuard s11 false (aIndexAddr .slice 1 t53 t54)) fun t55 =>
      Do (aGuard s11 false (loadF false 1 t55)) fun t56 =>
      Do (aGuard s11 false (aIs s10_1)) fun t57 =>
      Do (aGuard s11 false (aBin Go.Proofs.Try.prog .eql 3 t56 t57)) fun t58 =>
      Do (aPick s11 (.val (.bool true)) t58) fun t59 =>
      Do (aBin Go.Proofs.Try.prog .add 3 s12 (.val (.int .i64 1))) fun t50 =>
      go_1 [s0_1, s1_1, s2_1, s7_1, s8_1, s9_1, s10_1, t59, t50] σ_1)
        (Do (aUn Go.Proofs.Try.prog .not s11) fun t61 =>
    aCond t61
      (Do (aIndexAddr .slice 36 s0_1 s10_1) fun t65 =>
      Do (loadA true 36 t65 σ_1) fun t66 =>
      Do (aSlLit (mkE [.val (.int .i64 0), .val (.int .i64 0), .val (.int .u8 0), .val (.int .u8 0), .val (.int .u8 0), .val (.int .u8 0), .val (.int .u8 0), .val (.int .u8 0), .val (.int .u8 0), .val (.int .u8 0), .val (.int .u8 0), .val (.int .u8 0), .val (.int .u8 0), .val (.int .u8 0), .val (.int .u8 0), .val (.int .u8 0), .val (.int .u8 0), .val (.int .u8 0), .val (.int .u8 0), .val (.int .u8 0), .val (.int .u8 0), .val (.int .u8 0), .val (.int .u8 0), .val (.int .u8 0), .val (.int .u8 0), .val (.int .u8 0), .val (.int .u8 0), .val (.int .u8 0), .val (.int .u8 0), .val (.int .u8 0), .val (.int .u8 0), .val (.int .u8 0), .val (.int .u8 0), .val (.int .u8 0), .val (.string ⟨#[]⟩), .val (.string ⟨#[]⟩)]) 36 1 [(0, t66)]) fun t67 =>
      aAppend 39 36 80 s9_1 t67 σ_1 (subK fun t68 σ_2 =>
      Do (aBin Go.Proofs.Try.prog .add 3 s10_1 (.val (.int .i64 1))) fun t44 =>
    go [s0_1, s1_1, s2_1, s7_1, s8_1, t68, t44] σ_2))
      (Do (aBin Go.Proofs.Try.prog .add 3 s10_1 (.val (.int .i64 1))) fun t44_1 =>
    go [s0_1, s1_1, s2_1, s7_1, s8_1, s9_1, t44_1] σ_1)))
      [s0, s1, s2, s7, s8, s9, s10, (.val (.bool false)), (.val (.int .i64 0))] σ)
      (aLoop (fun go_2 vs_2 σ_3 =>
    At vs_2 0 fun s0_2 => At vs_2 1 fun s2_2 => At vs_2 2 fun s7_2 => At vs_2 3 fun s8_2 => At vs_2 4 fun s9_2 => At vs_2 5 fun s13 => At vs_2 6 fun s14 => Do (aBuiltin Go.Proofs.Try.prog .len #[22] [s8_2]) fun t71 =>
    Do (aBin Go.Proofs.Try.prog .lss 3 s14 t71) fun t72 =>
    Do (aGuard t72 true (aIs s13)) fun t74 =>
    Do (aGuard t72 true (aIs s9_2)) fun t75 =>
    Do (aGuard t72 true (aBuiltin Go.Proofs.Try.prog .len #[22] [t75])) fun t76 =>
    Do (aGuard t72 true (aBin Go.Proofs.Try.prog .lss 3 t74 t76)) fun t77 =>
    Do (aPick t72 t77 (.val (.bool false))) fun t78 =>
    aCond t78
      (Do (aIndexAddr .slice 36 s8_2 s14) fun t83 =>
    Do (loadA true 36 t83 σ_3) fun t84 =>
    Do (aIndexAddr .slice 36 s9_2 s13) fun t87 =>
    Do (loadA true 36 t87 σ_3) fun t88 =>
    Do (aBin Go.Proofs.Try.prog .eql 39 t84 t88) fun t89 =>
    aCond t89
      (Do (aBin Go.Proofs.Try.prog .add 3 s13 (.val (.int .i64 1))) fun t91 =>
      Do (aBin Go.Proofs.Try.prog .add 3 s14 (.val (.int .i64 1))) fun t80 =>
    go_2 [s0_2, s2_2, s7_2, s8_2, s9_2, t91, t80] σ_3)
      (Do (aBin Go.Proofs.Try.prog .add 3 s14 (.val (.int .i64 1))) fun t80_1 =>
    go_2 [s0_2, s2_2, s7_2, s8_2, s9_2, s13, t80_1] σ_3))
      (aLoop (fun go_3 vs_3 σ_4 =>
    At vs_3 0 fun s0_3 => At vs_3 1 fun s2_3 => At vs_3 2 fun s7_3 => At vs_3 3 fun s8_3 => At vs_3 4 fun s9_3 => At vs_3 5 fun s13_1 => At vs_3 6 fun s15 => Do (aBuiltin Go.Proofs.Try.prog .len #[22] [s2_3]) fun t94 =>
    Do (aBin Go.Proofs.Try.prog .lss 3 s15 t94) fun t95 =>
    aCond t95
      (aLoop (fun go_4 vs_4 σ_5 =>
      At vs_4 0 fun s0_4 => At vs_4 1 fun s2_4 => At vs_4 2 fun s7_4 => At vs_4 3 fun s8_4 => At vs_4 4 fun s9_4 => At vs_4 5 fun s13_2 => At vs_4 6 fun s15_1 => At vs_4 7 fun s16 => At vs_4 8 fun s17 => Do (aBuiltin Go.Proofs.Try.prog .len #[22] [s8_4]) fun t100 =>
      Do (aBin Go.Proofs.Try.prog .lss 3 s17 t100) fun t101 =>
      aCond t101
        (Do (aGuard s16 false (aIs s8_4)) fun t106 =>
      Do (aGuard s16 false (aIs s17)) fun t107 =>
      Do (aGuard s16 false (aIndexAddr .slice 36 t106 t107)) fun t108 =>
      Do (aGuard s16 false (loadA true 36 t108 σ_5)) fun t109 =>
      Do (aGuard s16 false (aIs s2_4)) fun t110 =>
      Do (aGuard s16 false (aIs s15_1)) fun t111 =>
      Do (aGuard s16 false (aIndexAddr .slice 36 t110 t111)) fun t112 =>
      Do (aGuard s16 false (loadA true 36 t112 σ_5)) fun t113 =>
      Do (aGuard s16 false (aBin Go.Proofs.Try.prog .eql 39 t109 t113)) fun t114 =>
      Do (aPick s16 (.val (.bool true)) t114) fun t115 =>
      Do (aBin Go.Proofs.Try.prog .add 3 s17 (.val (.int .i64 1))) fun t103 =>
      go_4 [s0_4, s2_4, s7_4, s8_4, s9_4, s13_2, s15_1, t115, t103] σ_5)
        (Do (aUn Go.Proofs.Try.prog .not s16) fun t117 =>
    aCond t117
      (Q (.ret (.val (.bool false))) σ_5)
      (Do (aBin Go.Proofs.Try.prog .add 3 s15_1 (.val (.int .i64 1))) fun t97 =>
    go_3 [s0_4, s2_4, s7_4, s8_4, s9_4, s13_2, t97] σ_5)))
      [s0_3, s2_3, s7_3, s8_3, s9_3, s13_1, s15, (.val (.bool false)), (.val (.int .i64 0))] σ_4)
      (Do (aPureC Go.Proofs.Try.prog 12 [s0_3, (.val (.slice none 0 0)), (.val (.slice none 0 0))]) fun t119 =>
  Do (aPureC Go.Proofs.Try.prog 11 [t119, s0_3]) fun t121 =>
  Do (aGuard s7_3 true (aIs s8_3)) fun t124 =>
  Do (aGuard s7_3 true (aBuiltin Go.Proofs.Try.prog .len #[22] [t124])) fun t125 =>
  Do (aGuard s7_3 true (aIs s9_3)) fun t126 =>
  Do (aGuard s7_3 true (aBuiltin Go.Proofs.Try.prog .len #[22] [t126])) fun t127 =>
  Do (aGuard s7_3 true (aIs s2_3)) fun t128 =>
  Do (aGuard s7_3 true (aBuiltin Go.Proofs.Try.prog .len #[22] [t128])) fun t129 =>
  Do (aGuard s7_3 true (aBin Go.Proofs.Try.prog .add 3 t127 t129)) fun t130 =>
  Do (aGuard s7_3 true (aBin Go.Proofs.Try.prog .eql 3 t125 t130)) fun t131 =>
  Do (aPick s7_3 t131 (.val (.bool false))) fun t132 =>
  Do (aGuard t132 true (aIs s13_1)) fun t134 =>
  Do (aGuard t132 true (aIs s9_3)) fun t135 =>
  Do (aGuard t132 true (aBuiltin Go.Proofs.Try.prog .len #[22] [t135])) fun t136 =>
  Do (aGuard t132 true (aBin Go.Proofs.Try.prog .eql 3 t134 t136)) fun t137 =>
  Do (aPick t132 t137 (.val (.bool false))) fun t138 =>
  Do (aGuard t138 true (aIs t121)) fun t140 =>
  Do (aPick t138 t140 (.val (.bool false))) fun t141 =>
  Q (.ret t141) σ_4))
    [s0_2, s2_2, s7_2, s8_2, s9_2, s13, (.val (.int .i64 0))] σ_3))
    [s0, s2, s7, s8, s9, (.val (.int .i64 0)), (.val (.int .i64 0))] σ))
    [t24, t29, t34, t19, t38, (.val (.slice none 0 0)), (.val (.int .i64 0))] σ
theorem law17_MovePlaces.eq (a0 a1 a2 : AV) (σ : Store) (Q : AEnd → Store → Prop) : vc (semOf Go.Proofs.Try.prog law17_MovePlaces.mark) Go.Proofs.Try.f4.ntmps law17_MovePlaces.ann (bodyOf Go.Proofs.Try.f4) (endK [.tmp 6] Q) (argFr [a0, a1, a2]) σ = law17_MovePlaces.sh a0 a1 a2 σ Q := by kernel_rfl
theorem law17_MovePlaces.go {a0 a1 a2 : AV} {σ : Store} {Q : AEnd → Store → Prop} (h : law17_MovePlaces.sh a0 a1 a2 σ Q) : ACalls Go.Proofs.Try.prog 4 [a0, a1, a2] σ Q :=
  acalls_of_eq [.tmp 6] Go.Proofs.Try.func4 (by kernel_rfl) (by kernel_rfl) (by kernel_rfl) (by kernel_rfl) (law17_MovePlaces.eq a0 a1 a2 σ Q) h
theorem MovePlaces_at (l : List TabR) (m : SM) (ins : List Int) (m' : SM) (parts : List TabR) (m'' : SM) (hl : l.length ≤ 9223372036854775807) (hi : ins.length ≤ 9223372036854775807) (hp : parts.length ≤ 9223372036854775807) : aPure Go.Proofs.Try.prog 4 [.lst 36 (l.map tbF) m, .lst 1 (ins.map it) m', .lst 36 (parts.map tbF) m''] (B true) := by
  refine ACalls.fin (law17_MovePlaces.go ?_)
  unfold law17_MovePlaces.sh
  have a1 : (l.take (min l.length 20)).length ≤ 20 := by rw [List.length_take]; omega
  have a2 : (ins.take (min ins.length 20)).length ≤ 20 := by rw [List.length_take]; omega
  have a3 : (parts.take (min parts.length 10)).length ≤ 10 := by rw [List.length_take]; omega
  have ht : (true : Bool) = true := rfl
  repeat' (first | with_reducible apply Stp.go | with_reducible refine imp fun _ => ?_ | (with_reducible refine hyp ?_ ?_; first | assumption | exact leftT_mem (by assumption)) | (with_reducible refine need ?_ ?_; first | trivial | omega | exact ⟨by assumption, by omega⟩ | (simp only [List.length_append, List.length_cons, List.length_nil, List.length_map, List.length_take, List.length_drop, List.length_replicate, List.length_set]; omega)) | (with_reducible refine fact ?_ ?_; first | trivial | exact ⟨rfl, rfl⟩ | kernel_rfl) | with_reducible refine choT (by assumption) ?_ | with_reducible refine choF (by assumption) ?_ | with_reducible refine choF' (by assumption) ?_ | (with_reducible refine altT ?_ ?_; first | omega | (simp only [List.length_append, List.length_cons, List.length_nil, List.length_map, List.length_take, List.length_drop, List.length_replicate, List.length_set]; omega)) | with_reducible refine altF ?_ | with_reducible refine all fun _ => ?_ | with_reducible refine both ?_ ?_ | (with_reducible refine choT ?_ ?_; omega) | (with_reducible refine choF ?_ ?_; omega) | with_reducible refine cho (fun _ => ?_) (fun _ => ?_))
  generalize l.take (min l.length 20) = L at *
  generalize ins.take (min ins.length 20) = J at *
  generalize parts.take (min parts.length 10) = Q at *
  obtain ⟨X, hX⟩ : ∃ X, X = placeT L J Q := ⟨_, rfl⟩
  have hxl : X.length = (stayT L J L.length).length + Q.length := by rw [hX, placeT, foldl_ins_len]
  have hsub : (stayT L J L.length).Sublist X := by rw [hX]; exact place_sub _ _
  have hmem : ∀ x ∈ Q, x ∈ X := fun x h => by rw [hX]; exact place_mem _ _ x h
  have hsl := stayT_len L J L.length
  rw [← hX]
  refine loopI (β := Nat × Value) (fun x => x.1 ≤ L.length) (fun x => [.lst 36 (L.map tbF) .ro, .lst 1 (J.map it) .ro, .lst 36 (Q.map tbF) .ro, B true, .lst 36 (X.map tbF) .ro, .own x.2 (stayT L J x.1).length, I .i64 (x.1 : Nat)]) (fun x => [.row x.2 TbE 36 ((stayT L J x.1).map tbF) 0]) (fun x => L.length - x.1) (0, .slice none 0 0) (Nat.zero_le _) (Sub.nil_own TbE (sz := 36) (by decide) _ [_, _, _, _, _] [_]) ?_
  rintro ⟨i, v⟩ h1
  dsimp only at h1 ⊢
  have hsi := stayT_len L J i
  by_cases hlt : i < L.length
  · have hs := stayT_succ L J i
    repeat' (first | with_reducible apply Stp.go | with_reducible refine imp fun _ => ?_ | (with_reducible refine hyp ?_ ?_; first | assumption | exact leftT_mem (by assumption)) | (with_reducible refine need ?_ ?_; first | trivial | omega | exact ⟨by assumption, by omega⟩ | (simp only [List.length_append, List.length_cons, List.length_nil, List.length_map, List.length_take, List.length_drop, List.length_replicate, List.length_set]; omega)) | (with_reducible refine fact ?_ ?_; first | trivial | exact ⟨rfl, rfl⟩ | kernel_rfl) | with_reducible refine choT (by assumption) ?_ | with_reducible refine choF (by assumption) ?_ | with_reducible refine choF' (by assumption) ?_ | (with_reducible refine altT ?_ ?_; first | omega | (simp only [List.length_append, List.length_cons, List.length_nil, List.length_map, List.length_take, List.length_drop, List.length_replicate, List.length_set]; omega)) | with_reducible refine altF ?_ | with_reducible refine all fun _ => ?_ | with_reducible refine both ?_ ?_ | (with_reducible refine choT ?_ ?_; omega) | (with_reducible refine choF ?_ ?_; omega) | with_reducible refine cho (fun _ => ?_) (fun _ => ?_))
    refine loopI (β := Nat) (fun k => k ≤ J.length) (fun k => [.lst 36 (L.map tbF) .ro, .lst 1 (J.map it) .ro, .lst 36 (Q.map tbF) .ro, B true, .lst 36 (X.map tbF) .ro, .own v (stayT L J i).length, I .i64 (i : Nat), B (decide ((i : Int) ∈ J.take k)), I .i64 (k : Nat)]) (fun _ => [.row v TbE 36 ((stayT L J i).map tbF) 0]) (fun k => J.length - k) 0 (Nat.zero_le _) (Sub.refl _ _) ?_
    intro k hk
    by_cases hkl : k < J.length
    · have hst : (i : Int) ∈ J.take (k + 1) ↔ ((i : Int) ∈ J.take k ∨ J.getD k default = i) := by
        rw [take_succ_d hkl, List.mem_append, List.mem_singleton]
        exact or_congr Iff.rfl eq_comm
      by_cases hg : (i : Int) ∈ J.take k
      · rw [decide_eq_true hg]
        repeat' (first | with_reducible apply Stp.go | with_reducible refine imp fun _ => ?_ | (with_reducible refine hyp ?_ ?_; first | assumption | exact leftT_mem (by assumption)) | (with_reducible refine need ?_ ?_; first | trivial | omega | exact ⟨by assumption, by omega⟩ | (simp only [List.length_append, List.length_cons, List.length_nil, List.length_map, List.length_take, List.length_drop, List.length_replicate, List.length_set]; omega)) | (with_reducible refine fact ?_ ?_; first | trivial | exact ⟨rfl, rfl⟩ | kernel_rfl) | with_reducible refine choT (by assumption) ?_ | with_reducible refine choF (by assumption) ?_ | with_reducible refine choF' (by assumption) ?_ | (with_reducible refine altT ?_ ?_; first | omega | (simp only [List.length_append, List.length_cons, List.length_nil, List.length_map, List.length_take, List.length_drop, List.length_replicate, List.length_set]; omega)) | with_reducible refine altF ?_ | with_reducible refine all fun _ => ?_ | with_reducible refine both ?_ ?_ | (with_reducible refine choT ?_ ?_; omega) | (with_reducible refine choF ?_ ?_; omega) | with_reducible refine cho (fun _ => ?_) (fun _ => ?_))
        exact again (k + 1) (by omega) (by omega) (by rw [decide_eq_true (hst.2 (.inl hg))]; exact Sub.refl _ _)
      · rw [decide_eq_false hg]
        have hff : ¬ (false : Bool) = true := by decide
        have he : decide ((i : Int) ∈ J.take (k + 1)) = decide (J.getD k default = (i : Int)) := by
          rw [Bool.eq_iff_iff, decide_eq_true_eq, decide_eq_true_eq, hst]
          exact ⟨fun h => h.resolve_left hg, .inr⟩
        repeat' (first | with_reducible apply Stp.go | with_reducible refine imp fun _ => ?_ | (with_reducible refine hyp ?_ ?_; first | assumption | exact leftT_mem (by assumption)) | (with_reducible refine need ?_ ?_; first | trivial | omega | exact ⟨by assumption, by omega⟩ | (simp only [List.length_append, List.length_cons, List.length_nil, List.length_map, List.length_take, List.length_drop, List.length_replicate, List.length_set]; omega)) | (with_reducible refine fact ?_ ?_; first | trivial | exact ⟨rfl, rfl⟩ | kernel_rfl) | with_reducible refine choT (by assumption) ?_ | with_reducible refine choF (by assumption) ?_ | with_reducible refine choF' (by assumption) ?_ | (with_reducible refine altT ?_ ?_; first | omega | (simp only [List.length_append, List.length_cons, List.length_nil, List.length_map, List.length_take, List.length_drop, List.length_replicate, List.length_set]; omega)) | with_reducible refine altF ?_ | with_reducible refine all fun _ => ?_ | with_reducible refine both ?_ ?_ | (with_reducible refine choT ?_ ?_; omega) | (with_reducible refine choF ?_ ?_; omega) | with_reducible refine cho (fun _ => ?_) (fun _ => ?_))
        exact again (k + 1) (by omega) (by omega) (by rw [he]; exact Sub.refl _ _)
    · have ek : k = J.length := by omega
      subst ek
      rw [List.take_length]
      by_cases hc : (i : Int) ∈ J
      · rw [decide_eq_true hc]
        rw [if_pos hc, List.append_nil] at hs
        repeat' (first | with_reducible apply Stp.go | with_reducible refine imp fun _ => ?_ | (with_reducible refine hyp ?_ ?_; first | assumption | exact leftT_mem (by assumption)) | (with_reducible refine need ?_ ?_; first | trivial | omega | exact ⟨by assumption, by omega⟩ | (simp only [List.length_append, List.length_cons, List.length_nil, List.length_map, List.length_take, List.length_drop, List.length_replicate, List.length_set]; omega)) | (with_reducible refine fact ?_ ?_; first | trivial | exact ⟨rfl, rfl⟩ | kernel_rfl) | with_reducible refine choT (by assumption) ?_ | with_reducible refine choF (by assumption) ?_ | with_reducible refine choF' (by assumption) ?_ | (with_reducible refine altT ?_ ?_; first | omega | (simp only [List.length_append, List.length_cons, List.length_nil, List.length_map, List.length_take, List.length_drop, List.length_replicate, List.length_set]; omega)) | with_reducible refine altF ?_ | with_reducible refine all fun _ => ?_ | with_reducible refine both ?_ ?_ | (with_reducible refine choT ?_ ?_; omega) | (with_reducible refine choF ?_ ?_; omega) | with_reducible refine cho (fun _ => ?_) (fun _ => ?_))
        exact again (i + 1, v) (by dsimp only; omega) (by dsimp only; omega) (by dsimp only; rw [hs]; exact Sub.refl _ _)
      · rw [decide_eq_false hc]
        rw [if_neg hc] at hs
        have hff : ¬ (false : Bool) = true := by decide
        repeat' (first | with_reducible apply Stp.go | with_reducible refine imp fun _ => ?_ | (with_reducible refine hyp ?_ ?_; first | assumption | exact leftT_mem (by assumption)) | (with_reducible refine need ?_ ?_; first | trivial | omega | exact ⟨by assumption, by omega⟩ | (simp only [List.length_append, List.length_cons, List.length_nil, List.length_map, List.length_take, List.length_drop, List.length_replicate, List.length_set]; omega)) | (with_reducible refine fact ?_ ?_; first | trivial | exact ⟨rfl, rfl⟩ | kernel_rfl) | with_reducible refine choT (by assumption) ?_ | with_reducible refine choF (by assumption) ?_ | with_reducible refine choF' (by assumption) ?_ | (with_reducible refine altT ?_ ?_; first | omega | (simp only [List.length_append, List.length_cons, List.length_nil, List.length_map, List.length_take, List.length_drop, List.length_replicate, List.length_set]; omega)) | with_reducible refine altF ?_ | with_reducible refine all fun _ => ?_ | with_reducible refine both ?_ ?_ | (with_reducible refine choT ?_ ?_; omega) | (with_reducible refine choF ?_ ?_; omega) | with_reducible refine cho (fun _ => ?_) (fun _ => ?_))
        rename_i w
        exact again (i + 1, w) (by dsimp only; omega) (by dsimp only; omega) (by dsimp only; rw [hs]; exact Sub.refl _ _)
  · have e : i = L.length := by omega
    subst e
    generalize stayT L J L.length = S at *
    repeat' (first | with_reducible apply Stp.go | with_reducible refine imp fun _ => ?_ | (with_reducible refine hyp ?_ ?_; first | assumption | exact leftT_mem (by assumption)) | (with_reducible refine need ?_ ?_; first | trivial | omega | exact ⟨by assumption, by omega⟩ | (simp only [List.length_append, List.length_cons, List.length_nil, List.length_map, List.length_take, List.length_drop, List.length_replicate, List.length_set]; omega)) | (with_reducible refine fact ?_ ?_; first | trivial | exact ⟨rfl, rfl⟩ | kernel_rfl) | with_reducible refine choT (by assumption) ?_ | with_reducible refine choF (by assumption) ?_ | with_reducible refine choF' (by assumption) ?_ | (with_reducible refine altT ?_ ?_; first | omega | (simp only [List.length_append, List.length_cons, List.length_nil, List.length_map, List.length_take, List.length_drop, List.length_replicate, List.length_set]; omega)) | with_reducible refine altF ?_ | with_reducible refine all fun _ => ?_ | with_reducible refine both ?_ ?_ | (with_reducible refine choT ?_ ?_; omega) | (with_reducible refine choF ?_ ?_; omega) | with_reducible refine cho (fun _ => ?_) (fun _ => ?_))
    refine loopI (β := Nat × Nat) (fun x => x.2 ≤ X.length ∧ x.1 ≤ S.length ∧ (S.drop x.1).Sublist (X.drop x.2)) (fun x => [.lst 36 (L.map tbF) .ro, .lst 36 (Q.map tbF) .ro, B true, .lst 36 (X.map tbF) .ro, .own v S.length, I .i64 (x.1 : Nat), I .i64 (x.2 : Nat)]) (fun _ => [.row v TbE 36 (S.map tbF) 0]) (fun x => X.length - x.2) (0, 0) ⟨Nat.zero_le _, Nat.zero_le _, by simpa using hsub⟩ (Sub.refl _ _) ?_
    rintro ⟨at_, i⟩ ⟨h2, h3, h4⟩
    dsimp only at h2 h3 h4 ⊢
    by_cases hc : i < X.length ∧ at_ < S.length
    · obtain ⟨hi2, ha⟩ := hc
      have hdx : X.drop i = X.getD i default :: X.drop (i + 1) := by
        rw [List.drop_eq_getElem_cons hi2, List.getD_eq_getElem?_getD, List.getElem?_eq_getElem hi2]; rfl
      have hds : S.drop at_ = S.getD at_ default :: S.drop (at_ + 1) := by
        rw [List.drop_eq_getElem_cons ha, List.getD_eq_getElem?_getD, List.getElem?_eq_getElem ha]; rfl
      by_cases he : X.getD i default = S.getD at_ default
      · have he2 : (⟨(X.getD i default).lev, (X.getD i default).cnt, ⟨(X.getD i default).root.val, Len32.len⟩, (X.getD i default).fst, (X.getD i default).lst⟩ : TabR) = ⟨(S.getD at_ default).lev, (S.getD at_ default).cnt, ⟨(S.getD at_ default).root.val, Len32.len⟩, (S.getD at_ default).fst, (S.getD at_ default).lst⟩ := he
        have h5 : (S.drop (at_ + 1)).Sublist (X.drop (i + 1)) := by
          rw [hdx, hds, he] at h4
          exact List.cons_sublist_cons.1 h4
        repeat' (first | with_reducible apply Stp.go | with_reducible refine imp fun _ => ?_ | (with_reducible refine hyp ?_ ?_; first | assumption | exact leftT_mem (by assumption)) | (with_reducible refine need ?_ ?_; first | trivial | omega | exact ⟨by assumption, by omega⟩ | (simp only [List.length_append, List.length_cons, List.length_nil, List.length_map, List.length_take, List.length_drop, List.length_replicate, List.length_set]; omega)) | (with_reducible refine fact ?_ ?_; first | trivial | exact ⟨rfl, rfl⟩ | kernel_rfl) | with_reducible refine choT (by assumption) ?_ | with_reducible refine choF (by assumption) ?_ | with_reducible refine choF' (by assumption) ?_ | (with_reducible refine altT ?_ ?_; first | omega | (simp only [List.length_append, List.length_cons, List.length_nil, List.length_map, List.length_take, List.length_drop, List.length_replicate, List.length_set]; omega)) | with_reducible refine altF ?_ | with_reducible refine all fun _ => ?_ | with_reducible refine both ?_ ?_ | (with_reducible refine choT ?_ ?_; omega) | (with_reducible refine choF ?_ ?_; omega) | with_reducible refine cho (fun _ => ?_) (fun _ => ?_))
        exact again (at_ + 1, i + 1) (by dsimp only; omega) ⟨by dsimp only; omega, by dsimp only; omega, h5⟩ (Sub.refl _ _)
      · have he2 : ¬ (⟨(X.getD i default).lev, (X.getD i default).cnt, ⟨(X.getD i default).root.val, Len32.len⟩, (X.getD i default).fst, (X.getD i default).lst⟩ : TabR) = ⟨(S.getD at_ default).lev, (S.getD at_ default).cnt, ⟨(S.getD at_ default).root.val, Len32.len⟩, (S.getD at_ default).fst, (S.getD at_ default).lst⟩ := he
        have h5 : (S.drop at_).Sublist (X.drop (i + 1)) := by
          rw [hdx, hds] at h4
          rw [hds]
          rcases List.sublist_cons_iff.1 h4 with h | ⟨r, e, _⟩
          · exact h
          · injection e with e1 _
            exact absurd e1.symm he
        repeat' (first | with_reducible apply Stp.go | with_reducible refine imp fun _ => ?_ | (with_reducible refine hyp ?_ ?_; first | assumption | exact leftT_mem (by assumption)) | (with_reducible refine need ?_ ?_; first | trivial | omega | exact ⟨by assumption, by omega⟩ | (simp only [List.length_append, List.length_cons, List.length_nil, List.length_map, List.length_take, List.length_drop, List.length_replicate, List.length_set]; omega)) | (with_reducible refine fact ?_ ?_; first | trivial | exact ⟨rfl, rfl⟩ | kernel_rfl) | with_reducible refine choT (by assumption) ?_ | with_reducible refine choF (by assumption) ?_ | with_reducible refine choF' (by assumption) ?_ | (with_reducible refine altT ?_ ?_; first | omega | (simp only [List.length_append, List.length_cons, List.length_nil, List.length_map, List.length_take, List.length_drop, List.length_replicate, List.length_set]; omega)) | with_reducible refine altF ?_ | with_reducible refine all fun _ => ?_ | with_reducible refine both ?_ ?_ | (with_reducible refine choT ?_ ?_; omega) | (with_reducible refine choF ?_ ?_; omega) | with_reducible refine cho (fun _ => ?_) (fun _ => ?_))
        exact again (at_, i + 1) (by dsimp only; omega) ⟨by dsimp only; omega, h3, h5⟩ (Sub.refl _ _)
    · have hfin : at_ = S.length := by
        by_cases hi2 : i < X.length
        · omega
        · rw [List.drop_of_length_le (show X.length ≤ i by omega)] at h4
          have := congrArg List.length (List.sublist_nil.1 h4)
          rw [List.length_drop] at this
          simp at this
          omega
      subst hfin
      by_cases hi2 : i < X.length
      · repeat' (first | with_reducible apply Stp.go | with_reducible refine imp fun _ => ?_ | (with_reducible refine hyp ?_ ?_; first | assumption | exact leftT_mem (by assumption)) | (with_reducible refine need ?_ ?_; first | trivial | omega | exact ⟨by assumption, by omega⟩ | (simp only [List.length_append, List.length_cons, List.length_nil, List.length_map, List.length_take, List.length_drop, List.length_replicate, List.length_set]; omega)) | (with_reducible refine fact ?_ ?_; first | trivial | exact ⟨rfl, rfl⟩ | kernel_rfl) | with_reducible refine choT (by assumption) ?_ | with_reducible refine choF (by assumption) ?_ | with_reducible refine choF' (by assumption) ?_ | (with_reducible refine altT ?_ ?_; first | omega | (simp only [List.length_append, List.length_cons, List.length_nil, List.length_map, List.length_take, List.length_drop, List.length_replicate, List.length_set]; omega)) | with_reducible refine altF ?_ | with_reducible refine all fun _ => ?_ | with_reducible refine both ?_ ?_ | (with_reducible refine choT ?_ ?_; omega) | (with_reducible refine choF ?_ ?_; omega) | with_reducible refine cho (fun _ => ?_) (fun _ => ?_))
        refine loopI (β := Nat) (fun j => j ≤ Q.length) (fun j => [.lst 36 (L.map tbF) .ro, .lst 36 (Q.map tbF) .ro, B true, .lst 36 (X.map tbF) .ro, .own v S.length, I .i64 (S.length : Nat), I .i64 (j : Nat)]) (fun _ => [.row v TbE 36 (S.map tbF) 0]) (fun j => Q.length - j) 0 (Nat.zero_le _) (Sub.refl _ _) ?_
        intro j hj
        by_cases hjq : j < Q.length
        · repeat' (first | with_reducible apply Stp.go | with_reducible refine imp fun _ => ?_ | (with_reducible refine hyp ?_ ?_; first | assumption | exact leftT_mem (by assumption)) | (with_reducible refine need ?_ ?_; first | trivial | omega | exact ⟨by assumption, by omega⟩ | (simp only [List.length_append, List.length_cons, List.length_nil, List.length_map, List.length_take, List.length_drop, List.length_replicate, List.length_set]; omega)) | (with_reducible refine fact ?_ ?_; first | trivial | exact ⟨rfl, rfl⟩ | kernel_rfl) | with_reducible refine choT (by assumption) ?_ | with_reducible refine choF (by assumption) ?_ | with_reducible refine choF' (by assumption) ?_ | (with_reducible refine altT ?_ ?_; first | omega | (simp only [List.length_append, List.length_cons, List.length_nil, List.length_map, List.length_take, List.length_drop, List.length_replicate, List.length_set]; omega)) | with_reducible refine altF ?_ | with_reducible refine all fun _ => ?_ | with_reducible refine both ?_ ?_ | (with_reducible refine choT ?_ ?_; omega) | (with_reducible refine choF ?_ ?_; omega) | with_reducible refine cho (fun _ => ?_) (fun _ => ?_))
          refine loopI (β := Nat) (fun k => k ≤ X.length) (fun k => [.lst 36 (L.map tbF) .ro, .lst 36 (Q.map tbF) .ro, B true, .lst 36 (X.map tbF) .ro, .own v S.length, I .i64 (S.length : Nat), I .i64 (j : Nat), B (decide (Q.getD j default ∈ X.take k)), I .i64 (k : Nat)]) (fun _ => [.row v TbE 36 (S.map tbF) 0]) (fun k => X.length - k) 0 (Nat.zero_le _) (Sub.refl _ _) ?_
          intro k hk
          by_cases hkx : k < X.length
          · have hst : Q.getD j default ∈ X.take (k + 1) ↔ (Q.getD j default ∈ X.take k ∨ X.getD k default = Q.getD j default) := by
              rw [take_succ_d hkx, List.mem_append, List.mem_singleton]
              exact or_congr Iff.rfl eq_comm
            by_cases hg : Q.getD j default ∈ X.take k
            · rw [decide_eq_true hg]
              repeat' (first | with_reducible apply Stp.go | with_reducible refine imp fun _ => ?_ | (with_reducible refine hyp ?_ ?_; first | assumption | exact leftT_mem (by assumption)) | (with_reducible refine need ?_ ?_; first | trivial | omega | exact ⟨by assumption, by omega⟩ | (simp only [List.length_append, List.length_cons, List.length_nil, List.length_map, List.length_take, List.length_drop, List.length_replicate, List.length_set]; omega)) | (with_reducible refine fact ?_ ?_; first | trivial | exact ⟨rfl, rfl⟩ | kernel_rfl) | with_reducible refine choT (by assumption) ?_ | with_reducible refine choF (by assumption) ?_ | with_reducible refine choF' (by assumption) ?_ | (with_reducible refine altT ?_ ?_; first | omega | (simp only [List.length_append, List.length_cons, List.length_nil, List.length_map, List.length_take, List.length_drop, List.length_replicate, List.length_set]; omega)) | with_reducible refine altF ?_ | with_reducible refine all fun _ => ?_ | with_reducible refine both ?_ ?_ | (with_reducible refine choT ?_ ?_; omega) | (with_reducible refine choF ?_ ?_; omega) | with_reducible refine cho (fun _ => ?_) (fun _ => ?_))
              exact again (k + 1) (by omega) (by omega) (by rw [decide_eq_true (hst.2 (.inl hg))]; exact Sub.refl _ _)
            · rw [decide_eq_false hg]
              have hff : ¬ (false : Bool) = true := by decide
              have he : decide (Q.getD j default ∈ X.take (k + 1)) = decide (X.getD k default = Q.getD j default) := by
                rw [Bool.eq_iff_iff, decide_eq_true_eq, decide_eq_true_eq, hst]
                exact ⟨fun h => h.resolve_left hg, .inr⟩
              repeat' (first | with_reducible apply Stp.go | with_reducible refine imp fun _ => ?_ | (with_reducible refine hyp ?_ ?_; first | assumption | exact leftT_mem (by assumption)) | (with_reducible refine need ?_ ?_; first | trivial | omega | exact ⟨by assumption, by omega⟩ | (simp only [List.length_append, List.length_cons, List.length_nil, List.length_map, List.length_take, List.length_drop, List.length_replicate, List.length_set]; omega)) | (with_reducible refine fact ?_ ?_; first | trivial | exact ⟨rfl, rfl⟩ | kernel_rfl) | with_reducible refine choT (by assumption) ?_ | with_reducible refine choF (by assumption) ?_ | with_reducible refine choF' (by assumption) ?_ | (with_reducible refine altT ?_ ?_; first | omega | (simp only [List.length_append, List.length_cons, List.length_nil, List.length_map, List.length_take, List.length_drop, List.length_replicate, List.length_set]; omega)) | with_reducible refine altF ?_ | with_reducible refine all fun _ => ?_ | with_reducible refine both ?_ ?_ | (with_reducible refine choT ?_ ?_; omega) | (with_reducible refine choF ?_ ?_; omega) | with_reducible refine cho (fun _ => ?_) (fun _ => ?_))
              exact again (k + 1) (by omega) (by omega) (by rw [he]; exact Sub.refl _ _)
          · have ek : k = X.length := by omega
            subst ek
            rw [List.take_length, decide_eq_true (hmem _ (getD_memT hjq))]
            repeat' (first | with_reducible apply Stp.go | with_reducible refine imp fun _ => ?_ | (with_reducible refine hyp ?_ ?_; first | assumption | exact leftT_mem (by assumption)) | (with_reducible refine need ?_ ?_; first | trivial | omega | exact ⟨by assumption, by omega⟩ | (simp only [List.length_append, List.length_cons, List.length_nil, List.length_map, List.length_take, List.length_drop, List.length_replicate, List.length_set]; omega)) | (with_reducible refine fact ?_ ?_; first | trivial | exact ⟨rfl, rfl⟩ | kernel_rfl) | with_reducible refine choT (by assumption) ?_ | with_reducible refine choF (by assumption) ?_ | with_reducible refine choF' (by assumption) ?_ | (with_reducible refine altT ?_ ?_; first | omega | (simp only [List.length_append, List.length_cons, List.length_nil, List.length_map, List.length_take, List.length_drop, List.length_replicate, List.length_set]; omega)) | with_reducible refine altF ?_ | with_reducible refine all fun _ => ?_ | with_reducible refine both ?_ ?_ | (with_reducible refine choT ?_ ?_; omega) | (with_reducible refine choF ?_ ?_; omega) | with_reducible refine cho (fun _ => ?_) (fun _ => ?_))
            exact again (j + 1) (by omega) (by omega) (Sub.refl _ _)
        · have ej : j = Q.length := by omega
          subst ej
          have hpl : placeT L [] [] = L := stayT_nil L
          have hq0 : L = L := rfl
          have iP : PC Go.Proofs.Try.prog 12 [.lst 36 (L.map tbF) .ro, .val (.slice none 0 0), .val (.slice none 0 0)] True (.lst 36 (L.map tbF) .ro) := ⟨fun _ => by
            have := (inferInstance : PC Go.Proofs.Try.prog 12 [.lst 36 (L.map tbF) .ro, .val (.slice none 0 0), .val (.slice none 0 0)] _ _).ct ⟨by omega, Nat.zero_le _, Nat.zero_le _⟩
            rw [hpl] at this
            exact this⟩
          repeat' (first | with_reducible apply Stp.go | with_reducible refine imp fun _ => ?_ | (with_reducible refine hyp ?_ ?_; first | assumption | exact leftT_mem (by assumption)) | (with_reducible refine need ?_ ?_; first | trivial | omega | exact ⟨by assumption, by omega⟩ | (simp only [List.length_append, List.length_cons, List.length_nil, List.length_map, List.length_take, List.length_drop, List.length_replicate, List.length_set]; omega)) | (with_reducible refine fact ?_ ?_; first | trivial | exact ⟨rfl, rfl⟩ | kernel_rfl) | with_reducible refine choT (by assumption) ?_ | with_reducible refine choF (by assumption) ?_ | with_reducible refine choF' (by assumption) ?_ | (with_reducible refine altT ?_ ?_; first | omega | (simp only [List.length_append, List.length_cons, List.length_nil, List.length_map, List.length_take, List.length_drop, List.length_replicate, List.length_set]; omega)) | with_reducible refine altF ?_ | with_reducible refine all fun _ => ?_ | with_reducible refine both ?_ ?_ | (with_reducible refine choT ?_ ?_; omega) | (with_reducible refine choF ?_ ?_; omega) | with_reducible refine cho (fun _ => ?_) (fun _ => ?_))
          all_goals first
            | exact ⟨_, _, _, rfl, Sub.app_nil _, rfl, rfl⟩
            | (refine ⟨_, _, _, rfl, Sub.app_nil _, ?_, rfl⟩
               rw [decide_eq_true rfl])
            | trace_state
      · repeat' (first | with_reducible apply Stp.go | with_reducible refine imp fun _ => ?_ | (with_reducible refine hyp ?_ ?_; first | assumption | exact leftT_mem (by assumption)) | (with_reducible refine need ?_ ?_; first | trivial | omega | exact ⟨by assumption, by omega⟩ | (simp only [List.length_append, List.length_cons, List.length_nil, List.length_map, List.length_take, List.length_drop, List.length_replicate, List.length_set]; omega)) | (with_reducible refine fact ?_ ?_; first | trivial | exact ⟨rfl, rfl⟩ | kernel_rfl) | with_reducible refine choT (by assumption) ?_ | with_reducible refine choF (by assumption) ?_ | with_reducible refine choF' (by assumption) ?_ | (with_reducible refine altT ?_ ?_; first | omega | (simp only [List.length_append, List.length_cons, List.length_nil, List.length_map, List.length_take, List.length_drop, List.length_replicate, List.length_set]; omega)) | with_reducible refine altF ?_ | with_reducible refine all fun _ => ?_ | with_reducible refine both ?_ ?_ | (with_reducible refine choT ?_ ?_; omega) | (with_reducible refine choF ?_ ?_; omega) | with_reducible refine cho (fun _ => ?_) (fun _ => ?_))
        refine loopI (β := Nat) (fun j => j ≤ Q.length) (fun j => [.lst 36 (L.map tbF) .ro, .lst 36 (Q.map tbF) .ro, B true, .lst 36 (X.map tbF) .ro, .own v S.length, I .i64 (S.length : Nat), I .i64 (j : Nat)]) (fun _ => [.row v TbE 36 (S.map tbF) 0]) (fun j => Q.length - j) 0 (Nat.zero_le _) (Sub.refl _ _) ?_
        intro j hj
        by_cases hjq : j < Q.length
        · repeat' (first | with_reducible apply Stp.go | with_reducible refine imp fun _ => ?_ | (with_reducible refine hyp ?_ ?_; first | assumption | exact leftT_mem (by assumption)) | (with_reducible refine need ?_ ?_; first | trivial | omega | exact ⟨by assumption, by omega⟩ | (simp only [List.length_append, List.length_cons, List.length_nil, List.length_map, List.length_take, List.length_drop, List.length_replicate, List.length_set]; omega)) | (with_reducible refine fact ?_ ?_; first | trivial | exact ⟨rfl, rfl⟩ | kernel_rfl) | with_reducible refine choT (by assumption) ?_ | with_reducible refine choF (by assumption) ?_ | with_reducible refine choF' (by assumption) ?_ | (with_reducible refine altT ?_ ?_; first | omega | (simp only [List.length_append, List.length_cons, List.length_nil, List.length_map, List.length_take, List.length_drop, List.length_replicate, List.length_set]; omega)) | with_reducible refine altF ?_ | with_reducible refine all fun _ => ?_ | with_reducible refine both ?_ ?_ | (with_reducible refine choT ?_ ?_; omega) | (with_reducible refine choF ?_ ?_; omega) | with_reducible refine cho (fun _ => ?_) (fun _ => ?_))
          refine loopI (β := Nat) (fun k => k ≤ X.length) (fun k => [.lst 36 (L.map tbF) .ro, .lst 36 (Q.map tbF) .ro, B true, .lst 36 (X.map tbF) .ro, .own v S.length, I .i64 (S.length : Nat), I .i64 (j : Nat), B (decide (Q.getD j default ∈ X.take k)), I .i64 (k : Nat)]) (fun _ => [.row v TbE 36 (S.map tbF) 0]) (fun k => X.length - k) 0 (Nat.zero_le _) (Sub.refl _ _) ?_
          intro k hk
          by_cases hkx : k < X.length
          · have hst : Q.getD j default ∈ X.take (k + 1) ↔ (Q.getD j default ∈ X.take k ∨ X.getD k default = Q.getD j default) := by
              rw [take_succ_d hkx, List.mem_append, List.mem_singleton]
              exact or_congr Iff.rfl eq_comm
            by_cases hg : Q.getD j default ∈ X.take k
            · rw [decide_eq_true hg]
              repeat' (first | with_reducible apply Stp.go | with_reducible refine imp fun _ => ?_ | (with_reducible refine hyp ?_ ?_; first | assumption | exact leftT_mem (by assumption)) | (with_reducible refine need ?_ ?_; first | trivial | omega | exact ⟨by assumption, by omega⟩ | (simp only [List.length_append, List.length_cons, List.length_nil, List.length_map, List.length_take, List.length_drop, List.length_replicate, List.length_set]; omega)) | (with_reducible refine fact ?_ ?_; first | trivial | exact ⟨rfl, rfl⟩ | kernel_rfl) | with_reducible refine choT (by assumption) ?_ | with_reducible refine choF (by assumption) ?_ | with_reducible refine choF' (by assumption) ?_ | (with_reducible refine altT ?_ ?_; first | omega | (simp only [List.length_append, List.length_cons, List.length_nil, List.length_map, List.length_take, List.length_drop, List.length_replicate, List.length_set]; omega)) | with_reducible refine altF ?_ | with_reducible refine all fun _ => ?_ | with_reducible refine both ?_ ?_ | (with_reducible refine choT ?_ ?_; omega) | (with_reducible refine choF ?_ ?_; omega) | with_reducible refine cho (fun _ => ?_) (fun _ => ?_))
              exact again (k + 1) (by omega) (by omega) (by rw [decide_eq_true (hst.2 (.inl hg))]; exact Sub.refl _ _)
            · rw [decide_eq_false hg]
              have hff : ¬ (false : Bool) = true := by decide
              have he : decide (Q.getD j default ∈ X.take (k + 1)) = decide (X.getD k default = Q.getD j default) := by
                rw [Bool.eq_iff_iff, decide_eq_true_eq, decide_eq_true_eq, hst]
                exact ⟨fun h => h.resolve_left hg, .inr⟩
              repeat' (first | with_reducible apply Stp.go | with_reducible refine imp fun _ => ?_ | (with_reducible refine hyp ?_ ?_; first | assumption | exact leftT_mem (by assumption)) | (with_reducible refine need ?_ ?_; first | trivial | omega | exact ⟨by assumption, by omega⟩ | (simp only [List.length_append, List.length_cons, List.length_nil, List.length_map, List.length_take, List.length_drop, List.length_replicate, List.length_set]; omega)) | (with_reducible refine fact ?_ ?_; first | trivial | exact ⟨rfl, rfl⟩ | kernel_rfl) | with_reducible refine choT (by assumption) ?_ | with_reducible refine choF (by assumption) ?_ | with_reducible refine choF' (by assumption) ?_ | (with_reducible refine altT ?_ ?_; first | omega | (simp only [List.length_append, List.length_cons, List.length_nil, List.length_map, List.length_take, List.length_drop, List.length_replicate, List.length_set]; omega)) | with_reducible refine altF ?_ | with_reducible refine all fun _ => ?_ | with_reducible refine both ?_ ?_ | (with_reducible refine choT ?_ ?_; omega) | (with_reducible refine choF ?_ ?_; omega) | with_reducible refine cho (fun _ => ?_) (fun _ => ?_))
              exact again (k + 1) (by omega) (by omega) (by rw [he]; exact Sub.refl _ _)
          · have ek : k = X.length := by omega
            subst ek
            rw [List.take_length, decide_eq_true (hmem _ (getD_memT hjq))]
            repeat' (first | with_reducible apply Stp.go | with_reducible refine imp fun _ => ?_ | (with_reducible refine hyp ?_ ?_; first | assumption | exact leftT_mem (by assumption)) | (with_reducible refine need ?_ ?_; first | trivial | omega | exact ⟨by assumption, by omega⟩ | (simp only [List.length_append, List.length_cons, List.length_nil, List.length_map, List.length_take, List.length_drop, List.length_replicate, List.length_set]; omega)) | (with_reducible refine fact ?_ ?_; first | trivial | exact ⟨rfl, rfl⟩ | kernel_rfl) | with_reducible refine choT (by assumption) ?_ | with_reducible refine choF (by assumption) ?_ | with_reducible refine choF' (by assumption) ?_ | (with_reducible refine altT ?_ ?_; first | omega | (simp only [List.length_append, List.length_cons, List.length_nil, List.length_map, List.length_take, List.length_drop, List.length_replicate, List.length_set]; omega)) | with_reducible refine altF ?_ | with_reducible refine all fun _ => ?_ | with_reducible refine both ?_ ?_ | (with_reducible refine choT ?_ ?_; omega) | (with_reducible refine choF ?_ ?_; omega) | with_reducible refine cho (fun _ => ?_) (fun _ => ?_))
            exact again (j + 1) (by omega) (by omega) (Sub.refl _ _)
        · have ej : j = Q.length := by omega
          subst ej
          have hpl : placeT L [] [] = L := stayT_nil L
          have hq0 : L = L := rfl
          have iP : PC Go.Proofs.Try.prog 12 [.lst 36 (L.map tbF) .ro, .val (.slice none 0 0), .val (.slice none 0 0)] True (.lst 36 (L.map tbF) .ro) := ⟨fun _ => by
            have := (inferInstance : PC Go.Proofs.Try.prog 12 [.lst 36 (L.map tbF) .ro, .val (.slice none 0 0), .val (.slice none 0 0)] _ _).ct ⟨by omega, Nat.zero_le _, Nat.zero_le _⟩
            rw [hpl] at this
            exact this⟩
          repeat' (first | with_reducible apply Stp.go | with_reducible refine imp fun _ => ?_ | (with_reducible refine hyp ?_ ?_; first | assumption | exact leftT_mem (by assumption)) | (with_reducible refine need ?_ ?_; first | trivial | omega | exact ⟨by assumption, by omega⟩ | (simp only [List.length_append, List.length_cons, List.length_nil, List.length_map, List.length_take, List.length_drop, List.length_replicate, List.length_set]; omega)) | (with_reducible refine fact ?_ ?_; first | trivial | exact ⟨rfl, rfl⟩ | kernel_rfl) | with_reducible refine choT (by assumption) ?_ | with_reducible refine choF (by assumption) ?_ | with_reducible refine choF' (by assumption) ?_ | (with_reducible refine altT ?_ ?_; first | omega | (simp only [List.length_append, List.length_cons, List.length_nil, List.length_map, List.length_take, List.length_drop, List.length_replicate, List.length_set]; omega)) | with_reducible refine altF ?_ | with_reducible refine all fun _ => ?_ | with_reducible refine both ?_ ?_ | (with_reducible refine choT ?_ ?_; omega) | (with_reducible refine choF ?_ ?_; omega) | with_reducible refine cho (fun _ => ?_) (fun _ => ?_))
          all_goals first
            | exact ⟨_, _, _, rfl, Sub.app_nil _, rfl, rfl⟩
            | (refine ⟨_, _, _, rfl, Sub.app_nil _, ?_, rfl⟩
               rw [decide_eq_true rfl])
            | trace_state
theorem MovePlaces_ok (l : List TabR) (m : SM) (ins : List Int) (m' : SM) (parts : List TabR) (m'' : SM) (hl : (∀ a ∈ l, okTb a) ∧ l.length ≤ maxLen) (hi : (∀ a ∈ ins, (Lit.int .i64 a).wf = true) ∧ ins.length ≤ maxLen) (hp : (∀ a ∈ parts, okTb a) ∧ parts.length ≤ maxLen) : aPure Go.Proofs.Try.prog 4 [.lst 36 (l.map tbF) m, .lst 1 (ins.map it) m', .lst 36 (parts.map tbF) m''] (B true) := MovePlaces_at l m ins m' parts m'' (by have := hl.2; simpa [maxLen] using this) (by have := hi.2; simpa [maxLen] using this) (by have := hp.2; simpa [maxLen] using this)
end Go.Ab
