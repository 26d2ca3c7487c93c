/- The texts that this claim needs, part 12: a logic over abstract values, its steps, what the functions do. No condition of its own. -/
import Derived.OpenShut
import Derived.ChangeArms
import Derived.Deep.Slices
import Derived.Below
import Derived.Test.YtobhbepiaibceaaSeekChecksK11
/- From a start that is read to abstract values: lists of entries, bytes, texts. No program in sight. -/
set_option linter.unusedVariables false
set_option linter.unusedSimpArgs false
namespace Go.Ab
variable {P : Program} {H : Type} {enc : TypeId × Value → H} {w : World} {base : Nat} {spare : Nat → Bool} {held : Bool}

/-- What a start holds. -/
def roOf (w : World) : RO := fun a => w.cell? a
theorem st_start (w : World) : St (roOf w) w [] := ⟨fun _ _ h => h, by simp, List.Pairwise.nil⟩
/-- A law's call, told of a concrete start. -/
theorem walk_of_pure {f : FuncId} {args : List AV} {u : Value} (h : aPure P f args (.val u)) {vs : List Value} (hv : VRs (roOf w) vs args) : Calls P f (List.toArray vs) w fun e w' => e = .returned u ∧ RowKit.Below w.heap.size w w' := by
  refine (h.2 (roOf w) w vs hv (st_start w)).mono ?_
  rintro e w' ⟨x, R', σ', h1, ⟨rfl, rfl⟩, h3, h4⟩
  cases e with
  | returned v => exact ⟨by rw [VR.val_inv h1], h4.os, h4.tape, h4.output, h4.size, fun k hk => h4.block k hk (by simp [blks])⟩
  | panicked c => exact h1.elim
  | outgrown => exact h1.elim

def En.vals (e : En) : List Value := [.string ⟨e.key.toArray⟩, .string ⟨e.val.toArray⟩, .bool e.del, .int .i64 e.seq]
theorem En.vals_len (e : En) : e.vals.length = 4 := rfl
theorem En.rel (R : RO) (e : En) : VRs R e.vals e.cs := VRs.ofVals R e.vals
theorem Ens.rel (R : RO) : ∀ l : List En, VRs R (l.flatMap En.vals) (flat (l.map En.av))
  | [] => VRs.nil R
  | e :: l => by
    have := (e.rel R).append (Ens.rel R l)
    simpa [flat, En.av, AV.cells] using this
theorem Ens.len (l : List En) : (l.flatMap En.vals).length = l.length * 4 := by
  induction l with
  | nil => rfl
  | cons e l ih => simp only [List.flatMap_cons, List.length_append, ih, En.vals_len, List.length_cons]; omega
theorem Ens.get : ∀ (l : List En) (i r : Nat), r < 4 → (l.flatMap En.vals)[i * 4 + r]? = (l[i]?).bind fun e => e.vals[r]?
  | [], i, r, _ => by simp
  | e :: l, 0, r, hr => by
    simp only [List.flatMap_cons, Nat.zero_mul, Nat.zero_add, List.getElem?_cons_zero, Option.bind_some]
    rw [List.getElem?_append_left (by rw [En.vals_len]; exact hr)]
  | e :: l, i + 1, r, hr => by
    simp only [List.flatMap_cons, List.getElem?_cons_succ]
    rw [List.getElem?_append_right (by rw [En.vals_len]; omega), En.vals_len, ← Ens.get l i r hr]
    congr 1
    omega
theorem Ens.ones (l : List En) : ∀ v ∈ l.flatMap En.vals, v.oneCell' = true := by
  intro v hv
  obtain ⟨e, _, h⟩ := List.mem_flatMap.1 hv
  simp only [En.vals, List.mem_cons, List.not_mem_nil, or_false] at h
  rcases h with rfl | rfl | rfl | rfl <;> rfl
theorem okWide_agg {r : Reach} {t : TypeId} {fs : Array Field} {v : Value} (ht : P.underlying t = some (.struct fs)) (h : Value.okWide P w r base t v) : ∃ cs, v = .agg cs := by
  simp only [Value.okWide, ht] at h
  obtain ⟨cs, h1, _⟩ := h
  exact ⟨cs, h1⟩
theorem Bys.rel (R : RO) (l : List UInt8) : VRs R (l.map fun b => Value.int .u8 (b.toNat : Nat)) (flat (l.map byt)) := by
  have e : flat (l.map byt) = (l.map fun b => Value.int .u8 (b.toNat : Nat)).map .val := by
    induction l with
    | nil => rfl
    | cons b l ih =>
      simp only [List.map_cons]
      rw [← ih]
      rfl
  rw [e]
  exact VRs.ofVals R _
end Go.Ab

/- What stands in memory at a start, read by its type: numbers, texts, slices, structs. No program in sight. -/
set_option linter.unusedVariables false
set_option linter.unusedSimpArgs false
namespace Go.Ab
variable {P : Program}
/-- Whatever is read at a type is told by something, in so many cells. -/
structure Rd (P : Program) (t : TypeId) {α : Type} (g : α → AV) (sz : Nat) (ok : α → Prop) : Prop where
  size : P.cellsOf t = sz
  pos : 0 < sz
  told : Told g sz
  read : ∀ {H : Type} {enc : TypeId × Value → H} {w : World} {base : Nat} {spare : Nat → Bool} {held : Bool} {n : Nat} {cs : List Value} {x : DataW H × List MemPlace}, DataW.trod enc P w base spare held n t cs = some x → ∃ a, ok a ∧ cs.length = sz ∧ VRs (roOf w) cs (g a).cells ∧ ∀ v ∈ cs, v.oneCell' = true
theorem VRs.one {R : RO} {v : Value} {u : AV} (h : VR R v u) : VRs R [v] [u] := VRs.cons h (VRs.nil R)
theorem VRs.head {R : RO} {v : Value} {u : AV} (h : VRs R [v] [u]) : VR R v u := h.2 0 u v rfl rfl
theorem told_one {α : Type} {g : α → AV} (h : ∀ a, (g a).cells = [g a] ∧ (g a).one = true) : Told g 1 := fun a => ⟨by rw [(h a).1]; rfl, fun c hc => by rw [(h a).1] at hc; rw [List.mem_singleton.1 hc]; exact (h a).2⟩
theorem Rd.int {t : TypeId} (ht : P.underlying t = some (.int .i64)) (hs : P.cellsOf t = 1) : Rd P t (fun n : Int => I .i64 n) 1 (fun n => (Lit.int .i64 n).wf = true) := ⟨hs, by decide, told_one fun _ => ⟨rfl, rfl⟩, fun h => by
  obtain ⟨k, e, _, hw⟩ := DataW.trod_int ht h
  subst e
  exact ⟨k, hw, rfl, VRs.one (.val _), fun v hv => by rw [List.mem_singleton.1 hv]; rfl⟩⟩
theorem Rd.byte {t : TypeId} (ht : P.underlying t = some (.int .u8)) (hs : P.cellsOf t = 1) : Rd P t byt 1 (fun _ => True) := ⟨hs, by decide, told_one fun _ => ⟨rfl, rfl⟩, fun h => by
  obtain ⟨k, e, _, hw⟩ := DataW.trod_int ht h
  subst e
  simp only [Lit.wf, Bool.and_eq_true, decide_eq_true_eq] at hw
  have h0 : (0 : Int) ≤ k := by have := hw.1; simpa [IntKind.min, IntKind.signed] using this
  have h255 : k ≤ 255 := by have := hw.2; simpa [IntKind.max, IntKind.signed, IntKind.bits] using this
  have e6 : ((UInt8.ofNat k.toNat).toNat : Int) = k := by rw [UInt8.toNat_ofNat']; omega
  refine ⟨UInt8.ofNat k.toNat, trivial, rfl, ?_, fun v hv => by rw [List.mem_singleton.1 hv]; rfl⟩
  have e7 : byt (UInt8.ofNat k.toNat) = .val (.int .u8 k) := by rw [byt, e6]
  rw [e7]
  exact VRs.one (.val _)⟩
theorem Rd.str {t : TypeId} (ht : P.underlying t = some .string) (hs : P.cellsOf t = 1) : Rd P t (fun l : List UInt8 => S l) 1 (fun l => l.length ≤ maxLen) := ⟨hs, by decide, told_one fun _ => ⟨rfl, rfl⟩, fun h => by
  obtain ⟨s, e, _, hl⟩ := DataW.trod_string ht h
  subst e
  exact ⟨s.data.toList, by simpa using hl, rfl, VRs.one (.val _), fun v hv => by rw [List.mem_singleton.1 hv]; rfl⟩⟩
theorem Rd.bool {t : TypeId} (ht : P.underlying t = some .bool) (hs : P.cellsOf t = 1) : Rd P t (fun b : Bool => B b) 1 (fun _ => True) := ⟨hs, by decide, told_one fun _ => ⟨rfl, rfl⟩, fun h => by
  obtain ⟨b, e, _⟩ := DataW.trod_bool ht h
  subst e
  exact ⟨b, trivial, rfl, VRs.one (.val _), fun v hv => by rw [List.mem_singleton.1 hv]; rfl⟩⟩
theorem flat_rel {α : Type} {g : α → AV} {R : RO} {V : Nat → List Value} {F : Nat → α} : ∀ is : List Nat, (∀ i ∈ is, VRs R (V i) (g (F i)).cells) → VRs R (is.flatMap V) (flat ((is.map F).map g))
  | [], _ => VRs.nil R
  | i :: is, h => by
    have := (h i List.mem_cons_self).append (flat_rel is fun j hj => h j (List.mem_cons_of_mem _ hj))
    simpa [flat] using this
theorem flatMap_get {V : Nat → List Value} {sz : Nat} (hz : 0 < sz) : ∀ (n j : Nat) (v : Value), (∀ i, i < n → (V i).length = sz) → ((List.range n).flatMap V)[j]? = some v → j / sz < n ∧ (V (j / sz))[j % sz]? = some v := by
  intro n
  induction n with
  | zero => intro j v _ h; simp at h
  | succ n ih =>
    intro j v hl h
    have hlen : ∀ m, m ≤ n → ((List.range m).flatMap V).length = m * sz := by
      intro m hm
      induction m with
      | zero => simp
      | succ m ihm => rw [List.range_succ, List.flatMap_append, List.length_append, ihm (by omega)]; simp [hl m (by omega), Nat.succ_mul]
    rw [List.range_succ, List.flatMap_append] at h
    by_cases hj : j < n * sz
    · rw [List.getElem?_append_left (by rw [hlen n (Nat.le_refl _)]; exact hj)] at h
      obtain ⟨h1, h2⟩ := ih j v (fun i hi => hl i (by omega)) h
      exact ⟨by omega, h2⟩
    · rw [List.getElem?_append_right (by rw [hlen n (Nat.le_refl _)]; omega), hlen n (Nat.le_refl _)] at h
      simp only [List.flatMap_cons, List.flatMap_nil, List.append_nil] at h
      have h3 : j - n * sz < sz := by
        have h4 := (List.getElem?_eq_some_iff.1 h).1
        rw [hl n (by omega)] at h4
        exact h4
      have hd : j / sz = n := by
        have : j = sz * n + (j - n * sz) := by rw [Nat.mul_comm sz n]; omega
        rw [this, Nat.mul_add_div hz, Nat.div_eq_of_lt h3, Nat.add_zero]
      have hm : j % sz = j - n * sz := by
        have := Nat.div_add_mod j sz
        rw [hd, Nat.mul_comm] at this
        omega
      rw [hd, hm]
      exact ⟨by omega, h⟩
theorem Rd.slice {α : Type} [Inhabited α] {g : α → AV} {sz : Nat} {ok : α → Prop} {t e : TypeId} (he : Rd P e g sz ok) (ht : P.underlying t = some (.slice e)) (hs : P.cellsOf t = 1) : Rd P t (fun l : List α => .lst sz (l.map g) .ro) 1 (fun l => (∀ a ∈ l, ok a) ∧ l.length ≤ maxLen) := ⟨hs, by decide, told_one fun _ => ⟨rfl, rfl⟩, fun {H enc w base spare held n cs x} h => by
  rcases Deep.open_slice ht h with ⟨hcs, hx⟩ | ⟨a, len, cap, m, n', D, Pl, hcs, hb, hl, hm, hmm, hx, hel⟩
  · subst hcs
    exact ⟨[], ⟨by simp, Nat.zero_le _⟩, rfl, VRs.one (.lst [] rfl he.pos (by simp) rfl (by simp) (by simp) (by simp [SMok]) (Nat.zero_le _) (by simp)), fun v hv => by rw [List.mem_singleton.1 hv]; rfl⟩
  · subst hcs
    have hle : len ≤ m := by rw [hmm]; split <;> omega
    have hex : ∀ i, i < len → ∃ f : α × List Value, ok f.1 ∧ f.2.length = sz ∧ VRs (roOf w) f.2 (g f.1).cells ∧ (∀ v ∈ f.2, v.oneCell' = true) ∧ ∀ r, r < sz → w.cell? ((a.add (i * sz)).add r) = f.2[r]? := by
      intro i hi
      obtain ⟨cs', h1, h2⟩ := hel i (by omega)
      obtain ⟨f, k1, k2, k3, k4⟩ := he.read h2
      rw [he.size] at h1
      obtain ⟨_, _, h3⟩ := World.cells?_some h1
      exact ⟨(f, cs'), k1, k2, k3, k4, h3⟩
    obtain ⟨F, hF⟩ := Deep.choose_lt hex
    refine ⟨(List.range len).map fun i => (F i).1, ⟨fun a ha => ?_, by simp; omega⟩, rfl, VRs.one ?_, fun v hv => by rw [List.mem_singleton.1 hv]; rfl⟩
    · obtain ⟨i, hi, rfl⟩ := List.mem_map.1 ha
      exact (hF i (List.mem_range.1 hi)).1
    · have hrel := flat_rel (g := g) (R := roOf w) (V := fun i => (F i).2) (F := fun i => (F i).1) (List.range len) fun i hi => (hF i (List.mem_range.1 hi)).2.2.1
      refine .lst ((List.range len).flatMap fun i => (F i).2) (by simp) he.pos (told_len he.told _) hrel.1 hrel.2 (fun _ => ⟨a, rfl, fun j v hj => ?_⟩) hl (by simp only [maxLen] at hm ⊢; omega) (fun v hv => ?_)
      · obtain ⟨h1, h2⟩ := flatMap_get he.pos len j v (fun i hi => (hF i hi).2.1) hj
        have h3 := (hF (j / sz) h1).2.2.2.2 (j % sz) (Nat.mod_lt _ he.pos)
        rw [h2, addr_add_add] at h3
        show w.cell? (a.add j) = some v
        have := Nat.div_add_mod j sz
        rw [Nat.mul_comm] at this
        rw [← this]
        exact h3
      · obtain ⟨i, hi, h⟩ := List.mem_flatMap.1 hv
        exact (hF i (List.mem_range.1 hi)).2.2.2.1 v h⟩
/-- Fields behind one another. -/
structure RdFs (P : Program) (fs : List Field) (o : Nat) {α : Type} (g : α → List AV) (sz : Nat) (ok : α → Prop) : Prop where
  read : ∀ {H : Type} {enc : TypeId × Value → H} {w : World} {base : Nat} {spare : Nat → Bool} {held : Bool} {cs : List Value}, cs.length = o + sz → (∀ f ∈ fs, ∃ (n : Nat) (x : DataW H × List MemPlace), DataW.trod enc P w base spare held n f.type ((cs.drop f.offset).take (P.cellsOf f.type)) = some x) →
    ∃ a, ok a ∧ VRs (roOf w) (cs.drop o) (g a) ∧ ∀ v ∈ cs.drop o, v.oneCell' = true
theorem RdFs.nil {o : Nat} : RdFs P [] o (fun _ : Unit => []) 0 (fun _ => True) := ⟨fun hl _ => ⟨(), trivial, by rw [List.drop_of_length_le (by omega)]; exact VRs.nil _, by rw [List.drop_of_length_le (by omega)]; simp⟩⟩
theorem RdFs.cons {α β : Type} {f : Field} {fs : List Field} {o sz sz' : Nat} {g : α → AV} {g' : β → List AV} {ok : α → Prop} {ok' : β → Prop} (h : Rd P f.type g sz ok) (ho : f.offset = o) (hs : RdFs P fs (o + sz) g' sz' ok') : RdFs P (f :: fs) o (fun a : α × β => (g a.1).cells ++ g' a.2) (sz + sz') (fun a => ok a.1 ∧ ok' a.2) := ⟨fun {H enc w base spare held cs} hl hf => by
  obtain ⟨n, x, hx⟩ := hf f List.mem_cons_self
  rw [ho, h.size] at hx
  obtain ⟨a, k1, k2, k3, k4⟩ := h.read hx
  obtain ⟨b, j1, j2, j3⟩ := hs.read (cs := cs) (by omega) fun q hq => hf q (List.mem_cons_of_mem _ hq)
  have e : cs.drop o = (cs.drop o).take sz ++ cs.drop (o + sz) := by rw [← List.drop_drop, List.take_append_drop]
  refine ⟨(a, b), ⟨k1, j1⟩, ?_, ?_⟩
  · rw [e]; exact k3.append j2
  · rw [e]
    intro v hv
    rcases List.mem_append.1 hv with hv | hv
    · exact k4 v hv
    · exact j3 v hv⟩
theorem Rd.struct {α β : Type} {fs : Array Field} {t : TypeId} {g : α → List AV} {sz : Nat} {ok : α → Prop} (ht : P.underlying t = some (.struct fs)) (hs : P.cellsOf t = sz) (hf : RdFs P fs.toList 0 g sz ok) (φ : α → β) (g' : β → AV) (hφ : ∀ a, (g' (φ a)).cells = g a) (told : Told g' sz) (hz : 0 < sz) : Rd P t g' sz (fun b => ∃ a, ok a ∧ b = φ a) := ⟨hs, hz, told, fun {H enc w base spare held n cs x} h => by
  obtain ⟨xs, m, rfl, _, hl, hx, hfs⟩ := DataW.trod_struct ht h
  obtain ⟨a, k1, k2, k3⟩ := hf.read (H := H) (enc := enc) (w := w) (base := base) (spare := spare) (held := held) (cs := cs) (by omega) fun f hfm => by
    obtain ⟨i, hi⟩ := List.mem_iff_getElem?.1 hfm
    have hi2 : i < fs.size := by
      have := (List.getElem?_eq_some_iff.1 hi).1
      simpa using this
    have h2 := hfs i f (by rw [← Array.getElem?_toList]; exact hi)
    rw [List.getElem?_eq_getElem (by omega)] at h2
    exact ⟨m, _, h2⟩
  rw [List.drop_zero] at k2 k3
  exact ⟨φ a, ⟨a, k1, rfl⟩, by omega, by rw [hφ]; exact k2, k3⟩⟩
theorem Rd.arr {α β : Type} [Inhabited α] {g : α → AV} {sz n : Nat} {ok : α → Prop} {t e : TypeId} (he : Rd P e g sz ok) (ht : P.underlying t = some (.array n e)) (hs : P.cellsOf t = n * sz) (hn : 0 < n) (φ : ∀ l : List α, l.length = n → β) (g' : β → AV) (hφ : ∀ l h, (g' (φ l h)).cells = flat (l.map g)) (told : Told g' (n * sz)) : Rd P t g' (n * sz) (fun _ => True) := ⟨hs, Nat.mul_pos hn he.pos, told, fun {H enc w base spare held m cs x} h => by
  obtain ⟨xs, m', rfl, _, hl, hx, hel⟩ := DataW.trod_array ht h
  rw [hs] at hl
  rw [he.size] at hel
  have hex : ∀ i, i < n → ∃ f : α, VRs (roOf w) ((cs.drop (i * sz)).take sz) (g f).cells ∧ ∀ v ∈ (cs.drop (i * sz)).take sz, v.oneCell' = true := by
    intro i hi
    have h2 := hel i hi
    rw [List.getElem?_eq_getElem (by omega)] at h2
    obtain ⟨f, k1, k2, k3, k4⟩ := he.read h2
    exact ⟨f, k3, k4⟩
  obtain ⟨F, hF⟩ := Deep.choose_lt hex
  have hcs : ∀ k, k ≤ n → cs = ((List.range k).flatMap fun i => (cs.drop (i * sz)).take sz) ++ cs.drop (k * sz) := by
    intro k hk
    induction k with
    | zero => simp
    | succ k ih =>
      rw [List.range_succ, List.flatMap_append]
      have e : cs.drop (k * sz) = (cs.drop (k * sz)).take sz ++ cs.drop ((k + 1) * sz) := by
        rw [Nat.succ_mul, ← List.drop_drop, List.take_append_drop]
      conv => lhs; rw [ih (by omega), e]
      simp
  have e1 := hcs n (Nat.le_refl _)
  rw [List.drop_of_length_le (by omega), List.append_nil] at e1
  have hrel := flat_rel (g := g) (R := roOf w) (V := fun i => (cs.drop (i * sz)).take sz) (F := F) (List.range n) fun i hi => (hF i (List.mem_range.1 hi)).1
  refine ⟨φ ((List.range n).map F) (by simp), trivial, hl, ?_, fun v hv => ?_⟩
  · rw [hφ, e1]; exact hrel
  · rw [e1] at hv
    obtain ⟨i, hi, h⟩ := List.mem_flatMap.1 hv
    exact (hF i (List.mem_range.1 hi)).2 v h⟩
theorem Rd.mono {α : Type} {g : α → AV} {t : TypeId} {sz : Nat} {ok ok' : α → Prop} (h : Rd P t g sz ok) (hk : ∀ a, ok a → ok' a) : Rd P t g sz ok' := ⟨h.size, h.pos, h.told, fun hx => by
  obtain ⟨a, k1, k2⟩ := h.read hx
  exact ⟨a, hk a k1, k2⟩⟩
/-- A value that is one cell, or a struct's. -/
theorem Rd.val {α : Type} {g : α → AV} {t : TypeId} {ok : α → Prop} (h : Rd P t g 1 ok) (hg : ∀ a, (g a).cells = [g a]) {H : Type} {enc : TypeId × Value → H} {w : World} {base : Nat} {spare : Nat → Bool} {held : Bool} {n : Nat} {v : Value} {x : DataW H × List MemPlace} (hx : DataW.trod enc P w base spare held n t [v] = some x) : ∃ a, ok a ∧ VR (roOf w) v (g a) := by
  obtain ⟨a, k1, _, k3, _⟩ := h.read hx
  rw [hg] at k3
  exact ⟨a, k1, k3.head⟩
theorem Rd.ag {α : Type} {g : α → AV} {t : TypeId} {sz : Nat} {ok : α → Prop} (h : Rd P t g sz ok) (hg : ∀ a, g a = .agg (g a).cells) {H : Type} {enc : TypeId × Value → H} {w : World} {base : Nat} {spare : Nat → Bool} {held : Bool} {n : Nat} {cs : Array Value} {x : DataW H × List MemPlace} (hx : DataW.trod enc P w base spare held n t cs.toList = some x) : ∃ a, ok a ∧ VR (roOf w) (.agg cs) (g a) := by
  obtain ⟨a, k1, _, k3, _⟩ := h.read hx
  refine ⟨a, k1, ?_⟩
  rw [hg]
  exact .agg k3.1 k3.2
end Go.Ab

/- Layer 12: openings, points and spans of one's own; what is read of them at a start. -/
set_option linter.unusedVariables false
set_option linter.unusedSimpArgs false
namespace Go.Ab
theorem told_dg : Told dgF 32 := (inferInstance : Enc dgF 32).told
theorem rdDig : Rd Go.Proofs.Try.prog DgT dgF 32 (fun _ => True) := (Rd.arr (Rd.byte Go.Proofs.Try.underlying5 (by kernel_rfl)) Go.Proofs.Try.underlying46 (by kernel_rfl) (by decide)) (fun l h => (⟨l, h⟩ : D32)) dgF (fun l h => (flat_byt l).symm) told_dg
/-- What is known of a table. -/
structure TabR where
  lev : Int
  cnt : Int
  root : D32
  fst : List UInt8
  lst : List UInt8
abbrev tbF (x : TabR) : AV := tabA x.lev x.cnt x.root.val x.fst x.lst
theorem told_tb : Told tbF 36 := fun x => ⟨by simp [AV.cells, x.root.len], fun c hc => by
  have hc : c ∈ tabCs x.lev x.cnt x.root.val x.fst x.lst := hc
  simp only [List.mem_cons, List.mem_append, List.mem_map, List.not_mem_nil, or_false] at hc
  rcases hc with rfl | rfl | ⟨y, _, rfl⟩ | rfl | rfl <;> rfl⟩
theorem rdTab : Rd Go.Proofs.Try.prog 48 tbF 36 (fun x => x.lev ≤ 9223372036854775807 ∧ x.cnt ≤ 9223372036854775807 ∧ -9223372036854775808 ≤ x.lev ∧ -9223372036854775808 ≤ x.cnt) := ((Rd.struct Go.Proofs.Try.underlying48 (by kernel_rfl) (RdFs.cons (Rd.int Go.Proofs.Try.underlying3 (by kernel_rfl)) rfl (RdFs.cons (Rd.int Go.Proofs.Try.underlying3 (by kernel_rfl)) rfl (RdFs.cons rdDig rfl (RdFs.cons (Rd.str Go.Proofs.Try.underlying9 (by kernel_rfl)) rfl (RdFs.cons (Rd.str Go.Proofs.Try.underlying9 (by kernel_rfl)) rfl RdFs.nil)))))) (fun a => TabR.mk a.1 a.2.1 a.2.2.1 a.2.2.2.1 a.2.2.2.2.1) tbF (fun _ => rfl) told_tb (by decide)).mono (by
  rintro _ ⟨a, h, rfl⟩
  have h1 := h.1
  have h2 := h.2.1
  simp only [Lit.wf, Bool.and_eq_true, decide_eq_true_eq, IntKind.min, IntKind.max, IntKind.signed, IntKind.bits] at h1 h2
  simp at h1 h2
  dsimp only
  exact ⟨by omega, by omega, by omega, by omega⟩)
abbrev opF (x : Opn) : AV := .agg (opCs x)
theorem told_opn : Told opF 3 := fun x => ⟨rfl, fun c hc => by
  have hc : c ∈ opCs x := hc
  simp only [List.mem_cons, List.not_mem_nil, or_false] at hc
  rcases hc with rfl | rfl | rfl <;> rfl⟩
theorem rdOpn : Rd Go.Proofs.Try.prog 30 opF 3 (fun _ => True) := ((Rd.struct Go.Proofs.Try.underlying30 (by kernel_rfl) (RdFs.cons (Rd.int Go.Proofs.Try.underlying3 (by kernel_rfl)) rfl (RdFs.cons (Rd.slice (Rd.byte Go.Proofs.Try.underlying5 (by kernel_rfl)) Go.Proofs.Try.underlying27 (by kernel_rfl)) rfl (RdFs.cons (Rd.slice rdDig Go.Proofs.Try.underlying28 (by kernel_rfl)) rfl RdFs.nil)))) (fun a => (a.1, a.2.1, a.2.2.1)) opF (fun _ => rfl) told_opn (by decide)).mono fun _ _ => trivial
abbrev ptF (x : Bool × Opn × Opn) : AV := ptA x.1 x.2.1 x.2.2
theorem told_pt : Told ptF 7 := fun x => ⟨rfl, fun c hc => by
  have hc : c ∈ ptCs x.1 x.2.1 x.2.2 := hc
  simp only [List.mem_cons, List.not_mem_nil, or_false] at hc
  rcases hc with rfl | rfl | rfl | rfl | rfl | rfl | rfl <;> rfl⟩
theorem rdPt : Rd Go.Proofs.Try.prog 32 ptF 7 (fun _ => True) := ((Rd.struct Go.Proofs.Try.underlying32 (by kernel_rfl) (RdFs.cons (Rd.bool Go.Proofs.Try.underlying4 (by kernel_rfl)) rfl (RdFs.cons rdOpn rfl (RdFs.cons rdOpn rfl RdFs.nil)))) (fun a => (a.1, a.2.1, a.2.2.1)) ptF (fun _ => rfl) told_pt (by decide)).mono fun _ _ => trivial
abbrev Spn := Int × List (List UInt8) × List D32
abbrev spF (x : Spn) : AV := spA x.1 x.2.1 x.2.2
theorem told_sp : Told spF 3 := fun x => ⟨rfl, fun c hc => by
  have hc : c ∈ [I .i64 x.1, .lst 1 (x.2.1.map bl) .ro, .lst 32 (x.2.2.map dgF) .ro] := hc
  simp only [List.mem_cons, List.not_mem_nil, or_false] at hc
  rcases hc with rfl | rfl | rfl <;> rfl⟩
theorem rdSpan : Rd Go.Proofs.Try.prog 39 spF 3 (fun _ => True) := ((Rd.struct Go.Proofs.Try.underlying39 (by kernel_rfl) (RdFs.cons (Rd.int Go.Proofs.Try.underlying3 (by kernel_rfl)) rfl (RdFs.cons (Rd.slice (Rd.slice (Rd.byte Go.Proofs.Try.underlying5 (by kernel_rfl)) Go.Proofs.Try.underlying27 (by kernel_rfl)) Go.Proofs.Try.underlying37 (by kernel_rfl)) rfl (RdFs.cons (Rd.slice rdDig Go.Proofs.Try.underlying28 (by kernel_rfl)) rfl RdFs.nil)))) (fun a => (a.1, a.2.1, a.2.2.1)) spF (fun _ => rfl) told_sp (by decide)).mono fun _ _ => trivial
section p7
variable {a b c d e f g x y z : AV}
instance : Part [a, b, c, d, e, f, g] 0 7 [a, b, c, d, e, f, g] := ⟨rfl, Nat.le_refl _, by decide⟩
instance : Part [a, b, c, d, e, f, g] 1 3 [b, c, d] := ⟨rfl, Nat.le_of_ble_eq_true rfl, by decide⟩
instance : Part [a, b, c, d, e, f, g] 4 3 [e, f, g] := ⟨rfl, Nat.le_of_ble_eq_true rfl, by decide⟩
instance : Splice [a, b, c, d, e, f, g] 1 [x, y, z] [a, x, y, z, e, f, g] := ⟨rfl, Nat.le_of_ble_eq_true rfl⟩
instance : Splice [a, b, c, d, e, f, g] 4 [x, y, z] [a, b, c, d, x, y, z] := ⟨rfl, Nat.le_of_ble_eq_true rfl⟩
end p7
def cutO (x : Opn) : Opn := (x.1, x.2.1.take 1300, x.2.2.take 20)
def cutS (x : Spn) : Spn := (x.1, (x.2.1.take 70).map (·.take 1300), x.2.2.take 40)
def law12_opening.mark : Mark := ⟨fun t => false, fun t => Nat.beq t 3 || Nat.beq t 13, fun t => false, fun t => false, fun t => false⟩
def law12_opening.ann : Ann := ⟨fun n => [], fun n => none, fun n => none⟩
/-- 'marlstone/marlstonelaw12.opening' -/
def law12_opening.sh (a0 : AV) (σ : Store) (Q : AEnd → Store → Prop) : Prop :=
  aNewVar 30 (a0 : AV).cells σ fun t1 σ =>
  aNewVar 30 [.val (.int .i64 0), .val (.slice none 0 0), .val (.slice none 0 0)] σ fun t2 σ_1 =>
  aRowL 5 (mkE [.val (.int .u8 0)]) 1 0 [] σ_1 fun t3 σ_2 =>
  Do (aFieldAddr 1 1 t1) fun t4 =>
  Do (loadA false 1 t4 σ_2) fun t5 =>
  Do (aFieldAddr 1 1 t1) fun t6 =>
  Do (loadA false 1 t6 σ_2) fun t7 =>
  Do (aBuiltin Go.Proofs.Try.prog .len #[27] [t7]) fun t8 =>
  Do (aBuiltin Go.Proofs.Try.prog .min #[3, 3] [t8, (.val (.int .i64 1300))]) fun t9 =>
  Do (aSlice .slice 1 t5 none (some t9) none) fun t10 =>
  aAppend 5 1 1 t3 t10 σ_2 (subK fun t11 σ_3 =>
  Do (aFieldAddr 1 1 t1) fun t12 =>
  storeA 1 t12 t11 σ_3 fun u σ_4 =>
  aRowL 46 (mkE [.val (.int .u8 0), .val (.int .u8 0), .val (.int .u8 0), .val (.int .u8 0), .val (.int .u8 0), .val (.int .u8 0), .val (.int .u8 0), .val (.int .u8 0), .val (.int .u8 0), .val (.int .u8 0), .val (.int .u8 0), .val (.int .u8 0), .val (.int .u8 0), .val (.int .u8 0), .val (.int .u8 0), .val (.int .u8 0), .val (.int .u8 0), .val (.int .u8 0), .val (.int .u8 0), .val (.int .u8 0), .val (.int .u8 0), .val (.int .u8 0), .val (.int .u8 0), .val (.int .u8 0), .val (.int .u8 0), .val (.int .u8 0), .val (.int .u8 0), .val (.int .u8 0), .val (.int .u8 0), .val (.int .u8 0), .val (.int .u8 0), .val (.int .u8 0)]) 32 0 [] σ_4 fun t13 σ_5 =>
  Do (aFieldAddr 2 1 t1) fun t14 =>
  Do (loadA false 1 t14 σ_5) fun t15 =>
  Do (aFieldAddr 2 1 t1) fun t16 =>
  Do (loadA false 1 t16 σ_5) fun t17 =>
  Do (aBuiltin Go.Proofs.Try.prog .len #[28] [t17]) fun t18 =>
  Do (aBuiltin Go.Proofs.Try.prog .min #[3, 3] [t18, (.val (.int .i64 20))]) fun t19 =>
  Do (aSlice .slice 32 t15 none (some t19) none) fun t20 =>
  aAppend 46 32 32 t13 t20 σ_5 (subK fun t21 σ_6 =>
  Do (aFieldAddr 2 1 t1) fun t22 =>
  storeA 1 t22 t21 σ_6 fun u_1 σ_7 =>
  Do (loadA true 3 t1 σ_7) fun t23 =>
  storeA 3 t2 t23 σ_7 fun u_2 σ_8 =>
  Do (loadA true 3 t2 σ_8) fun r2 => Q (.ret r2) σ_8))
theorem law12_opening.eq (a0 : AV) (σ : Store) (Q : AEnd → Store → Prop) : vc (semOf Go.Proofs.Try.prog law12_opening.mark) Go.Proofs.Try.f48.ntmps law12_opening.ann (bodyOf Go.Proofs.Try.f48) (endK [.cell 2 true 3] Q) (argFr [a0]) σ = law12_opening.sh a0 σ Q := by kernel_rfl
theorem law12_opening.go {a0 : AV} {σ : Store} {Q : AEnd → Store → Prop} (h : law12_opening.sh a0 σ Q) : ACalls Go.Proofs.Try.prog 48 [a0] σ Q :=
  acalls_of_eq [.cell 2 true 3] Go.Proofs.Try.func48 (by kernel_rfl) (by kernel_rfl) (by kernel_rfl) (by kernel_rfl) (law12_opening.eq a0 σ Q) h
def law12_point.mark : Mark := ⟨fun t => Nat.beq t 5 || Nat.beq t 9, fun t => false, fun t => false, fun t => false, fun t => false⟩
def law12_point.ann : Ann := ⟨fun n => [], fun n => none, fun n => none⟩
/-- 'marlstone/marlstonelaw12.point' -/
def law12_point.sh (a0 : AV) (σ : Store) (Q : AEnd → Store → Prop) : Prop :=
  aNewVar 32 (a0 : AV).cells σ fun t1 σ =>
  aNewVar 32 [.val (.bool false), .val (.int .i64 0), .val (.slice none 0 0), .val (.slice none 0 0), .val (.int .i64 0), .val (.slice none 0 0), .val (.slice none 0 0)] σ fun t2 σ_1 =>
  Do (aFieldAddr 1 3 t1) fun t3 =>
  Do (loadA true 3 t3 σ_1) fun t4 =>
  Do (aPureC Go.Proofs.Try.prog 48 [t4]) fun t5 =>
  Do (aFieldAddr 1 3 t1) fun t6 =>
  storeA 3 t6 t5 σ_1 fun u σ_2 =>
  Do (aFieldAddr 4 3 t1) fun t7 =>
  Do (loadA true 3 t7 σ_2) fun t8 =>
  Do (aPureC Go.Proofs.Try.prog 48 [t8]) fun t9 =>
  Do (aFieldAddr 4 3 t1) fun t10 =>
  storeA 3 t10 t9 σ_2 fun u_1 σ_3 =>
  Do (loadA true 7 t1 σ_3) fun t11 =>
  storeA 7 t2 t11 σ_3 fun u_2 σ_4 =>
  Do (loadA true 7 t2 σ_4) fun r2 => Q (.ret r2) σ_4
theorem law12_point.eq (a0 : AV) (σ : Store) (Q : AEnd → Store → Prop) : vc (semOf Go.Proofs.Try.prog law12_point.mark) Go.Proofs.Try.f22.ntmps law12_point.ann (bodyOf Go.Proofs.Try.f22) (endK [.cell 2 true 7] Q) (argFr [a0]) σ = law12_point.sh a0 σ Q := by kernel_rfl
theorem law12_point.go {a0 : AV} {σ : Store} {Q : AEnd → Store → Prop} (h : law12_point.sh a0 σ Q) : ACalls Go.Proofs.Try.prog 22 [a0] σ Q :=
  acalls_of_eq [.cell 2 true 7] Go.Proofs.Try.func22 (by kernel_rfl) (by kernel_rfl) (by kernel_rfl) (by kernel_rfl) (law12_point.eq a0 σ Q) h
def law12_span.mark : Mark := ⟨fun t => false, fun t => Nat.beq t 7 || Nat.beq t 30, fun t => Nat.beq t 1, fun t => Nat.beq t 6 || Nat.beq t 9 || Nat.beq t 11 || Nat.beq t 19 || Nat.beq t 32 || Nat.beq t 35 || Nat.beq t 37 || Nat.beq t 40, fun t => false⟩
def law12_span.ann : Ann := ⟨fun n => bif Nat.beq n 3 then [1, 2, 3, 4] else [], fun n => none, fun n => bif Nat.beq n 1 then some [1, 2, 3] else bif Nat.beq n 5 then some [1, 2, 3, 4] else none⟩
/-- 'marlstone/marlstonelaw12.span' -/
def law12_span.sh (a0 : AV) (σ : Store) (Q : AEnd → Store → Prop) : Prop :=
  Do (aFreeze ((a0 : AV)).cells) fun t1 =>
  aNewVar 39 [.val (.int .i64 0), .val (.slice none 0 0), .val (.slice none 0 0)] σ fun t2 σ =>
  aJoin (fun j =>
    Do (aFieldAddr 0 1 t1) fun t5 =>
    Do (loadF false 1 t5) fun t6 =>
    Do (aFieldAddr 2 1 t1) fun t8 =>
    Do (loadF false 1 t8) fun t9 =>
    Do (aFieldAddr 2 1 t1) fun t10 =>
    Do (loadF false 1 t10) fun t11 =>
    Do (aBuiltin Go.Proofs.Try.prog .len #[28] [t11]) fun t12 =>
    Do (aBuiltin Go.Proofs.Try.prog .min #[3, 3] [t12, (.val (.int .i64 40))]) fun t13 =>
    Do (aSlice .slice 32 t9 none (some t13) none) fun t14 =>
    Both (aRowL 46 (mkE [.val (.int .u8 0), .val (.int .u8 0), .val (.int .u8 0), .val (.int .u8 0), .val (.int .u8 0), .val (.int .u8 0), .val (.int .u8 0), .val (.int .u8 0), .val (.int .u8 0), .val (.int .u8 0), .val (.int .u8 0), .val (.int .u8 0), .val (.int .u8 0), .val (.int .u8 0), .val (.int .u8 0), .val (.int .u8 0), .val (.int .u8 0), .val (.int .u8 0), .val (.int .u8 0), .val (.int .u8 0), .val (.int .u8 0), .val (.int .u8 0), .val (.int .u8 0), .val (.int .u8 0), .val (.int .u8 0), .val (.int .u8 0), .val (.int .u8 0), .val (.int .u8 0), .val (.int .u8 0), .val (.int .u8 0), .val (.int .u8 0), .val (.int .u8 0)]) 32 0 [] σ fun t7 σ_2 =>
    Both (aAppend 46 32 32 t7 t14 σ_2 (subF fun t15 σ_3 =>
    Do (aLit [.val (.int .i64 0), .val (.slice none 0 0), .val (.slice none 0 0)] [(0, 1), (1, 1), (2, 1)] [(0, t6), (2, t15)]) fun t16 =>
    aNewVar 39 [.val (.int .i64 0), .val (.slice none 0 0), .val (.slice none 0 0)] σ_3 fun t3 σ_4 =>
    storeA 3 t3 t16 σ_4 fun u σ_5 =>
    j [t1, t2, t3] σ_5)) (aNewVar 39 [.val (.int .i64 0), .val (.slice none 0 0), .val (.slice none 0 0)] σ_2 fun t3_1 σ_6 =>
    aAppend 46 32 32 t7 t14 σ_6 (subF fun t15_1 σ_7 =>
    Do (aLit [.val (.int .i64 0), .val (.slice none 0 0), .val (.slice none 0 0)] [(0, 1), (1, 1), (2, 1)] [(0, t6), (2, t15_1)]) fun t16_1 =>
    storeA 3 t3_1 t16_1 σ_7 fun u_1 σ_8 =>
    j [t1, t2, t3_1] σ_8))) (aNewVar 39 [.val (.int .i64 0), .val (.slice none 0 0), .val (.slice none 0 0)] σ fun t3_2 σ_9 =>
    aRowL 46 (mkE [.val (.int .u8 0), .val (.int .u8 0), .val (.int .u8 0), .val (.int .u8 0), .val (.int .u8 0), .val (.int .u8 0), .val (.int .u8 0), .val (.int .u8 0), .val (.int .u8 0), .val (.int .u8 0), .val (.int .u8 0), .val (.int .u8 0), .val (.int .u8 0), .val (.int .u8 0), .val (.int .u8 0), .val (.int .u8 0), .val (.int .u8 0), .val (.int .u8 0), .val (.int .u8 0), .val (.int .u8 0), .val (.int .u8 0), .val (.int .u8 0), .val (.int .u8 0), .val (.int .u8 0), .val (.int .u8 0), .val (.int .u8 0), .val (.int .u8 0), .val (.int .u8 0), .val (.int .u8 0), .val (.int .u8 0), .val (.int .u8 0), .val (.int .u8 0)]) 32 0 [] σ_9 fun t7_1 σ_10 =>
    aAppend 46 32 32 t7_1 t14 σ_10 (subF fun t15_2 σ_11 =>
    Do (aLit [.val (.int .i64 0), .val (.slice none 0 0), .val (.slice none 0 0)] [(0, 1), (1, 1), (2, 1)] [(0, t6), (2, t15_2)]) fun t16_2 =>
    storeA 3 t3_2 t16_2 σ_11 fun u_2 σ_12 =>
    j [t1, t2, t3_2] σ_12))) fun vs σ_1 =>
  At vs 0 fun s1 => At vs 1 fun s2 => At vs 2 fun s3 => aLoop (fun go vs_1 σ_13 =>
    At vs_1 0 fun s1_1 => At vs_1 1 fun s2_1 => At vs_1 2 fun s3_1 => At vs_1 3 fun s4 => Do (aFieldAddr 1 1 s1_1) fun t18 =>
    Do (loadF false 1 t18) fun t19 =>
    Do (aBuiltin Go.Proofs.Try.prog .len #[37] [t19]) fun t20 =>
    Do (aBin Go.Proofs.Try.prog .lss 3 s4 t20) fun t21 =>
    Do (aGuard t21 true (aIs s4)) fun t23 =>
    Do (aGuard t21 true (aBin Go.Proofs.Try.prog .lss 3 t23 (.val (.int .i64 70)))) fun t24 =>
    Do (aPick t21 t24 (.val (.bool false))) fun t25 =>
    aCond t25
      (aJoin (fun j_1 =>
      Do (aFieldAddr 1 1 s3_1) fun t28 =>
      Do (aFieldAddr 1 1 s1_1) fun t31 =>
      Do (loadF false 1 t31) fun t32 =>
      Do (aIndexAddr .slice 1 t32 s4) fun t34 =>
      Do (loadF false 1 t34) fun t35 =>
      Do (aFieldAddr 1 1 s1_1) fun t36 =>
      Do (loadF false 1 t36) fun t37 =>
      Do (aIndexAddr .slice 1 t37 s4) fun t39 =>
      Do (loadF false 1 t39) fun t40 =>
      Do (aBuiltin Go.Proofs.Try.prog .len #[27] [t40]) fun t41 =>
      Do (aBuiltin Go.Proofs.Try.prog .min #[3, 3] [t41, (.val (.int .i64 1300))]) fun t42 =>
      Do (aSlice .slice 1 t35 none (some t42) none) fun t43 =>
      Both (Do (loadA false 1 t28 σ_13) fun t29 =>
      aRowL 5 (mkE [.val (.int .u8 0)]) 1 0 [] σ_13 fun t30 σ_15 =>
      aAppend 5 1 1 t30 t43 σ_15 (subF fun t44 σ_16 =>
      Do (aSlLit (mkE [.val (.slice none 0 0)]) 1 1 [(0, t44)]) fun t45 =>
      aAppend 27 1 24 t29 t45 σ_16 (subK fun t46 σ_17 =>
      Do (aFieldAddr 1 1 s3_1) fun t47 =>
      storeA 1 t47 t46 σ_17 fun u_3 σ_18 =>
      j_1 [s1_1, s2_1, s3_1, s4] σ_18))) (aRowL 5 (mkE [.val (.int .u8 0)]) 1 0 [] σ_13 fun t30_1 σ_19 =>
      Both (Do (loadA false 1 t28 σ_19) fun t29_1 =>
      aAppend 5 1 1 t30_1 t43 σ_19 (subF fun t44_1 σ_20 =>
      Do (aSlLit (mkE [.val (.slice none 0 0)]) 1 1 [(0, t44_1)]) fun t45_1 =>
      aAppend 27 1 24 t29_1 t45_1 σ_20 (subK fun t46_1 σ_21 =>
      Do (aFieldAddr 1 1 s3_1) fun t47_1 =>
      storeA 1 t47_1 t46_1 σ_21 fun u_4 σ_22 =>
      j_1 [s1_1, s2_1, s3_1, s4] σ_22))) (aAppend 5 1 1 t30_1 t43 σ_19 (subF fun t44_2 σ_23 =>
      Do (loadA false 1 t28 σ_23) fun t29_2 =>
      Do (aSlLit (mkE [.val (.slice none 0 0)]) 1 1 [(0, t44_2)]) fun t45_2 =>
      aAppend 27 1 24 t29_2 t45_2 σ_23 (subK fun t46_2 σ_24 =>
      Do (aFieldAddr 1 1 s3_1) fun t47_2 =>
      storeA 1 t47_2 t46_2 σ_24 fun u_5 σ_25 =>
      j_1 [s1_1, s2_1, s3_1, s4] σ_25))))) fun vs_2 σ_14 =>
    At vs_2 0 fun s1_2 => At vs_2 1 fun s2_2 => At vs_2 2 fun s3_2 => At vs_2 3 fun s4_1 => Do (aBin Go.Proofs.Try.prog .add 3 s4_1 (.val (.int .i64 1))) fun t27 =>
    go [s1_2, s2_2, s3_2, t27] σ_14)
      (Do (loadA true 3 s3_1 σ_13) fun t48 =>
  storeA 3 s2_1 t48 σ_13 fun u_6 σ_26 =>
  Do (loadA true 3 s2_1 σ_26) fun r2 => Q (.ret r2) σ_26))
    [s1, s2, s3, (.val (.int .i64 0))] σ_1
theorem law12_span.eq (a0 : AV) (σ : Store) (Q : AEnd → Store → Prop) : vc (semOf Go.Proofs.Try.prog law12_span.mark) Go.Proofs.Try.f25.ntmps law12_span.ann (bodyOf Go.Proofs.Try.f25) (endK [.cell 2 true 3] Q) (argFr [a0]) σ = law12_span.sh a0 σ Q := by kernel_rfl
theorem law12_span.go {a0 : AV} {σ : Store} {Q : AEnd → Store → Prop} (h : law12_span.sh a0 σ Q) : ACalls Go.Proofs.Try.prog 25 [a0] σ Q :=
  acalls_of_eq [.cell 2 true 3] Go.Proofs.Try.func25 (by kernel_rfl) (by kernel_rfl) (by kernel_rfl) (by kernel_rfl) (law12_span.eq a0 σ Q) h
theorem opening12_ok (x : Opn) : aPure Go.Proofs.Try.prog 48 [.agg (opCs x)] (.agg (opCs (cutO x))) := by
  refine ACalls.fin (law12_opening.go ?_)
  unfold law12_opening.sh
  have e1 : ([] ++ x.2.1.take (min x.2.1.length 1300)) = x.2.1.take 1300 := by rw [List.nil_append, take_minN]
  have e2 : ([] ++ x.2.2.take (min x.2.2.length 20)) = x.2.2.take 20 := by rw [List.nil_append, take_minN]
  repeat' (first | with_reducible apply Stp.go | with_reducible refine imp fun _ => ?_ | (with_reducible refine hyp ?_ ?_; first | assumption | exact leftT_mem (by assumption)) | (with_reducible refine need ?_ ?_; first | trivial | omega | exact ⟨by assumption, by omega⟩ | (simp only [List.length_append, List.length_cons, List.length_nil, List.length_map, List.length_take, List.length_drop, List.length_replicate, List.length_set]; omega)) | (with_reducible refine fact ?_ ?_; first | trivial | exact ⟨rfl, rfl⟩ | kernel_rfl) | with_reducible refine choT (by assumption) ?_ | with_reducible refine choF (by assumption) ?_ | with_reducible refine choF' (by assumption) ?_ | (with_reducible refine altT ?_ ?_; first | omega | (simp only [List.length_append, List.length_cons, List.length_nil, List.length_map, List.length_take, List.length_drop, List.length_replicate, List.length_set]; omega)) | with_reducible refine altF ?_ | with_reducible refine all fun _ => ?_ | with_reducible refine both ?_ ?_ | (with_reducible refine choT ?_ ?_; omega) | (with_reducible refine choF ?_ ?_; omega) | with_reducible refine cho (fun _ => ?_) (fun _ => ?_))
  rw [e1, e2]
  rename_i w1 _ w2
  refine ⟨_, _, _, rfl, Sub.aggHead (us1 := opCs (cutO x)) (Sub.trans (Sub.freeze0 (args' := [I .i64 x.1, .own w1 (x.2.1.take 1300).length, .lst 32 ((x.2.2.take 20).map dgF) .ro]) ⟨.inl rfl, .inl rfl, .inr ⟨⟨_, rfl⟩, rfl⟩, trivial⟩) (Sub.trans (Sub.freeze0 (args' := opCs (cutO x)) ⟨.inl rfl, .inr ⟨⟨_, rfl⟩, rfl⟩, .inl rfl, trivial⟩) (Sub.app_nil _))), rfl, rfl⟩
instance {x : Opn} : PC Go.Proofs.Try.prog 48 [.agg (opCs x)] True (.agg (opCs (cutO x))) := ⟨fun _ => PC.of (opening12_ok x)⟩
theorem point12_ok (bt : Bool) (x y : Opn) : aPure Go.Proofs.Try.prog 22 [ptA bt x y] (ptA bt (cutO x) (cutO y)) := by
  refine ACalls.fin (law12_point.go ?_)
  unfold law12_point.sh
  repeat' (first | with_reducible apply Stp.go | with_reducible refine imp fun _ => ?_ | (with_reducible refine hyp ?_ ?_; first | assumption | exact leftT_mem (by assumption)) | (with_reducible refine need ?_ ?_; first | trivial | omega | exact ⟨by assumption, by omega⟩ | (simp only [List.length_append, List.length_cons, List.length_nil, List.length_map, List.length_take, List.length_drop, List.length_replicate, List.length_set]; omega)) | (with_reducible refine fact ?_ ?_; first | trivial | exact ⟨rfl, rfl⟩ | kernel_rfl) | with_reducible refine choT (by assumption) ?_ | with_reducible refine choF (by assumption) ?_ | with_reducible refine choF' (by assumption) ?_ | (with_reducible refine altT ?_ ?_; first | omega | (simp only [List.length_append, List.length_cons, List.length_nil, List.length_map, List.length_take, List.length_drop, List.length_replicate, List.length_set]; omega)) | with_reducible refine altF ?_ | with_reducible refine all fun _ => ?_ | with_reducible refine both ?_ ?_ | (with_reducible refine choT ?_ ?_; omega) | (with_reducible refine choF ?_ ?_; omega) | with_reducible refine cho (fun _ => ?_) (fun _ => ?_))
  exact ⟨_, _, _, rfl, Sub.app_nil _, rfl, rfl⟩
theorem span12_ok (p : Int) (L : List (List UInt8)) (path : List D32) : aPure Go.Proofs.Try.prog 25 [spA p L path] (spF (cutS (p, L, path))) := by
  refine ACalls.fin (law12_span.go ?_)
  unfold law12_span.sh
  have e2 : ([] ++ path.take (min path.length 40)) = path.take 40 := by rw [List.nil_append, take_minN]
  repeat' (first | with_reducible apply Stp.go | with_reducible refine imp fun _ => ?_ | (with_reducible refine hyp ?_ ?_; first | assumption | exact leftT_mem (by assumption)) | (with_reducible refine need ?_ ?_; first | trivial | omega | exact ⟨by assumption, by omega⟩ | (simp only [List.length_append, List.length_cons, List.length_nil, List.length_map, List.length_take, List.length_drop, List.length_replicate, List.length_set]; omega)) | (with_reducible refine fact ?_ ?_; first | trivial | exact ⟨rfl, rfl⟩ | kernel_rfl) | with_reducible refine choT (by assumption) ?_ | with_reducible refine choF (by assumption) ?_ | with_reducible refine choF' (by assumption) ?_ | (with_reducible refine altT ?_ ?_; first | omega | (simp only [List.length_append, List.length_cons, List.length_nil, List.length_map, List.length_take, List.length_drop, List.length_replicate, List.length_set]; omega)) | with_reducible refine altF ?_ | with_reducible refine all fun _ => ?_ | with_reducible refine both ?_ ?_ | (with_reducible refine choT ?_ ?_; omega) | (with_reducible refine choF ?_ ?_; omega) | with_reducible refine cho (fun _ => ?_) (fun _ => ?_))
  rename_i vr
  refine joinI (β := Nat) (fun _ => True) (fun x => [.rptr [I .i64 p, .lst 1 (L.map bl) .ro, .lst 32 (path.map dgF) .ro], ptrAt vr 0, ptrAt x 0]) (fun x => [.var x 39 [I .i64 p, .val (.slice none 0 0), .lst 32 ((path.take 40).map dgF) .ro], .var vr 39 [I .i64 0, .val (.slice none 0 0), .val (.slice none 0 0)]]) ?_ ?_
  · repeat' (first | with_reducible apply Stp.go | with_reducible refine imp fun _ => ?_ | (with_reducible refine hyp ?_ ?_; first | assumption | exact leftT_mem (by assumption)) | (with_reducible refine need ?_ ?_; first | trivial | omega | exact ⟨by assumption, by omega⟩ | (simp only [List.length_append, List.length_cons, List.length_nil, List.length_map, List.length_take, List.length_drop, List.length_replicate, List.length_set]; omega)) | (with_reducible refine fact ?_ ?_; first | trivial | exact ⟨rfl, rfl⟩ | kernel_rfl) | with_reducible refine choT (by assumption) ?_ | with_reducible refine choF (by assumption) ?_ | with_reducible refine choF' (by assumption) ?_ | (with_reducible refine altT ?_ ?_; first | omega | (simp only [List.length_append, List.length_cons, List.length_nil, List.length_map, List.length_take, List.length_drop, List.length_replicate, List.length_set]; omega)) | with_reducible refine altF ?_ | with_reducible refine all fun _ => ?_ | with_reducible refine both ?_ ?_ | (with_reducible refine choT ?_ ?_; omega) | (with_reducible refine choF ?_ ?_; omega) | with_reducible refine cho (fun _ => ?_) (fun _ => ?_))
    all_goals
      rw [e2]
      first
      | (rename_i vs v; exact meet vs trivial (subS _))
      | (rename_i v vs; exact meet vs trivial (subS _))
      | (rename_i vs; exact meet vs trivial (subS _))
      | trace_state
  · intro vs _
    dsimp only
    repeat' (first | with_reducible apply Stp.go | with_reducible refine imp fun _ => ?_ | (with_reducible refine hyp ?_ ?_; first | assumption | exact leftT_mem (by assumption)) | (with_reducible refine need ?_ ?_; first | trivial | omega | exact ⟨by assumption, by omega⟩ | (simp only [List.length_append, List.length_cons, List.length_nil, List.length_map, List.length_take, List.length_drop, List.length_replicate, List.length_set]; omega)) | (with_reducible refine fact ?_ ?_; first | trivial | exact ⟨rfl, rfl⟩ | kernel_rfl) | with_reducible refine choT (by assumption) ?_ | with_reducible refine choF (by assumption) ?_ | with_reducible refine choF' (by assumption) ?_ | (with_reducible refine altT ?_ ?_; first | omega | (simp only [List.length_append, List.length_cons, List.length_nil, List.length_map, List.length_take, List.length_drop, List.length_replicate, List.length_set]; omega)) | with_reducible refine altF ?_ | with_reducible refine all fun _ => ?_ | with_reducible refine both ?_ ?_ | (with_reducible refine choT ?_ ?_; omega) | (with_reducible refine choF ?_ ?_; omega) | with_reducible refine cho (fun _ => ?_) (fun _ => ?_))
    refine loopI (β := Nat × Value) (fun x => x.1 ≤ L.length ∧ x.1 ≤ 70) (fun x => [.rptr [I .i64 p, .lst 1 (L.map bl) .ro, .lst 32 (path.map dgF) .ro], ptrAt vr 0, ptrAt vs 0, I .i64 (x.1 : Nat)])
      (fun x => [.var vs 39 [I .i64 p, .own x.2 ((L.take x.1).map (·.take 1300)).length, .lst 32 ((path.take 40).map dgF) .ro], .row x.2 LfT 1 (((L.take x.1).map (·.take 1300)).map bl) 0, .var vr 39 [I .i64 0, .val (.slice none 0 0), .val (.slice none 0 0)]]) (fun x => 70 - x.1) (0, .slice none 0 0) ⟨Nat.zero_le _, Nat.zero_le _⟩ (Sub.nilIn (pre := [_]) LfT (sz := 1) (by decide) _) ?_
    rintro ⟨i, v⟩ ⟨i1, i2⟩
    dsimp only at i1 i2 ⊢
    have hk : ((L.take i).map (·.take 1300)).length ≤ 70 := by simp; omega
    by_cases hlt : i < L.length ∧ i < 70
    · obtain ⟨j1, j2⟩ := hlt
      have e1 : ([] ++ (L.getD i default).take (min (L.getD i default).length 1300)) = (L.getD i default).take 1300 := by rw [List.nil_append, take_minN]
      have e0 : (L.take (i + 1)).map (·.take 1300) = (L.take i).map (·.take 1300) ++ [(L.getD i default).take 1300] := by rw [take_succ_d j1, List.map_append]; rfl
      have hb0 : ((L.getD i default).take (min (L.getD i default).length 1300)).length ≤ 1300 := by rw [List.length_take]; omega
      repeat' (first | with_reducible apply Stp.go | with_reducible refine imp fun _ => ?_ | (with_reducible refine hyp ?_ ?_; first | assumption | exact leftT_mem (by assumption)) | (with_reducible refine need ?_ ?_; first | trivial | omega | exact ⟨by assumption, by omega⟩ | (simp only [List.length_append, List.length_cons, List.length_nil, List.length_map, List.length_take, List.length_drop, List.length_replicate, List.length_set]; omega)) | (with_reducible refine fact ?_ ?_; first | trivial | exact ⟨rfl, rfl⟩ | kernel_rfl) | with_reducible refine choT (by assumption) ?_ | with_reducible refine choF (by assumption) ?_ | with_reducible refine choF' (by assumption) ?_ | (with_reducible refine altT ?_ ?_; first | omega | (simp only [List.length_append, List.length_cons, List.length_nil, List.length_map, List.length_take, List.length_drop, List.length_replicate, List.length_set]; omega)) | with_reducible refine altF ?_ | with_reducible refine all fun _ => ?_ | with_reducible refine both ?_ ?_ | (with_reducible refine choT ?_ ?_; omega) | (with_reducible refine choF ?_ ?_; omega) | with_reducible refine cho (fun _ => ?_) (fun _ => ?_))
      refine joinE ?_
      repeat' (first | with_reducible apply Stp.go | with_reducible refine imp fun _ => ?_ | (with_reducible refine hyp ?_ ?_; first | assumption | exact leftT_mem (by assumption)) | (with_reducible refine need ?_ ?_; first | trivial | omega | exact ⟨by assumption, by omega⟩ | (simp only [List.length_append, List.length_cons, List.length_nil, List.length_map, List.length_take, List.length_drop, List.length_replicate, List.length_set]; omega)) | (with_reducible refine fact ?_ ?_; first | trivial | exact ⟨rfl, rfl⟩ | kernel_rfl) | with_reducible refine choT (by assumption) ?_ | with_reducible refine choF (by assumption) ?_ | with_reducible refine choF' (by assumption) ?_ | (with_reducible refine altT ?_ ?_; first | omega | (simp only [List.length_append, List.length_cons, List.length_nil, List.length_map, List.length_take, List.length_drop, List.length_replicate, List.length_set]; omega)) | with_reducible refine altF ?_ | with_reducible refine all fun _ => ?_ | with_reducible refine both ?_ ?_ | (with_reducible refine choT ?_ ?_; omega) | (with_reducible refine choF ?_ ?_; omega) | with_reducible refine cho (fun _ => ?_) (fun _ => ?_))
      all_goals
        rw [e1]
        rename_i w
        refine again (i + 1, w) (by dsimp only; omega) ⟨by dsimp only; omega, by dsimp only; omega⟩ ?_
        dsimp only
        rw [e0]
        exact subS _
    · have e1 : (L.take i).map (·.take 1300) = (L.take 70).map (·.take 1300) := by
        by_cases h : i = 70
        · rw [h]
        · have : i = L.length := by omega
          rw [this, List.take_length, List.take_of_length_le (by omega)]
      rw [e1] at hk ⊢
      repeat' (first | with_reducible apply Stp.go | with_reducible refine imp fun _ => ?_ | (with_reducible refine hyp ?_ ?_; first | assumption | exact leftT_mem (by assumption)) | (with_reducible refine need ?_ ?_; first | trivial | omega | exact ⟨by assumption, by omega⟩ | (simp only [List.length_append, List.length_cons, List.length_nil, List.length_map, List.length_take, List.length_drop, List.length_replicate, List.length_set]; omega)) | (with_reducible refine fact ?_ ?_; first | trivial | exact ⟨rfl, rfl⟩ | kernel_rfl) | with_reducible refine choT (by assumption) ?_ | with_reducible refine choF (by assumption) ?_ | with_reducible refine choF' (by assumption) ?_ | (with_reducible refine altT ?_ ?_; first | omega | (simp only [List.length_append, List.length_cons, List.length_nil, List.length_map, List.length_take, List.length_drop, List.length_replicate, List.length_set]; omega)) | with_reducible refine altF ?_ | with_reducible refine all fun _ => ?_ | with_reducible refine both ?_ ?_ | (with_reducible refine choT ?_ ?_; omega) | (with_reducible refine choF ?_ ?_; omega) | with_reducible refine cho (fun _ => ?_) (fun _ => ?_))
      all_goals first
        | (exfalso; omega)
        | skip
      all_goals
        refine ⟨_, _, _, rfl, Sub.trans (Sub.aggHead (us1 := [I .i64 p, .lst 1 (((L.take 70).map (·.take 1300)).map bl) .ro, .lst 32 ((path.take 40).map dgF) .ro]) (Sub.frz (v := v) ?_)) (Sub.app_nil _), rfl, rfl⟩
        exact ⟨.inl rfl, .inr ⟨⟨_, rfl⟩, rfl⟩, .inl rfl, trivial⟩
end Go.Ab

/- Layer 12: few entries; those that are right, folded. -/
set_option linter.unusedVariables false
set_option linter.unusedSimpArgs false
namespace Go.Ab
def law12_few.mark : Mark := ⟨fun t => false, fun t => false, fun t => false, fun t => Nat.beq t 22, fun t => false⟩
def law12_few.ann : Ann := ⟨fun n => bif Nat.beq n 3 then [0, 1, 5, 6] else [], fun n => none, fun n => none⟩
def law12_fit.mark : Mark := ⟨fun t => Nat.beq t 7 || Nat.beq t 8 || Nat.beq t 24, fun t => false, fun t => false, fun t => Nat.beq t 23 || Nat.beq t 29, fun t => false⟩
def law12_fit.ann : Ann := ⟨fun n => bif Nat.beq n 4 then [3, 4, 5] else [], fun n => none, fun n => none⟩
end Go.Ab

/- Layer 12: what is shown in any case; SeekOther. -/
set_option linter.unusedVariables false
set_option linter.unusedSimpArgs false
namespace Go.Ab
def law12_shown.mark : Mark := ⟨fun t => Nat.beq t 21 || Nat.beq t 27 || Nat.beq t 33 || Nat.beq t 39 || Nat.beq t 46, fun t => false, fun t => false, fun t => false, fun t => false⟩
def law12_shown.ann : Ann := ⟨fun n => [], fun n => none, fun n => none⟩
/-- 'marlstone/marlstonelaw12.shown' -/
def law12_shown.sh (σ : Store) (Q : AEnd → Store → Prop) : Prop :=
  Do (aLit [.val (.int .i64 0)] [(0, 1)] [(0, (.val (.int .i64 256)))]) fun t14 =>
  aNewVar 26 [.val (.int .i64 0)] σ fun t1 σ =>
  storeA 1 t1 t14 σ fun u σ_1 =>
  Do (aLit [.val (.string ⟨#[]⟩), .val (.string ⟨#[]⟩), .val (.bool false), .val (.int .i64 0)] [(0, 1), (1, 1), (2, 1), (3, 1)] [(0, (.val (.string ⟨#[97]⟩))), (3, (.val (.int .i64 1)))]) fun t15 =>
  Do (aLit [.val (.string ⟨#[]⟩), .val (.string ⟨#[]⟩), .val (.bool false), .val (.int .i64 0)] [(0, 1), (1, 1), (2, 1), (3, 1)] [(0, (.val (.string ⟨#[99]⟩))), (3, (.val (.int .i64 2)))]) fun t16 =>
  Do (aSlLit (mkE [.val (.string ⟨#[]⟩), .val (.string ⟨#[]⟩), .val (.bool false), .val (.int .i64 0)]) 4 2 [(0, t15), (1, t16)]) fun t17 =>
  Do (loadA true 1 t1 σ_1) fun t19 =>
  Do (aPureC Go.Proofs.Try.prog 12 [t19, t17, (.val (.string ⟨#[98]⟩))]) fun t21 =>
  Do (aExt t21 0) fun t22 =>
  Do (aExt t21 1) fun t23 =>
  aNewVar 32 [.val (.bool false), .val (.int .i64 0), .val (.slice none 0 0), .val (.slice none 0 0), .val (.int .i64 0), .val (.slice none 0 0), .val (.slice none 0 0)] σ_1 fun t3 σ_2 =>
  storeA 7 t3 t22 σ_2 fun u_1 σ_3 =>
  Do (loadA true 1 t1 σ_3) fun t25 =>
  Do (aPureC Go.Proofs.Try.prog 12 [t25, t17, (.val (.string ⟨#[99]⟩))]) fun t27 =>
  Do (aExt t27 0) fun t28 =>
  Do (aExt t27 1) fun t29 =>
  aNewVar 32 [.val (.bool false), .val (.int .i64 0), .val (.slice none 0 0), .val (.slice none 0 0), .val (.int .i64 0), .val (.slice none 0 0), .val (.slice none 0 0)] σ_3 fun t5 σ_4 =>
  storeA 7 t5 t28 σ_4 fun u_2 σ_5 =>
  Do (loadA true 1 t1 σ_5) fun t31 =>
  Do (aPureC Go.Proofs.Try.prog 12 [t31, t17, (.val (.string ⟨#[100]⟩))]) fun t33 =>
  Do (aExt t33 0) fun t34 =>
  Do (aExt t33 1) fun t35 =>
  aNewVar 32 [.val (.bool false), .val (.int .i64 0), .val (.slice none 0 0), .val (.slice none 0 0), .val (.int .i64 0), .val (.slice none 0 0), .val (.slice none 0 0)] σ_5 fun t7 σ_6 =>
  storeA 7 t7 t34 σ_6 fun u_3 σ_7 =>
  Do (loadA true 1 t1 σ_7) fun t37 =>
  Do (aPureC Go.Proofs.Try.prog 30 [t37, (.val (.int .i64 0)), t17]) fun t39 =>
  Do (aExt t39 0) fun t40 =>
  Do (aExt t39 1) fun t41 =>
  aNewVar 48 [.val (.int .i64 0), .val (.int .i64 0), .val (.int .u8 0), .val (.int .u8 0), .val (.int .u8 0), .val (.int .u8 0), .val (.int .u8 0), .val (.int .u8 0), .val (.int .u8 0), .val (.int .u8 0), .val (.int .u8 0), .val (.int .u8 0), .val (.int .u8 0), .val (.int .u8 0), .val (.int .u8 0), .val (.int .u8 0), .val (.int .u8 0), .val (.int .u8 0), .val (.int .u8 0), .val (.int .u8 0), .val (.int .u8 0), .val (.int .u8 0), .val (.int .u8 0), .val (.int .u8 0), .val (.int .u8 0), .val (.int .u8 0), .val (.int .u8 0), .val (.int .u8 0), .val (.int .u8 0), .val (.int .u8 0), .val (.int .u8 0), .val (.int .u8 0), .val (.int .u8 0), .val (.int .u8 0), .val (.string ⟨#[]⟩), .val (.string ⟨#[]⟩)] σ_7 fun t9 σ_8 =>
  storeA 36 t9 t40 σ_8 fun u_4 σ_9 =>
  Do (loadA true 1 t1 σ_9) fun t43 =>
  Do (loadA true 36 t9 σ_9) fun t44 =>
  Do (loadA true 7 t5 σ_9) fun t45 =>
  Do (aPureC Go.Proofs.Try.prog 23 [t43, t44, (.val (.string ⟨#[99]⟩)), t45]) fun t46 =>
  Do (aExt t46 0) fun t47 =>
  Do (aExt t46 1) fun t48 =>
  Do (aExt t46 2) fun t49 =>
  aNewVar 54 [.val (.string ⟨#[]⟩), .val (.string ⟨#[]⟩), .val (.bool false), .val (.int .i64 0)] σ_9 fun t11 σ_10 =>
  storeA 4 t11 t47 σ_10 fun u_5 σ_11 =>
  Do (aFieldAddr 0 1 t3) fun t50 =>
  Do (loadA false 1 t50 σ_11) fun t51 =>
  Do (aGuard t51 true (aFieldAddr 1 3 t3)) fun t53 =>
  Do (aGuard t51 true (aFieldAddr 0 1 t53)) fun t54 =>
  Do (aGuard t51 true (loadA false 1 t54 σ_11)) fun t55 =>
  Do (aGuard t51 true (aBin Go.Proofs.Try.prog .eql 3 t55 (.val (.int .i64 0)))) fun t56 =>
  Do (aPick t51 t56 (.val (.bool false))) fun t57 =>
  Do (aGuard t57 true (aFieldAddr 4 3 t3)) fun t59 =>
  Do (aGuard t57 true (aFieldAddr 0 1 t59)) fun t60 =>
  Do (aGuard t57 true (loadA false 1 t60 σ_11)) fun t61 =>
  Do (aGuard t57 true (aBin Go.Proofs.Try.prog .eql 3 t61 (.val (.int .i64 1)))) fun t62 =>
  Do (aPick t57 t62 (.val (.bool false))) fun t63 =>
  Do (aGuard t63 true (aIs t23)) fun t65 =>
  Do (aGuard t63 true (aBin Go.Proofs.Try.prog .eql 33 t65 (.val (.int .i64 0)))) fun t66 =>
  Do (aPick t63 t66 (.val (.bool false))) fun t67 =>
  Do (aGuard t67 true (aFieldAddr 0 1 t5)) fun t69 =>
  Do (aGuard t67 true (loadA false 1 t69 σ_11)) fun t70 =>
  Do (aGuard t67 true (aUn Go.Proofs.Try.prog .not t70)) fun t71 =>
  Do (aPick t67 t71 (.val (.bool false))) fun t72 =>
  Do (aGuard t72 true (aFieldAddr 1 3 t5)) fun t74 =>
  Do (aGuard t72 true (aFieldAddr 0 1 t74)) fun t75 =>
  Do (aGuard t72 true (loadA false 1 t75 σ_11)) fun t76 =>
  Do (aGuard t72 true (aBin Go.Proofs.Try.prog .eql 3 t76 (.val (.int .i64 1)))) fun t77 =>
  Do (aPick t72 t77 (.val (.bool false))) fun t78 =>
  Do (aGuard t78 true (aIs t29)) fun t80 =>
  Do (aGuard t78 true (aBin Go.Proofs.Try.prog .eql 33 t80 (.val (.int .i64 0)))) fun t81 =>
  Do (aPick t78 t81 (.val (.bool false))) fun t82 =>
  Do (aGuard t82 true (aIs t35)) fun t84 =>
  Do (aGuard t82 true (aBin Go.Proofs.Try.prog .eql 33 t84 (.val (.int .i64 5)))) fun t85 =>
  Do (aPick t82 t85 (.val (.bool false))) fun t86 =>
  Do (aGuard t86 true (aIs t48)) fun t88 =>
  Do (aPick t86 t88 (.val (.bool false))) fun t89 =>
  Do (aGuard t89 true (aFieldAddr 3 1 t11)) fun t91 =>
  Do (aGuard t89 true (loadA false 1 t91 σ_11)) fun t92 =>
  Do (aGuard t89 true (aBin Go.Proofs.Try.prog .eql 3 t92 (.val (.int .i64 2)))) fun t93 =>
  Do (aPick t89 t93 (.val (.bool false))) fun t94 =>
  Do (aGuard t94 true (aIs t49)) fun t96 =>
  Do (aGuard t94 true (aBin Go.Proofs.Try.prog .eql 33 t96 (.val (.int .i64 0)))) fun t97 =>
  Do (aPick t94 t97 (.val (.bool false))) fun t98 =>
  Q (.ret t98) σ_11
theorem law12_shown.eq (σ : Store) (Q : AEnd → Store → Prop) : vc (semOf Go.Proofs.Try.prog law12_shown.mark) Go.Proofs.Try.f10.ntmps law12_shown.ann (bodyOf Go.Proofs.Try.f10) (endK [.tmp 0] Q) (argFr []) σ = law12_shown.sh  σ Q := by kernel_rfl
theorem law12_shown.go {σ : Store} {Q : AEnd → Store → Prop} (h : law12_shown.sh  σ Q) : ACalls Go.Proofs.Try.prog 10 [] σ Q :=
  acalls_of_eq [.tmp 0] Go.Proofs.Try.func10 (by kernel_rfl) (by kernel_rfl) (by kernel_rfl) (by kernel_rfl) (law12_shown.eq  σ Q) h
def law12_SeekOther.mark : Mark := ⟨fun t => Nat.beq t 22 || Nat.beq t 24 || Nat.beq t 30 || Nat.beq t 37 || Nat.beq t 49 || Nat.beq t 56 || Nat.beq t 62 || Nat.beq t 70, fun t => false, fun t => false, fun t => false, fun t => false⟩
def law12_SeekOther.ann : Ann := ⟨fun n => [], fun n => none, fun n => none⟩
theorem len_enB (l : List En) (i : Nat) : ((l.map enB).getD i default).length ≤ 100000000000000 := by
  by_cases h : i < l.length
  · rw [getD_mapd enB h]
    have := enB_length (l.getD i default)
    omega
  · rw [List.getD_eq_getElem?_getD, List.getElem?_eq_none (by simpa using Nat.le_of_not_lt h)]
    exact Nat.zero_le _
theorem len_opn (b : Int) (l : List En) (i : Nat) : (opnAt b (l.map enB) i).2.1.length ≤ 100000000000000 := len_enB l i
theorem len_opn0 : opn0.2.1.length ≤ 100000000000000 := Nat.zero_le _
/-- A point of a key there is. -/
theorem seekC_is (b : Int) {l : List En} (hf : fit l = true) (k o : List UInt8) (hk : hasK l k = true) (ho : coversB (l.getD 0 default).key (l.getD (l.length - 1) default).key o = true) :
    seekC b (rootF b (l.map enB)) (l.length : Nat) (l.getD 0 default).key (l.getD (l.length - 1) default).key o false (opnAt b (l.map enB) (placeN l k)) opn0 = if k = o then (0, true, l.getD (placeN l k) default) else (8, false, En.zero) := by
  obtain ⟨_, h0, hs, hr⟩ := fit_right hf
  have hri := (sorted_iff l).1 hs
  obtain ⟨g1, g2⟩ := place_lt hri hk
  obtain ⟨g3, g4⟩ := holds_real b hr g1
  unfold seekC opnAt opn0
  dsimp only
  rw [if_pos ⟨g3, ho⟩, if_neg (by decide), g4, g2]
  by_cases h : k = o
  · rw [if_pos ⟨h, rfl, rfl, rfl⟩, if_pos h]
  · rw [if_neg (fun c => h c.1), if_neg h]
section told
variable {a : AV} {m : SM} {b : Int} {l : List En} {x : Int} {lev : Nat} {k o lo hi : List UInt8}
theorem fit_len (hf : fit l = true) : l.length ≤ 64 := (fit_right hf).1
/-- A table of what is fit. -/
theorem desc_fit [h : IsL a En.av 4 l m] (hx : x = (lev : Nat)) (hf : fit l = true) (hv : lev < 4) : PC Go.Proofs.Try.prog 30 [trA b, .val (.int .i64 x), a] True (.tuple [tabA x (l.length : Nat) (rootD b (l.map enB)) (l.getD 0 default).key (l.getD (l.length - 1) default).key, .val (.int .i64 0)]) := ⟨fun _ => by
  subst hx
  have h64 := fit_len hf
  have hd : dFit lev l = true := by unfold dFit; rw [hf, decide_eq_true hv]; rfl
  have := (inferInstance : PC Go.Proofs.Try.prog 30 [trA b, .val (.int .i64 ((lev : Nat) : Int)), a] _ _).ct ⟨by omega, by omega⟩
  unfold dLev dCnt dRoot dFst dLst dErr at this
  simp only [if_pos hd] at this
  exact this⟩
theorem prove_by [h : IsL a En.av 4 l m] {e : Nat} {bt : Bool} {X Y : Opn} (hl : l.length ≤ 1000000) (hp : proveP b l k = (e, bt, X, Y)) : PC Go.Proofs.Try.prog 12 [trA b, a, S k] True (.tuple [ptA bt X Y, I .i64 (e : Nat)]) := ⟨fun _ => by
  have := (inferInstance : PC Go.Proofs.Try.prog 12 [trA b, a, S k] _ _).ct hl
  rw [hp] at this
  exact this⟩
theorem check_by {d f g : List UInt8} [hd : Len32 d] {lv cnt : Int} {bt i : Bool} {X Y : Opn} {e : Nat} {y : En} (hc : cnt ≤ 9223372036854775807) (h1 : X.2.1.length ≤ 100000000000000) (h2 : Y.2.1.length ≤ 100000000000000) (hp : seekC b ⟨d, hd.len⟩ cnt f g k bt X Y = (e, i, y)) : PC Go.Proofs.Try.prog 23 [trA b, tabA lv cnt d f g, S k, ptA bt X Y] True (.tuple [y.av, B i, I .i64 (e : Nat)]) := ⟨fun _ => by
  have := (inferInstance : PC Go.Proofs.Try.prog 23 [trA b, tabA lv cnt d f g, S k, ptA bt X Y] _ _).ct ⟨hc, h1, h2⟩
  rw [hp] at this
  exact this⟩
theorem prove_is (hf : fit l = true) (hk : hasK l k = true) : proveP b l k = (0, false, opnAt b (l.map enB) (placeN l k), opn0) := by rw [proveP, if_pos hf, if_pos hk]
theorem prove_none (hf : fit l = true) (hk : hasK l k = false) (h : placeN l k = 0 ∨ placeN l k = l.length) : proveP b l k = (5, false, opn0, opn0) := by rw [proveP, if_pos hf, if_neg (by rw [hk]; decide), if_pos h]
theorem prove_gap (hf : fit l = true) (hk : hasK l k = false) (h : ¬ (placeN l k = 0 ∨ placeN l k = l.length)) : proveP b l k = (0, true, opnAt b (l.map enB) (placeN l k - 1), opnAt b (l.map enB) (placeN l k)) := by rw [proveP, if_pos hf, if_neg (by rw [hk]; decide), if_neg h]
end told
theorem shown12_ok : aPure Go.Proofs.Try.prog 10 [] (B true) := by
  refine ACalls.fin (law12_shown.go ?_)
  unfold law12_shown.sh
  have hf : fit [⟨[97], [], false, 1⟩, ⟨[99], [], false, 2⟩] = true := by decide
  have iD : ∀ {a : AV} {m : SM} [h : IsL a En.av 4 [⟨[97], [], false, 1⟩, ⟨[99], [], false, 2⟩] m], PC Go.Proofs.Try.prog 30 [trA 256, .val (.int .i64 0), a] True _ := desc_fit (b := 256) (lev := 0) rfl hf (by decide)
  have p1 := prove_gap (b := 256) (k := [98]) hf (by decide) (by decide)
  have p2 := prove_is (b := 256) (k := [99]) hf (by decide)
  have p3 := seekC_is 256 hf [99] [99] (by decide) (by decide)
  rw [show placeN [⟨[97], [], false, 1⟩, ⟨[99], [], false, 2⟩] [98] = 1 by decide] at p1
  rw [show placeN [⟨[97], [], false, 1⟩, ⟨[99], [], false, 2⟩] [99] = 1 by decide] at p2 p3
  rw [if_pos rfl, show ([⟨[97], [], false, 1⟩, ⟨[99], [], false, 2⟩] : List En).getD 1 default = ⟨[99], [], false, 2⟩ from rfl] at p3
  obtain ⟨X0, hX0⟩ : ∃ X, X = opnAt 256 ([⟨[97], [], false, 1⟩, ⟨[99], [], false, 2⟩].map enB) 0 := ⟨_, rfl⟩
  obtain ⟨X1, hX1⟩ : ∃ X, X = opnAt 256 ([⟨[97], [], false, 1⟩, ⟨[99], [], false, 2⟩].map enB) 1 := ⟨_, rfl⟩
  have l1 : X1.2.1.length ≤ 100000000000000 := by rw [hX1]; exact len_opn _ _ _
  have a0 : X0.1 = 0 := by rw [hX0]; rfl
  have a1 : X1.1 = 1 := by rw [hX1]; rfl
  rw [show (1 : Nat) - 1 = 0 from rfl, ← hX0, ← hX1] at p1
  rw [← hX1] at p2 p3
  have i1 : ∀ {a : AV} {m : SM} [h : IsL a En.av 4 [⟨[97], [], false, 1⟩, ⟨[99], [], false, 2⟩] m], PC Go.Proofs.Try.prog 12 [trA 256, a, S [98]] True _ := prove_by (b := 256) (by decide) p1
  have i2 : ∀ {a : AV} {m : SM} [h : IsL a En.av 4 [⟨[97], [], false, 1⟩, ⟨[99], [], false, 2⟩] m], PC Go.Proofs.Try.prog 12 [trA 256, a, S [99]] True _ := prove_by (b := 256) (by decide) p2
  have i3 : ∀ {a : AV} {m : SM} [h : IsL a En.av 4 [⟨[97], [], false, 1⟩, ⟨[99], [], false, 2⟩] m], PC Go.Proofs.Try.prog 12 [trA 256, a, S [100]] True _ := prove_by (b := 256) (by decide) (prove_none hf (by decide) (by decide))
  have iC := check_by (lv := 0) (b := 256) (h1 := l1) (h2 := len_opn0) (by decide) p3
  repeat' (first | with_reducible apply Stp.go | with_reducible refine imp fun _ => ?_ | (with_reducible refine hyp ?_ ?_; first | assumption | exact leftT_mem (by assumption)) | (with_reducible refine need ?_ ?_; first | trivial | omega | exact ⟨by assumption, by omega⟩ | (simp only [List.length_append, List.length_cons, List.length_nil, List.length_map, List.length_take, List.length_drop, List.length_replicate, List.length_set]; omega)) | (with_reducible refine fact ?_ ?_; first | trivial | exact ⟨rfl, rfl⟩ | kernel_rfl) | with_reducible refine choT (by assumption) ?_ | with_reducible refine choF (by assumption) ?_ | with_reducible refine choF' (by assumption) ?_ | (with_reducible refine altT ?_ ?_; first | omega | (simp only [List.length_append, List.length_cons, List.length_nil, List.length_map, List.length_take, List.length_drop, List.length_replicate, List.length_set]; omega)) | with_reducible refine altF ?_ | with_reducible refine all fun _ => ?_ | with_reducible refine both ?_ ?_ | (with_reducible refine choT ?_ ?_; omega) | (with_reducible refine choF ?_ ?_; omega) | with_reducible refine cho (fun _ => ?_) (fun _ => ?_))
  all_goals first
    | exact ⟨_, _, _, rfl, Sub.app_nil _, rfl, rfl⟩
    | contradiction
instance : PC Go.Proofs.Try.prog 10 [] True (B true) := ⟨fun _ => PC.of shown12_ok⟩
end Go.Ab

/- Layer 12: SeekChecks. -/
set_option linter.unusedVariables false
set_option linter.unusedSimpArgs false
namespace Go.Ab
instance {a b c : AV} : Part [a, b, c] 0 3 [a, b, c] := ⟨rfl, Nat.le_refl _, by decide⟩
def law12_SeekChecks.mark : Mark := ⟨fun t => Nat.beq t 30 || Nat.beq t 34 || Nat.beq t 40 || Nat.beq t 49 || Nat.beq t 50 || Nat.beq t 55 || Nat.beq t 62 || Nat.beq t 71 || Nat.beq t 72 || Nat.beq t 77 || Nat.beq t 80 || Nat.beq t 81 || Nat.beq t 84 || Nat.beq t 85, fun t => false, fun t => Nat.beq t 7 || Nat.beq t 10 || Nat.beq t 11, fun t => Nat.beq t 33 || Nat.beq t 37 || Nat.beq t 46 || Nat.beq t 48 || Nat.beq t 54 || Nat.beq t 58 || Nat.beq t 67 || Nat.beq t 70 || Nat.beq t 79 || Nat.beq t 83, fun t => false⟩
def law12_SeekChecks.ann : Ann := ⟨fun n => [], fun n => none, fun n => none⟩
/-- 'marlstone/marlstonelaw12.SeekChecks' -/
def law12_SeekChecks.sh (a0 a1 a2 a3 a4 a5 : AV) (σ : Store) (Q : AEnd → Store → Prop) : Prop :=
  Do (aFreeze ((a1 : AV)).cells) fun t7 =>
  Do (aFreeze ((a4 : AV)).cells) fun t10 =>
  Do (aFreeze ((a5 : AV)).cells) fun t11 =>
  Do (aPureC Go.Proofs.Try.prog 10 []) fun t30 =>
  Do (aLit [.val (.int .i64 0)] [(0, 1)] [(0, a0)]) fun t32 =>
  aNewVar 26 [.val (.int .i64 0)] σ fun t14 σ =>
  storeA 1 t14 t32 σ fun u σ_1 =>
  Do (loadF true 7 t10) fun t33 =>
  Do (aPureC Go.Proofs.Try.prog 22 [t33]) fun t34 =>
  aNewVar 32 [.val (.bool false), .val (.int .i64 0), .val (.slice none 0 0), .val (.slice none 0 0), .val (.int .i64 0), .val (.slice none 0 0), .val (.slice none 0 0)] σ_1 fun t15 σ_2 =>
  storeA 7 t15 t34 σ_2 fun u_1 σ_3 =>
  Do (loadA true 1 t14 σ_3) fun t36 =>
  Do (loadF true 36 t7) fun t37 =>
  Do (loadA true 7 t15 σ_3) fun t39 =>
  Do (aPureC Go.Proofs.Try.prog 23 [t36, t37, a2, t39]) fun t40 =>
  Do (aExt t40 0) fun t41 =>
  Do (aExt t40 1) fun t42 =>
  Do (aExt t40 2) fun t43 =>
  aNewVar 54 [.val (.string ⟨#[]⟩), .val (.string ⟨#[]⟩), .val (.bool false), .val (.int .i64 0)] σ_3 fun t16 σ_4 =>
  storeA 4 t16 t41 σ_4 fun u_2 σ_5 =>
  Do (loadF true 36 t7) fun t46 =>
  Do (loadF true 7 t10) fun t48 =>
  Do (aPureC Go.Proofs.Try.prog 22 [t48]) fun t49 =>
  Do (aPureC Go.Proofs.Try.prog 24 [a0, t46, a2, t49]) fun t50 =>
  Do (aExt t50 0) fun t51 =>
  Do (aExt t50 1) fun t52 =>
  Do (aExt t50 2) fun t53 =>
  aNewVar 54 [.val (.string ⟨#[]⟩), .val (.string ⟨#[]⟩), .val (.bool false), .val (.int .i64 0)] σ_5 fun t19 σ_6 =>
  storeA 4 t19 t51 σ_6 fun u_3 σ_7 =>
  Do (loadF true 3 t11) fun t54 =>
  Do (aPureC Go.Proofs.Try.prog 25 [t54]) fun t55 =>
  aNewVar 39 [.val (.int .i64 0), .val (.slice none 0 0), .val (.slice none 0 0)] σ_7 fun t22 σ_8 =>
  storeA 3 t22 t55 σ_8 fun u_4 σ_9 =>
  Do (loadA true 1 t14 σ_9) fun t57 =>
  Do (loadF true 36 t7) fun t58 =>
  Do (loadA true 3 t22 σ_9) fun t61 =>
  Do (aPureC Go.Proofs.Try.prog 26 [t57, t58, a2, a3, t61]) fun t62 =>
  Do (aExt t62 0) fun t63 =>
  Do (aExt t62 1) fun t64 =>
  Do (loadF true 36 t7) fun t67 =>
  Do (loadF true 3 t11) fun t70 =>
  Do (aPureC Go.Proofs.Try.prog 25 [t70]) fun t71 =>
  Do (aPureC Go.Proofs.Try.prog 27 [a0, t67, a2, a3, t71]) fun t72 =>
  Do (aExt t72 0) fun t73 =>
  Do (aExt t72 1) fun t74 =>
  Do (aPureC Go.Proofs.Try.prog 28 [t63, t73]) fun t77 =>
  Do (loadA true 7 t15 σ_9) fun t78 =>
  Do (loadF true 7 t10) fun t79 =>
  Do (aPureC Go.Proofs.Try.prog 22 [t79]) fun t80 =>
  Do (aPureC Go.Proofs.Try.prog 16 [t78, t80]) fun t81 =>
  Do (loadA true 3 t22 σ_9) fun t82 =>
  Do (loadF true 3 t11) fun t83 =>
  Do (aPureC Go.Proofs.Try.prog 25 [t83]) fun t84 =>
  Do (aPureC Go.Proofs.Try.prog 17 [t82, t84]) fun t85 =>
  Do (aGuard t30 true (loadA true 4 t16 σ_9)) fun t88 =>
  Do (aGuard t30 true (loadA true 4 t19 σ_9)) fun t89 =>
  Do (aGuard t30 true (aBin Go.Proofs.Try.prog .eql 54 t88 t89)) fun t90 =>
  Do (aPick t30 t90 (.val (.bool false))) fun t91 =>
  Do (aGuard t91 true (aIs t42)) fun t93 =>
  Do (aGuard t91 true (aIs t52)) fun t94 =>
  Do (aGuard t91 true (aBin Go.Proofs.Try.prog .eql 4 t93 t94)) fun t95 =>
  Do (aPick t91 t95 (.val (.bool false))) fun t96 =>
  Do (aGuard t96 true (aIs t43)) fun t98 =>
  Do (aGuard t96 true (aIs t53)) fun t99 =>
  Do (aGuard t96 true (aBin Go.Proofs.Try.prog .eql 33 t98 t99)) fun t100 =>
  Do (aPick t96 t100 (.val (.bool false))) fun t101 =>
  Do (aGuard t101 true (aIs t77)) fun t103 =>
  Do (aPick t101 t103 (.val (.bool false))) fun t104 =>
  Do (aGuard t104 true (aIs t64)) fun t106 =>
  Do (aGuard t104 true (aIs t74)) fun t107 =>
  Do (aGuard t104 true (aBin Go.Proofs.Try.prog .eql 33 t106 t107)) fun t108 =>
  Do (aPick t104 t108 (.val (.bool false))) fun t109 =>
  Do (aGuard t109 true (aIs t81)) fun t111 =>
  Do (aPick t109 t111 (.val (.bool false))) fun t112 =>
  Do (aGuard t112 true (aIs t85)) fun t114 =>
  Do (aPick t112 t114 (.val (.bool false))) fun t115 =>
  Q (.ret t115) σ_9
theorem law12_SeekChecks.eq (a0 a1 a2 a3 a4 a5 : AV) (σ : Store) (Q : AEnd → Store → Prop) : vc (semOf Go.Proofs.Try.prog law12_SeekChecks.mark) Go.Proofs.Try.f4.ntmps law12_SeekChecks.ann (bodyOf Go.Proofs.Try.f4) (endK [.tmp 12] Q) (argFr [a0, a1, a2, a3, a4, a5]) σ = law12_SeekChecks.sh a0 a1 a2 a3 a4 a5 σ Q := by kernel_rfl
theorem law12_SeekChecks.go {a0 a1 a2 a3 a4 a5 : AV} {σ : Store} {Q : AEnd → Store → Prop} (h : law12_SeekChecks.sh a0 a1 a2 a3 a4 a5 σ Q) : ACalls Go.Proofs.Try.prog 4 [a0, a1, a2, a3, a4, a5] σ Q :=
  acalls_of_eq [.tmp 12] Go.Proofs.Try.func4 (by kernel_rfl) (by kernel_rfl) (by kernel_rfl) (by kernel_rfl) (law12_SeekChecks.eq a0 a1 a2 a3 a4 a5 σ Q) h
set_option maxHeartbeats 1000000 in
theorem SeekChecks_at (b lev cnt : Int) (root : D32) (fs ls k hi : List UInt8) (bt : Bool) (u v : Opn) (at_ : Int) (Ls : List (List UInt8)) (pth : List D32) (hc : cnt ≤ 9223372036854775807) :
    aPure Go.Proofs.Try.prog 4 [I .i64 b, tabA lev cnt root.val fs ls, S k, S hi, ptA bt u v, spA at_ Ls pth] (B true) := by
  refine ACalls.fin (law12_SeekChecks.go ?_)
  unfold law12_SeekChecks.sh
  have u1 : (cutO u).2.1.length ≤ 1300 := by unfold cutO; simp only [List.length_take]; omega
  have u2 : (cutO u).2.2.length ≤ 20 := by unfold cutO; simp only [List.length_take]; omega
  have v1 : (cutO v).2.1.length ≤ 1300 := by unfold cutO; simp only [List.length_take]; omega
  have v2 : (cutO v).2.2.length ≤ 20 := by unfold cutO; simp only [List.length_take]; omega
  have s1 : (cutS (at_, Ls, pth)).2.1.length ≤ 70 := by unfold cutS; simp only [List.length_map, List.length_take]; omega
  have s2 : (cutS (at_, Ls, pth)).2.2.length ≤ 40 := by unfold cutS; simp only [List.length_take]; omega
  have s3 : ∀ b ∈ (cutS (at_, Ls, pth)).2.1, b.length ≤ 1300 := fun b hb => by
    obtain ⟨y, _, rfl⟩ := List.mem_map.1 hb
    rw [List.length_take]; omega
  have s4 : cnt ≤ 9223372036854775807 ∧ (cutS (at_, Ls, pth)).2.1.length ≤ 1000000 ∧ ∀ b ∈ (cutS (at_, Ls, pth)).2.1, b.length ≤ 100000000000000 := ⟨hc, by omega, fun b hb => by have := s3 b hb; omega⟩
  have s5 : cnt ≤ 9223372036854775807 ∧ (cutS (at_, Ls, pth)).2.1.length ≤ 1000000 ∧ (cutS (at_, Ls, pth)).2.2.length ≤ 1000000000 ∧ ∀ b ∈ (cutS (at_, Ls, pth)).2.1, b.length ≤ 10000000000000 := ⟨hc, by omega, by omega, fun b hb => by have := s3 b hb; omega⟩
  have hd32 := root.len
  obtain ⟨U, hU⟩ : ∃ U, U = cutO u := ⟨_, rfl⟩
  obtain ⟨V, hV⟩ : ∃ V, V = cutO v := ⟨_, rfl⟩
  obtain ⟨W, hW⟩ : ∃ W, W = cutS (at_, Ls, pth) := ⟨_, rfl⟩
  have iP : PC Go.Proofs.Try.prog 22 [ptA bt u v] True (ptA bt U V) := ⟨fun _ => by rw [hU, hV]; exact PC.of (point12_ok bt u v)⟩
  have iS : PC Go.Proofs.Try.prog 25 [spA at_ Ls pth] True (spA W.1 W.2.1 W.2.2) := ⟨fun _ => by rw [hW]; exact PC.of (span12_ok at_ Ls pth)⟩
  rw [← hU] at u1 u2
  rw [← hV] at v1 v2
  rw [← hW] at s1 s2 s3 s4 s5
  clear hU hV hW
  have q0 : (true : Bool) = true := rfl
  have q1 : (seekC b ⟨root.val, root.len⟩ cnt fs ls k bt U V).2.2 = (seekC b ⟨root.val, root.len⟩ cnt fs ls k bt U V).2.2 := rfl
  have q2 : (seekC b ⟨root.val, root.len⟩ cnt fs ls k bt U V).2.1 = (seekC b ⟨root.val, root.len⟩ cnt fs ls k bt U V).2.1 := rfl
  have q3 : (seekC b ⟨root.val, root.len⟩ cnt fs ls k bt U V).1 = (seekC b ⟨root.val, root.len⟩ cnt fs ls k bt U V).1 := rfl
  have q4 : (spanC b ⟨root.val, root.len⟩ cnt fs ls k hi W.1 W.2.1 W.2.2).1 = (spanC b ⟨root.val, root.len⟩ cnt fs ls k hi W.1 W.2.1 W.2.2).1 := rfl
  have q5 : (spanC b ⟨root.val, root.len⟩ cnt fs ls k hi W.1 W.2.1 W.2.2).2 = (spanC b ⟨root.val, root.len⟩ cnt fs ls k hi W.1 W.2.1 W.2.2).2 := rfl
  have q6 : (spanC b ⟨root.val, root.len⟩ cnt fs ls k hi W.1 W.2.1 W.2.2).2.length ≤ 1000000 := by
    unfold spanC
    split
    · split
      · split
        · exact Nat.le_trans (List.length_filter_le _ _) (by rw [List.length_map]; omega)
        · exact Nat.zero_le _
      · exact Nat.zero_le _
    · exact Nat.zero_le _
  repeat' (first | with_reducible apply Stp.go | with_reducible refine imp fun _ => ?_ | (with_reducible refine hyp ?_ ?_; first | assumption | exact leftT_mem (by assumption)) | (with_reducible refine need ?_ ?_; first | trivial | omega | exact ⟨by assumption, by omega⟩ | (simp only [List.length_append, List.length_cons, List.length_nil, List.length_map, List.length_take, List.length_drop, List.length_replicate, List.length_set]; omega)) | (with_reducible refine fact ?_ ?_; first | trivial | exact ⟨rfl, rfl⟩ | kernel_rfl) | with_reducible refine choT (by assumption) ?_ | with_reducible refine choF (by assumption) ?_ | with_reducible refine choF' (by assumption) ?_ | (with_reducible refine altT ?_ ?_; first | omega | (simp only [List.length_append, List.length_cons, List.length_nil, List.length_map, List.length_take, List.length_drop, List.length_replicate, List.length_set]; omega)) | with_reducible refine altF ?_ | with_reducible refine all fun _ => ?_ | with_reducible refine both ?_ ?_ | (with_reducible refine choT ?_ ?_; omega) | (with_reducible refine choF ?_ ?_; omega) | with_reducible refine cho (fun _ => ?_) (fun _ => ?_))
  all_goals first
    | contradiction
    | exact ⟨_, _, _, rfl, Sub.app_nil _, rfl, rfl⟩
    | trace_state
theorem SeekChecks_ok (b : Int) (x : TabR) (k hi : List UInt8) (p : Bool × Opn × Opn) (s : Spn) (hb : (Lit.int .i64 b).wf = true) (hx : x.lev ≤ 9223372036854775807 ∧ x.cnt ≤ 9223372036854775807 ∧ -9223372036854775808 ≤ x.lev ∧ -9223372036854775808 ≤ x.cnt) (hk : k.length ≤ 140737488355328) (hh : hi.length ≤ 140737488355328) (hp : True) (hs : True) :
    aPure Go.Proofs.Try.prog 4 [I .i64 b, tbF x, S k, S hi, ptF p, spF s] (B true) := SeekChecks_at b x.lev x.cnt x.root x.fst x.lst k hi p.1 p.2.1 p.2.2 s.1 s.2.1 s.2.2 hx.2.1
end Go.Ab
