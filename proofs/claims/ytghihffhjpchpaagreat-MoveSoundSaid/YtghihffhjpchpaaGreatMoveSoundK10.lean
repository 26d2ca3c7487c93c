/- The texts that this claim needs, part 10: a logic over abstract values, its steps, what the functions do. No condition of its own. -/
import Derived.Laws.BitsAllLaws
import Derived.Test.YtghihffhjpchpaaGreatMoveSoundK9
set_option linter.unusedVariables false
set_option linter.unusedSimpArgs false
namespace Go.Ab
def ref02_Kept.mark : Mark := ⟨fun t => Nat.beq t 8, fun t => false, fun t => false, fun t => false, fun t => false⟩
def ref02_Kept.ann : Ann := ⟨fun n => bif Nat.beq n 3 then [1, 4, 5, 6] else [], fun n => none, fun n => none⟩
end Go.Ab

namespace Go.Ab
abbrev tx (b : List UInt8) : AV := S b
instance (b : List UInt8) : Cells (tx b) [tx b] := ⟨rfl⟩
def ref05_LeafText.mark : Mark := ⟨fun t => false, fun t => false, fun t => false, fun t => false, fun t => false⟩
def ref05_LeafText.ann : Ann := ⟨fun n => [], fun n => none, fun n => none⟩
def ref05_NodeText.mark : Mark := ⟨fun t => false, fun t => false, fun t => Nat.beq t 2 || Nat.beq t 3, fun t => false, fun t => false⟩
def ref05_NodeText.ann : Ann := ⟨fun n => [], fun n => none, fun n => none⟩
def ref05_Leaf.mark : Mark := ⟨fun t => Nat.beq t 6 || Nat.beq t 8, fun t => false, fun t => false, fun t => false, fun t => false⟩
def ref05_Leaf.ann : Ann := ⟨fun n => [], fun n => none, fun n => none⟩
def ref05_Node.mark : Mark := ⟨fun t => Nat.beq t 9 || Nat.beq t 11, fun t => false, fun t => Nat.beq t 4 || Nat.beq t 5, fun t => Nat.beq t 7 || Nat.beq t 8, fun t => false⟩
def ref05_Node.ann : Ann := ⟨fun n => [], fun n => none, fun n => none⟩
def ref05_Half.mark : Mark := ⟨fun t => false, fun t => false, fun t => false, fun t => false, fun t => false⟩
def ref05_Half.ann : Ann := ⟨fun n => bif Nat.beq n 2 then [0, 3] else [], fun n => none, fun n => none⟩
def ref05_Root.mark : Mark := ⟨fun t => Nat.beq t 12 || Nat.beq t 20 || Nat.beq t 23 || Nat.beq t 28 || Nat.beq t 33 || Nat.beq t 37, fun t => false, fun t => false, fun t => Nat.beq t 19, fun t => false⟩
def ref05_Root.ann : Ann := ⟨fun n => [], fun n => none, fun n => none⟩
end Go.Ab

namespace Go.Ab
def ref11_Leaves.mark : Mark := ⟨fun t => Nat.beq t 16, fun t => false, fun t => false, fun t => Nat.beq t 15, fun t => false⟩
def ref11_Leaves.ann : Ann := ⟨fun n => bif Nat.beq n 3 then [0, 3, 4] else [], fun n => none, fun n => none⟩
def ref11_Describe.mark : Mark := ⟨fun t => Nat.beq t 10 || Nat.beq t 27 || Nat.beq t 28, fun t => false, fun t => false, fun t => Nat.beq t 32 || Nat.beq t 39, fun t => false⟩
def ref11_Describe.ann : Ann := ⟨fun n => [], fun n => none, fun n => none⟩
end Go.Ab

namespace Go.Ab
variable {P : Program}
structure Rd (P : Program) (t : TypeId) {α : Type} (g : α → AV) (sz : Nat) (ok : α → Prop) : Prop where
 size : P.cellsOf t = sz
 pos : 0 < sz
 told : Told g sz
 read : ∀ {H : Type} {enc : TypeId × Value → H} {w : World} {base : Nat} {spare : Nat → Bool} {held : Bool} {n : Nat} {cs : List Value} {x : DataW H × List MemPlace}, DataW.trod enc P w base spare held n t cs = some x → ∃ a, ok a ∧ cs.length = sz ∧ VRs (roOf w) cs (g a).cells ∧ ∀ v ∈ cs, v.oneCell' = true
theorem VRs.one {R : RO} {v : Value} {u : AV} (h : VR R v u) : VRs R [v] [u] := VRs.cons h (VRs.nil R)
theorem VRs.head {R : RO} {v : Value} {u : AV} (h : VRs R [v] [u]) : VR R v u := h.2 0 u v rfl rfl
theorem told_one {α : Type} {g : α → AV} (h : ∀ a, (g a).cells = [g a] ∧ (g a).one = true) : Told g 1 := fun a => ⟨by rw [(h a).1]; rfl, fun c hc => by rw [(h a).1] at hc; rw [List.mem_singleton.1 hc]; exact (h a).2⟩
theorem Rd.int {t : TypeId} (ht : P.underlying t = some (.int .i64)) (hs : P.cellsOf t = 1) : Rd P t (fun n : Int => I .i64 n) 1 (fun n => (Lit.int .i64 n).wf = true) := ⟨hs, by decide, told_one fun _ => ⟨rfl, rfl⟩, fun h => by
 obtain ⟨k, e, _, hw⟩ := DataW.trod_int ht h
 subst e
 exact ⟨k, hw, rfl, VRs.one (.val _), fun v hv => by rw [List.mem_singleton.1 hv]; rfl⟩⟩
theorem Rd.byte {t : TypeId} (ht : P.underlying t = some (.int .u8)) (hs : P.cellsOf t = 1) : Rd P t byt 1 (fun _ => True) := ⟨hs, by decide, told_one fun _ => ⟨rfl, rfl⟩, fun h => by
 obtain ⟨k, e, _, hw⟩ := DataW.trod_int ht h
 subst e
 simp only [Lit.wf, Bool.and_eq_true, decide_eq_true_eq] at hw
 have h0 : (0 : Int) ≤ k := by have := hw.1; simpa [IntKind.min, IntKind.signed] using this
 have h255 : k ≤ 255 := by have := hw.2; simpa [IntKind.max, IntKind.signed, IntKind.bits] using this
 have e6 : ((UInt8.ofNat k.toNat).toNat : Int) = k := by rw [UInt8.toNat_ofNat']; omega
 refine ⟨UInt8.ofNat k.toNat, trivial, rfl, ?_, fun v hv => by rw [List.mem_singleton.1 hv]; rfl⟩
 have e7 : byt (UInt8.ofNat k.toNat) = .val (.int .u8 k) := by rw [byt, e6]
 rw [e7]
 exact VRs.one (.val _)⟩
theorem Rd.str {t : TypeId} (ht : P.underlying t = some .string) (hs : P.cellsOf t = 1) : Rd P t (fun l : List UInt8 => S l) 1 (fun l => l.length ≤ maxLen) := ⟨hs, by decide, told_one fun _ => ⟨rfl, rfl⟩, fun h => by
 obtain ⟨s, e, _, hl⟩ := DataW.trod_string ht h
 subst e
 exact ⟨s.data.toList, by simpa using hl, rfl, VRs.one (.val _), fun v hv => by rw [List.mem_singleton.1 hv]; rfl⟩⟩
theorem Rd.bool {t : TypeId} (ht : P.underlying t = some .bool) (hs : P.cellsOf t = 1) : Rd P t (fun b : Bool => B b) 1 (fun _ => True) := ⟨hs, by decide, told_one fun _ => ⟨rfl, rfl⟩, fun h => by
 obtain ⟨b, e, _⟩ := DataW.trod_bool ht h
 subst e
 exact ⟨b, trivial, rfl, VRs.one (.val _), fun v hv => by rw [List.mem_singleton.1 hv]; rfl⟩⟩
theorem flat_rel {α : Type} {g : α → AV} {R : RO} {V : Nat → List Value} {F : Nat → α} : ∀ is : List Nat, (∀ i ∈ is, VRs R (V i) (g (F i)).cells) → VRs R (is.flatMap V) (flat ((is.map F).map g))
 | [], _ => VRs.nil R
 | i :: is, h => by
  have := (h i List.mem_cons_self).append (flat_rel is fun j hj => h j (List.mem_cons_of_mem _ hj))
  simpa [flat] using this
theorem flatMap_get {V : Nat → List Value} {sz : Nat} (hz : 0 < sz) : ∀ (n j : Nat) (v : Value), (∀ i, i < n → (V i).length = sz) → ((List.range n).flatMap V)[j]? = some v → j / sz < n ∧ (V (j / sz))[j % sz]? = some v := by
 intro n
 induction n with
 | zero => intro j v _ h; simp at h
 | succ n ih =>
  intro j v hl h
  have hlen : ∀ m, m ≤ n → ((List.range m).flatMap V).length = m * sz := by
   intro m hm
   induction m with
   | zero => simp
   | succ m ihm => rw [List.range_succ, List.flatMap_append, List.length_append, ihm (by omega)]; simp [hl m (by omega), Nat.succ_mul]
  rw [List.range_succ, List.flatMap_append] at h
  by_cases hj : j < n * sz
  ·rw [List.getElem?_append_left (by rw [hlen n (Nat.le_refl _)]; exact hj)] at h
   obtain ⟨h1, h2⟩ := ih j v (fun i hi => hl i (by omega)) h
   exact ⟨by omega, h2⟩
  ·rw [List.getElem?_append_right (by rw [hlen n (Nat.le_refl _)]; omega), hlen n (Nat.le_refl _)] at h
   simp only [List.flatMap_cons, List.flatMap_nil, List.append_nil] at h
   have h3 : j - n * sz < sz := by
    have h4 := (List.getElem?_eq_some_iff.1 h).1
    rw [hl n (by omega)] at h4
    exact h4
   have hd : j / sz = n := by
    have : j = sz * n + (j - n * sz) := by rw [Nat.mul_comm sz n]; omega
    rw [this, Nat.mul_add_div hz, Nat.div_eq_of_lt h3, Nat.add_zero]
   have hm : j % sz = j - n * sz := by
    have := Nat.div_add_mod j sz
    rw [hd, Nat.mul_comm] at this
    omega
   rw [hd, hm]
   exact ⟨by omega, h⟩
theorem Rd.slice {α : Type} [Inhabited α] {g : α → AV} {sz : Nat} {ok : α → Prop} {t e : TypeId} (he : Rd P e g sz ok) (ht : P.underlying t = some (.slice e)) (hs : P.cellsOf t = 1) : Rd P t (fun l : List α => .lst sz (l.map g) .ro) 1 (fun l => (∀ a ∈ l, ok a) ∧ l.length ≤ maxLen) := ⟨hs, by decide, told_one fun _ => ⟨rfl, rfl⟩, fun {H enc w base spare held n cs x} h => by
 rcases Deep.open_slice ht h with ⟨hcs, hx⟩ | ⟨a, len, cap, m, n', D, Pl, hcs, hb, hl, hm, hmm, hx, hel⟩
 ·subst hcs
  exact ⟨[], ⟨by simp, Nat.zero_le _⟩, rfl, VRs.one (.lst [] rfl he.pos (by simp) rfl (by simp) (by simp) (by simp [SMok]) (Nat.zero_le _) (by simp)), fun v hv => by rw [List.mem_singleton.1 hv]; rfl⟩
 ·subst hcs
  have hle : len ≤ m := by rw [hmm]; split <;> omega
  have hex : ∀ i, i < len → ∃ f : α × List Value, ok f.1 ∧ f.2.length = sz ∧ VRs (roOf w) f.2 (g f.1).cells ∧ (∀ v ∈ f.2, v.oneCell' = true) ∧ ∀ r, r < sz → w.cell? ((a.add (i * sz)).add r) = f.2[r]? := by
   intro i hi
   obtain ⟨cs', h1, h2⟩ := hel i (by omega)
   obtain ⟨f, k1, k2, k3, k4⟩ := he.read h2
   rw [he.size] at h1
   obtain ⟨_, _, h3⟩ := World.cells?_some h1
   exact ⟨(f, cs'), k1, k2, k3, k4, h3⟩
  obtain ⟨F, hF⟩ := Deep.choose_lt hex
  refine ⟨(List.range len).map fun i => (F i).1, ⟨fun a ha => ?_, by simp; omega⟩, rfl, VRs.one ?_, fun v hv => by rw [List.mem_singleton.1 hv]; rfl⟩
  ·obtain ⟨i, hi, rfl⟩ := List.mem_map.1 ha
   exact (hF i (List.mem_range.1 hi)).1
  ·have hrel := flat_rel (g := g) (R := roOf w) (V := fun i => (F i).2) (F := fun i => (F i).1) (List.range len) fun i hi => (hF i (List.mem_range.1 hi)).2.2.1
   refine .lst ((List.range len).flatMap fun i => (F i).2) (by simp) he.pos (told_len he.told _) hrel.1 hrel.2 (fun _ => ⟨a, rfl, fun j v hj => ?_⟩) hl (by simp only [maxLen] at hm ⊢; omega) (fun v hv => ?_)
   ·obtain ⟨h1, h2⟩ := flatMap_get he.pos len j v (fun i hi => (hF i hi).2.1) hj
    have h3 := (hF (j / sz) h1).2.2.2.2 (j % sz) (Nat.mod_lt _ he.pos)
    rw [h2, addr_add_add] at h3
    show w.cell? (a.add j) = some v
    have := Nat.div_add_mod j sz
    rw [Nat.mul_comm] at this
    rw [← this]
    exact h3
   ·obtain ⟨i, hi, h⟩ := List.mem_flatMap.1 hv
    exact (hF i (List.mem_range.1 hi)).2.2.2.1 v h⟩
structure RdFs (P : Program) (fs : List Field) (o : Nat) {α : Type} (g : α → List AV) (sz : Nat) (ok : α → Prop) : Prop where
 read : ∀ {H : Type} {enc : TypeId × Value → H} {w : World} {base : Nat} {spare : Nat → Bool} {held : Bool} {cs : List Value}, cs.length = o + sz → (∀ f ∈ fs, ∃ (n : Nat) (x : DataW H × List MemPlace), DataW.trod enc P w base spare held n f.type ((cs.drop f.offset).take (P.cellsOf f.type)) = some x) →
  ∃ a, ok a ∧ VRs (roOf w) (cs.drop o) (g a) ∧ ∀ v ∈ cs.drop o, v.oneCell' = true
theorem RdFs.nil {o : Nat} : RdFs P [] o (fun _ : Unit => []) 0 (fun _ => True) := ⟨fun hl _ => ⟨(), trivial, by rw [List.drop_of_length_le (by omega)]; exact VRs.nil _, by rw [List.drop_of_length_le (by omega)]; simp⟩⟩
theorem RdFs.cons {α β : Type} {f : Field} {fs : List Field} {o sz sz' : Nat} {g : α → AV} {g' : β → List AV} {ok : α → Prop} {ok' : β → Prop} (h : Rd P f.type g sz ok) (ho : f.offset = o) (hs : RdFs P fs (o + sz) g' sz' ok') : RdFs P (f :: fs) o (fun a : α × β => (g a.1).cells ++ g' a.2) (sz + sz') (fun a => ok a.1 ∧ ok' a.2) := ⟨fun {H enc w base spare held cs} hl hf => by
 obtain ⟨n, x, hx⟩ := hf f List.mem_cons_self
 rw [ho, h.size] at hx
 obtain ⟨a, k1, k2, k3, k4⟩ := h.read hx
 obtain ⟨b, j1, j2, j3⟩ := hs.read (cs := cs) (by omega) fun q hq => hf q (List.mem_cons_of_mem _ hq)
 have e : cs.drop o = (cs.drop o).take sz ++ cs.drop (o + sz) := by rw [← List.drop_drop, List.take_append_drop]
 refine ⟨(a, b), ⟨k1, j1⟩, ?_, ?_⟩
 ·rw [e]; exact k3.append j2
 ·rw [e]
  intro v hv
  rcases List.mem_append.1 hv with hv | hv
  ·exact k4 v hv
  ·exact j3 v hv⟩
theorem Rd.struct {α β : Type} {fs : Array Field} {t : TypeId} {g : α → List AV} {sz : Nat} {ok : α → Prop} (ht : P.underlying t = some (.struct fs)) (hs : P.cellsOf t = sz) (hf : RdFs P fs.toList 0 g sz ok) (φ : α → β) (g' : β → AV) (hφ : ∀ a, (g' (φ a)).cells = g a) (told : Told g' sz) (hz : 0 < sz) : Rd P t g' sz (fun b => ∃ a, ok a ∧ b = φ a) := ⟨hs, hz, told, fun {H enc w base spare held n cs x} h => by
 obtain ⟨xs, m, rfl, _, hl, hx, hfs⟩ := DataW.trod_struct ht h
 obtain ⟨a, k1, k2, k3⟩ := hf.read (H := H) (enc := enc) (w := w) (base := base) (spare := spare) (held := held) (cs := cs) (by omega) fun f hfm => by
  obtain ⟨i, hi⟩ := List.mem_iff_getElem?.1 hfm
  have hi2 : i < fs.size := by
   have := (List.getElem?_eq_some_iff.1 hi).1
   simpa using this
  have h2 := hfs i f (by rw [← Array.getElem?_toList]; exact hi)
  rw [List.getElem?_eq_getElem (by omega)] at h2
  exact ⟨m, _, h2⟩
 rw [List.drop_zero] at k2 k3
 exact ⟨φ a, ⟨a, k1, rfl⟩, by omega, by rw [hφ]; exact k2, k3⟩⟩
theorem Rd.arr {α β : Type} [Inhabited α] {g : α → AV} {sz n : Nat} {ok : α → Prop} {t e : TypeId} (he : Rd P e g sz ok) (ht : P.underlying t = some (.array n e)) (hs : P.cellsOf t = n * sz) (hn : 0 < n) (φ : ∀ l : List α, l.length = n → β) (g' : β → AV) (hφ : ∀ l h, (g' (φ l h)).cells = flat (l.map g)) (told : Told g' (n * sz)) : Rd P t g' (n * sz) (fun _ => True) := ⟨hs, Nat.mul_pos hn he.pos, told, fun {H enc w base spare held m cs x} h => by
 obtain ⟨xs, m', rfl, _, hl, hx, hel⟩ := DataW.trod_array ht h
 rw [hs] at hl
 rw [he.size] at hel
 have hex : ∀ i, i < n → ∃ f : α, VRs (roOf w) ((cs.drop (i * sz)).take sz) (g f).cells ∧ ∀ v ∈ (cs.drop (i * sz)).take sz, v.oneCell' = true := by
  intro i hi
  have h2 := hel i hi
  rw [List.getElem?_eq_getElem (by omega)] at h2
  obtain ⟨f, k1, k2, k3, k4⟩ := he.read h2
  exact ⟨f, k3, k4⟩
 obtain ⟨F, hF⟩ := Deep.choose_lt hex
 have hcs : ∀ k, k ≤ n → cs = ((List.range k).flatMap fun i => (cs.drop (i * sz)).take sz) ++ cs.drop (k * sz) := by
  intro k hk
  induction k with
  | zero => simp
  | succ k ih =>
   rw [List.range_succ, List.flatMap_append]
   have e : cs.drop (k * sz) = (cs.drop (k * sz)).take sz ++ cs.drop ((k + 1) * sz) := by
    rw [Nat.succ_mul, ← List.drop_drop, List.take_append_drop]
   conv => lhs; rw [ih (by omega), e]
   simp
 have e1 := hcs n (Nat.le_refl _)
 rw [List.drop_of_length_le (by omega), List.append_nil] at e1
 have hrel := flat_rel (g := g) (R := roOf w) (V := fun i => (cs.drop (i * sz)).take sz) (F := F) (List.range n) fun i hi => (hF i (List.mem_range.1 hi)).1
 refine ⟨φ ((List.range n).map F) (by simp), trivial, hl, ?_, fun v hv => ?_⟩
 ·rw [hφ, e1]; exact hrel
 ·rw [e1] at hv
  obtain ⟨i, hi, h⟩ := List.mem_flatMap.1 hv
  exact (hF i (List.mem_range.1 hi)).2 v h⟩
theorem Rd.en {t : TypeId} (ht : enRead P t = true) : Rd P t En.av 4 (fun e => e.key.length ≤ maxLen ∧ e.val.length ≤ maxLen) := ⟨by
  simp only [enRead, Bool.and_eq_true] at ht
  exact Nat.eq_of_beq_eq_true ht.2, by decide, told_En, fun h => by
 obtain ⟨e, rfl, h1, h2⟩ := open_En ht h
 refine ⟨e, ⟨h1, h2⟩, rfl, e.rel _, fun v hv => ?_⟩
 simp only [En.vals, List.mem_cons, List.not_mem_nil, or_false] at hv
 rcases hv with rfl | rfl | rfl | rfl <;> rfl⟩
theorem Rd.mono {α : Type} {g : α → AV} {t : TypeId} {sz : Nat} {ok ok' : α → Prop} (h : Rd P t g sz ok) (hk : ∀ a, ok a → ok' a) : Rd P t g sz ok' := ⟨h.size, h.pos, h.told, fun hx => by
 obtain ⟨a, k1, k2⟩ := h.read hx
 exact ⟨a, hk a k1, k2⟩⟩
theorem Rd.val {α : Type} {g : α → AV} {t : TypeId} {ok : α → Prop} (h : Rd P t g 1 ok) (hg : ∀ a, (g a).cells = [g a]) {H : Type} {enc : TypeId × Value → H} {w : World} {base : Nat} {spare : Nat → Bool} {held : Bool} {n : Nat} {v : Value} {x : DataW H × List MemPlace} (hx : DataW.trod enc P w base spare held n t [v] = some x) : ∃ a, ok a ∧ VR (roOf w) v (g a) := by
 obtain ⟨a, k1, _, k3, _⟩ := h.read hx
 rw [hg] at k3
 exact ⟨a, k1, k3.head⟩
end Go.Ab

namespace Go.Ab
open Go.Proofs
abbrev InT : TypeId := 3
abbrev it (n : Int) : AV := .val (.int .i64 n)
instance : Enc it 1 := ⟨fun n => ⟨rfl, fun c hc => by
 have hc : c ∈ [it n] := hc
 rw [List.mem_singleton.1 hc]; rfl⟩, by decide, fun _ => rfl⟩
instance : ElemF [.val (.int .i64 0)] Int it := ⟨trivial⟩
instance (n : Int) : AsF it (.val (.int .i64 n)) n := ⟨rfl⟩
instance (n : Int) : Cells (it n) [it n] := ⟨rfl⟩
def posT (p : TabR → Bool) (l : List TabR) (k : Nat) : List Int := ((List.range k).filter fun i => p (l.getD i default)).map Int.ofNat
theorem posT_succ (p : TabR → Bool) (l : List TabR) (k : Nat) : posT p l (k + 1) = posT p l k ++ if p (l.getD k default) = true then [(k : Int)] else [] := by
 unfold posT
 rw [List.range_succ, List.filter_append, List.map_append]
 congr 1
 by_cases h : p (l.getD k default) = true
 ·rw [if_pos h]; simp only [List.filter_cons, h, if_true, List.filter_nil]; rfl
 ·rw [if_neg h]; simp only [List.filter_cons, if_neg h, List.filter_nil]; rfl
theorem posT_len (p : TabR → Bool) (l : List TabR) (k : Nat) : (posT p l k).length ≤ k := by
 unfold posT
 rw [List.length_map]
 exact Nat.le_trans (List.length_filter_le _ _) (by rw [List.length_range]; exact Nat.le_refl _)
def pick_places.mark : Mark := ⟨fun t => false, fun t => false, fun t => false, fun t => Nat.beq t 14, fun t => false⟩
def pick_places.ann : Ann := ⟨fun n => bif Nat.beq n 3 then [1, 5, 8, 9, 10] else [], fun n => none, fun n => none⟩
def pick_places.sh (a0 a1 : AV) (σ : Store) (Q : AEnd → Store → Prop) : Prop :=
 Do (aBuiltin Tryz.prog .len #[24] [a0]) fun t9 =>
 aLoop (fun go vs σ =>
 At vs 0 fun s1 => At vs 1 fun s5 => At vs 2 fun s8 => At vs 3 fun s9 => At vs 4 fun s10 => Do (aBin Tryz.prog .lss 3 s10 s9) fun t11 =>
 aCond t11
 (Do (aIndexAddr .slice 36 s8 s10) fun t13 =>
 Do (loadF true 36 t13) fun t14 =>
 aNewVar 58 [.val (.int .i64 0), .val (.int .i64 0), .val (.int .u8 0), .val (.int .u8 0), .val (.int .u8 0), .val (.int .u8 0), .val (.int .u8 0), .val (.int .u8 0), .val (.int .u8 0), .val (.int .u8 0), .val (.int .u8 0), .val (.int .u8 0), .val (.int .u8 0), .val (.int .u8 0), .val (.int .u8 0), .val (.int .u8 0), .val (.int .u8 0), .val (.int .u8 0), .val (.int .u8 0), .val (.int .u8 0), .val (.int .u8 0), .val (.int .u8 0), .val (.int .u8 0), .val (.int .u8 0), .val (.int .u8 0), .val (.int .u8 0), .val (.int .u8 0), .val (.int .u8 0), .val (.int .u8 0), .val (.int .u8 0), .val (.int .u8 0), .val (.int .u8 0), .val (.int .u8 0), .val (.int .u8 0), .val (.string ⟨#[]⟩), .val (.string ⟨#[]⟩)] σ fun t7 σ_1 =>
 storeA 36 t7 t14 σ_1 fun u σ_2 =>
 Do (loadA true 36 t7 σ_2) fun t16 =>
 aCallV Tryz.prog s1 [t16] σ_2 (fun t17 σ_3 =>
 aCond t17
 (Do (aSlLit (mkE [.val (.int .i64 0)]) 1 1 [(0, s10)]) fun t20 =>
 aAppend 3 1 8 s5 t20 σ_3 (subK fun t21 σ_4 =>
 Do (aBin Tryz.prog .add 3 s10 (.val (.int .i64 1))) fun t22 =>
 go [s1, t21, s8, s9, t22] σ_4))
 (Do (aBin Tryz.prog .add 3 s10 (.val (.int .i64 1))) fun t22_1 =>
 go [s1, s5, s8, s9, t22_1] σ_3)) (fun e σ_5 => Q (.pan e) σ_5))
 (Q (.ret s5) σ))
 [a1, (.val (.slice none 0 0)), a0, t9, (.val (.int .i64 0))] σ
theorem pick_places.eq (a0 a1 : AV) (σ : Store) (Q : AEnd → Store → Prop) : vc (semOf Tryz.prog pick_places.mark) Tryz.f60.ntmps pick_places.ann (bodyOf Tryz.f60) (endK [.tmp 4] Q) (argFr [a0, a1]) σ = pick_places.sh a0 a1 σ Q := by kernel_rfl
theorem pick_places.go {a0 a1 : AV} {σ : Store} {Q : AEnd → Store → Prop} (h : pick_places.sh a0 a1 σ Q) : ACalls Tryz.prog 60 [a0, a1] σ Q :=
 acalls_of_eq [.tmp 4] Tryz.func60 (by kernel_rfl) (by kernel_rfl) (by kernel_rfl) (by kernel_rfl) (pick_places.eq a0 a1 σ Q) h
def pick_span_on.mark : Mark := ⟨fun t => false, fun t => false, fun t => Nat.beq t 2 || Nat.beq t 3, fun t => Nat.beq t 6 || Nat.beq t 8, fun t => false⟩
def pick_span_on.ann : Ann := ⟨fun n => [], fun n => none, fun n => none⟩
def pick_span_on.sh (a0 a1 : AV) (σ : Store) (Q : AEnd → Store → Prop) : Prop :=
 Do (aFreeze ((a0 : AV)).cells) fun t2 =>
 Do (aFreeze ((a1 : AV)).cells) fun t3 =>
 Do (aFieldAddr 0 1 t3) fun t5 =>
 Do (loadF false 1 t5) fun t6 =>
 Do (aFieldAddr 0 1 t2) fun t7 =>
 Do (loadF false 1 t7) fun t8 =>
 Do (aBin Tryz.prog .eql 3 t6 t8) fun t9 =>
 Q (.ret t9) σ
theorem pick_span_on.eq (a0 a1 : AV) (σ : Store) (Q : AEnd → Store → Prop) : vc (semOf Tryz.prog pick_span_on.mark) Tryz.f61.ntmps pick_span_on.ann (bodyOf Tryz.f61) (endK [.tmp 4] Q) (argFr [a0, a1]) σ = pick_span_on.sh a0 a1 σ Q := by kernel_rfl
theorem pick_span_on.go {a0 a1 : AV} {σ : Store} {Q : AEnd → Store → Prop} (h : pick_span_on.sh a0 a1 σ Q) : ACalls Tryz.prog 61 [a0, a1] σ Q :=
 acalls_of_eq [.tmp 4] Tryz.func61 (by kernel_rfl) (by kernel_rfl) (by kernel_rfl) (by kernel_rfl) (pick_span_on.eq a0 a1 σ Q) h
def pick_Cap.mark : Mark := ⟨fun t => false, fun t => false, fun t => false, fun t => false, fun t => false⟩
def pick_Cap.ann : Ann := ⟨fun n => [], fun n => none, fun n => none⟩
def pick_Cap.sh (a0 : AV) (σ : Store) (Q : AEnd → Store → Prop) : Prop :=
 Do (aBin Tryz.prog .eql 3 a0 (.val (.int .i64 0))) fun t4 =>
 aCond t4
 (Q (.ret (.val (.int .i64 4))) σ)
 (Do (aBin Tryz.prog .lss 3 a0 (.val (.int .i64 0))) fun t6 =>
 Do (aGuard t6 false (aIs a0)) fun t8 =>
 Do (aGuard t6 false (aBin Tryz.prog .geq 3 t8 (.val (.int .i64 3)))) fun t9 =>
 Do (aPick t6 (.val (.bool true)) t9) fun t10 =>
 aCond t10
 (Q (.ret (.val (.int .i64 (-1)))) σ)
 (Do (aBin Tryz.prog .sub 3 a0 (.val (.int .i64 1))) fun t12 =>
 Do (aBin Tryz.prog .mul 3 (.val (.int .i64 2)) t12) fun t13 =>
 Do (aBin Tryz.prog .shl 3 (.val (.int .i64 8)) t13) fun t14 =>
 Q (.ret t14) σ))
theorem pick_Cap.eq (a0 : AV) (σ : Store) (Q : AEnd → Store → Prop) : vc (semOf Tryz.prog pick_Cap.mark) Tryz.f62.ntmps pick_Cap.ann (bodyOf Tryz.f62) (endK [.tmp 2] Q) (argFr [a0]) σ = pick_Cap.sh a0 σ Q := by kernel_rfl
theorem pick_Cap.go {a0 : AV} {σ : Store} {Q : AEnd → Store → Prop} (h : pick_Cap.sh a0 σ Q) : ACalls Tryz.prog 62 [a0] σ Q :=
 acalls_of_eq [.tmp 2] Tryz.func62 (by kernel_rfl) (by kernel_rfl) (by kernel_rfl) (by kernel_rfl) (pick_Cap.eq a0 σ Q) h
def law17_few.mark : Mark := ⟨fun t => false, fun t => false, fun t => false, fun t => Nat.beq t 22, fun t => false⟩
def law17_few.ann : Ann := ⟨fun n => bif Nat.beq n 3 then [0, 1, 5, 6] else [], fun n => none, fun n => none⟩
def law17_few.sh (a0 a1 : AV) (σ : Store) (Q : AEnd → Store → Prop) : Prop :=
 aLoop (fun go vs σ =>
 At vs 0 fun s0 => At vs 1 fun s1 => At vs 2 fun s5 => At vs 3 fun s6 => Do (aBuiltin Tryz.prog .len #[33] [s0]) fun t10 =>
 Do (aBin Tryz.prog .lss 3 s6 t10) fun t11 =>
 Do (aGuard t11 true (aIs s6)) fun t13 =>
 Do (aGuard t11 true (aIs s1)) fun t14 =>
 Do (aGuard t11 true (aBin Tryz.prog .lss 3 t13 t14)) fun t15 =>
 Do (aPick t11 t15 (.val (.bool false))) fun t16 =>
 aCond t16
 (Do (aIndexAddr .slice 4 s0 s6) fun t21 =>
 Do (loadF true 4 t21) fun t22 =>
 aNewVar 50 [.val (.string ⟨#[]⟩), .val (.string ⟨#[]⟩), .val (.bool false), .val (.int .i64 0)] σ fun t7 σ_1 =>
 storeA 4 t7 t22 σ_1 fun u σ_2 =>
 Do (aFieldAddr 0 1 t7) fun t23 =>
 Do (loadA false 1 t23 σ_2) fun t24 =>
 Do (aFieldAddr 0 1 t7) fun t25 =>
 Do (loadA false 1 t25 σ_2) fun t26 =>
 Do (aBuiltin Tryz.prog .len #[9] [t26]) fun t27 =>
 Do (aBuiltin Tryz.prog .min #[3, 3] [t27, (.val (.int .i64 130))]) fun t28 =>
 Do (aSlice .string 1 t24 none (some t28) none) fun t29 =>
 Do (aFieldAddr 0 1 t7) fun t30 =>
 storeA 1 t30 t29 σ_2 fun u_1 σ_3 =>
 Do (aFieldAddr 1 1 t7) fun t31 =>
 Do (loadA false 1 t31 σ_3) fun t32 =>
 Do (aFieldAddr 1 1 t7) fun t33 =>
 Do (loadA false 1 t33 σ_3) fun t34 =>
 Do (aBuiltin Tryz.prog .len #[9] [t34]) fun t35 =>
 Do (aBuiltin Tryz.prog .min #[3, 3] [t35, (.val (.int .i64 200))]) fun t36 =>
 Do (aSlice .string 1 t32 none (some t36) none) fun t37 =>
 Do (aFieldAddr 1 1 t7) fun t38 =>
 storeA 1 t38 t37 σ_3 fun u_2 σ_4 =>
 Do (loadA true 4 t7 σ_4) fun t40 =>
 Do (aSlLit (mkE [.val (.string ⟨#[]⟩), .val (.string ⟨#[]⟩), .val (.bool false), .val (.int .i64 0)]) 4 1 [(0, t40)]) fun t41 =>
 aAppend 50 4 48 s5 t41 σ_4 (subK fun t42 σ_5 =>
 Do (aBin Tryz.prog .add 3 s6 (.val (.int .i64 1))) fun t18 =>
 go [s0, s1, t42, t18] σ_5))
 (Q (.ret s5) σ))
 [a0, a1, (.val (.slice none 0 0)), (.val (.int .i64 0))] σ
theorem law17_few.eq (a0 a1 : AV) (σ : Store) (Q : AEnd → Store → Prop) : vc (semOf Tryz.prog law17_few.mark) Tryz.f12.ntmps law17_few.ann (bodyOf Tryz.f12) (endK [.tmp 4] Q) (argFr [a0, a1]) σ = law17_few.sh a0 a1 σ Q := by kernel_rfl
theorem law17_few.go {a0 a1 : AV} {σ : Store} {Q : AEnd → Store → Prop} (h : law17_few.sh a0 a1 σ Q) : ACalls Tryz.prog 12 [a0, a1] σ Q :=
 acalls_of_eq [.tmp 4] Tryz.func12 (by kernel_rfl) (by kernel_rfl) (by kernel_rfl) (by kernel_rfl) (law17_few.eq a0 a1 σ Q) h
theorem places_ok (l : List TabR) (m : SM) (g : FuncId) (r : AV) (p : TabR → Bool) (hl : l.length ≤ 1000000) (hg : ∀ x : TabR, aPure Tryz.prog g [r, tbF x] (B (p x))) : aPure Tryz.prog 60 [.lst 36 (l.map tbF) m, .fn (.func g) [r] []] (.lst 1 ((posT p l l.length).map it) .ro) := by
 refine ACalls.fin (pick_places.go ?_)
 unfold pick_places.sh
 repeat' (with_reducible first|apply Stp.go|refine imp fun _=>?_|refine zq ?_|refine zt ?_|refine zf ?_|refine zg ?_|refine za ?_|refine altF ?_|refine all fun _=>?_|refine both ?_ ?_|refine zu ?_|refine zv ?_|refine cho (fun _=>?_) fun _=>?_|refine zw ?_)
 refine loopI (β := Nat × Value) (fun x => x.1 ≤ l.length) (fun x => [.fn (.func g) [r] [], .own x.2 (posT p l x.1).length, .lst 36 (l.map tbF) m, I .i64 (l.length : Nat), I .i64 (x.1 : Nat)]) (fun x => [.row x.2 InT 1 ((posT p l x.1).map it) 0]) (fun x => l.length - x.1) (0, .slice none 0 0) (Nat.zero_le _) (Sub.nil_own InT (sz := 1) (by decide) _ [_] [_, _, _]) ?_
 rintro ⟨i, v⟩ h1
 dsimp only at h1 ⊢
 have hpl := posT_len p l i
 by_cases hi : i < l.length
 ·have hs := posT_succ p l i
  have hpc : ∀ x : TabR, PC Tryz.prog g ([r] ++ [tbF x] ++ []) True (B (p x)) := fun x => ⟨fun _ => PC.of (hg x)⟩
  have hpi := hpc (l.getD i default)
  by_cases hp : p (l.getD i default) = true
  ·rw [if_pos hp] at hs
   repeat' (with_reducible first|apply Stp.go|refine imp fun _=>?_|refine zq ?_|refine zt ?_|refine zf ?_|refine zg ?_|refine za ?_|refine altF ?_|refine all fun _=>?_|refine both ?_ ?_|refine zu ?_|refine zv ?_|refine cho (fun _=>?_) fun _=>?_|refine zw ?_)
   rename_i w
   exact again (i + 1, w) (by dsimp only; omega) (by dsimp only; omega) (by dsimp only; rw [hs]; exact Sub.drop_ (.cons _ (.cons_cons _ .slnil)) _)
  ·rw [if_neg hp, List.append_nil] at hs
   repeat' (with_reducible first|apply Stp.go|refine imp fun _=>?_|refine zq ?_|refine zt ?_|refine zf ?_|refine zg ?_|refine za ?_|refine altF ?_|refine all fun _=>?_|refine both ?_ ?_|refine zu ?_|refine zv ?_|refine cho (fun _=>?_) fun _=>?_|refine zw ?_)
   exact again (i + 1, v) (by dsimp only; omega) (by dsimp only; omega) (by dsimp only; rw [hs]; exact Sub.drop_ (.cons _ (.cons_cons _ .slnil)) _)
 ·have e : i = l.length := by omega
  subst e
  repeat' (with_reducible first|apply Stp.go|refine imp fun _=>?_|refine zq ?_|refine zt ?_|refine zf ?_|refine zg ?_|refine za ?_|refine altF ?_|refine all fun _=>?_|refine both ?_ ?_|refine zu ?_|refine zv ?_|refine cho (fun _=>?_) fun _=>?_|refine zw ?_)
  exact ⟨_, _, _, rfl, retOwn (Sub.refl _ _), rfl, rfl⟩
def onP (k : Int) (x : TabR) : Bool := decide (x.lev = k)
theorem on_ok (k : Int) (f g : List UInt8) (x : TabR) : aPure Tryz.prog 61 [.agg [I .i64 k, S f, S g], tbF x] (B (onP k x)) := by
 refine pick_span_on.go ?_
 unfold pick_span_on.sh
 repeat' (with_reducible first|apply Stp.go|refine imp fun _=>?_|refine zq ?_|refine zt ?_|refine zf ?_|refine zg ?_|refine za ?_|refine altF ?_|refine all fun _=>?_|refine both ?_ ?_|refine zu ?_|refine zv ?_|refine cho (fun _=>?_) fun _=>?_|refine zw ?_)
 exact ⟨rfl, rfl⟩
def capT : Nat → Nat
 | 0 => 4
 | 1 => 8
 | _ => 32
theorem Cap_ok (k : Nat) (hk : k < 3) : aPure Tryz.prog 62 [I .i64 (k : Nat)] (I .i64 (capT k : Nat)) := by
 refine pick_Cap.go ?_
 unfold pick_Cap.sh
 match k, hk with
 | 0, _ =>
  repeat' (with_reducible first|apply Stp.go|refine imp fun _=>?_|refine zq ?_|refine zt ?_|refine zf ?_|refine zg ?_|refine za ?_|refine altF ?_|refine all fun _=>?_|refine both ?_ ?_|refine zu ?_|refine zv ?_|refine cho (fun _=>?_) fun _=>?_|refine zw ?_)
  exact ⟨rfl, rfl⟩
 | 1, _ =>
  repeat' (with_reducible first|apply Stp.go|refine imp fun _=>?_|refine zq ?_|refine zt ?_|refine zf ?_|refine zg ?_|refine za ?_|refine altF ?_|refine all fun _=>?_|refine both ?_ ?_|refine zu ?_|refine zv ?_|refine cho (fun _=>?_) fun _=>?_|refine zw ?_)
  refine s_shl (by decide) ?_
  exact ⟨by rfl, rfl⟩
 | 2, _ =>
  repeat' (with_reducible first|apply Stp.go|refine imp fun _=>?_|refine zq ?_|refine zt ?_|refine zf ?_|refine zg ?_|refine za ?_|refine altF ?_|refine all fun _=>?_|refine both ?_ ?_|refine zu ?_|refine zv ?_|refine cho (fun _=>?_) fun _=>?_|refine zw ?_)
  refine s_shl (by decide) ?_
  exact ⟨by rfl, rfl⟩
instance {x : Int} {k : Nat} [hx : NatOf x k] : PC Tryz.prog 62 [.val (.int .i64 x)] (k < 3) (I .i64 (capT k : Nat)) := ⟨fun hk => by rw [hx.eq]; exact PC.of (Cap_ok k hk)⟩
instance {a c : AV} {b : Int} {l : List TabR} {p : List En} {m m' : SM} [h : IsL a tbF 36 l m] [h' : IsL c En.av 4 p m'] : PC Tryz.prog 20 [trA b, a, c] (l.length ≤ 1000000 ∧ p.length ≤ 1000000) (.tuple [.lst 36 ((flushT b l p).1.map tbF) .ro, I .i64 ((flushT b l p).2 : Nat)]) := ⟨fun hl => ⟨[trA b, .lst 36 (l.map tbF) m, .lst 4 (p.map En.av) m'], ⟨SubV.refl _, h.sub, h'.sub, trivial⟩, Flush_ok b l p m m' hl.1 hl.2⟩⟩
theorem few17_ok (l : List En) (m : SM) (k : Nat) (hl : l.length ≤ 9223372036854775807) (hk : k ≤ 1000) : aPure Tryz.prog 12 [.lst 4 (l.map En.av) m, I .i64 (k : Nat)] (.lst 4 (((l.take k).map (cutE 130 200)).map En.av) .ro) := by
 refine ACalls.fin (law17_few.go ?_)
 unfold law17_few.sh
 repeat' (with_reducible first|apply Stp.go|refine imp fun _=>?_|refine zq ?_|refine zt ?_|refine zf ?_|refine zg ?_|refine za ?_|refine altF ?_|refine all fun _=>?_|refine both ?_ ?_|refine zu ?_|refine zv ?_|refine cho (fun _=>?_) fun _=>?_|refine zw ?_)
 refine loopI (β := Nat × Value) (fun x => x.1 ≤ l.length ∧ x.1 ≤ k) (fun x => [.lst 4 (l.map En.av) m, I .i64 (k : Nat), .own x.2 x.1, I .i64 (x.1 : Nat)]) (fun x => [.row x.2 50 4 (((l.take x.1).map (cutE 130 200)).map En.av) 0]) (fun x => k - x.1) (0, _) ⟨Nat.zero_le _, Nat.zero_le _⟩ (Sub.nil_own 50 (by decide) _ [_, _] [_]) ?_
 rintro ⟨i, v⟩ ⟨h1, h2⟩
 dsimp only at h1 h2 ⊢
 repeat' (with_reducible first|apply Stp.go|refine imp fun _=>?_|refine zq ?_|refine zt ?_|refine zf ?_|refine zg ?_|refine za ?_|refine altF ?_|refine all fun _=>?_|refine both ?_ ?_|refine zu ?_|refine zv ?_|refine cho (fun _=>?_) fun _=>?_|refine zw ?_)
 ·rename_i w
  refine again (i + 1, w) (by dsimp only; omega) ⟨by dsimp only; omega, by dsimp only; omega⟩ ?_
  have e : (l.take (i + 1)).map (cutE 130 200) = (l.take i).map (cutE 130 200) ++ [cutE 130 200 (l.getD i default)] := by rw [take_succ_d (by omega), List.map_append]; rfl
  have en : ((l.take i).map (cutE 130 200)).length = i := by simp; omega
  dsimp only
  rw [e, List.length_append, en, take_minN, take_minN]
  exact Sub.drop_ (List.sublist_cons_self _ _) _
 ·have e : i = min l.length k := by omega
  refine ⟨_, _, _, rfl, retOwn (Sub.refl _ _), ?_, rfl⟩
  rw [e, take_minN]
 ·have e : i = min l.length k := by omega
  refine ⟨_, _, _, rfl, retOwn (Sub.refl _ _), ?_, rfl⟩
  rw [e, take_minN]
instance {a : AV} {l : List En} {m : SM} {k : Nat} {x : Int} [h : IsL a En.av 4 l m] [hk : NatOf x k] : PC Tryz.prog 12 [a, .val (.int .i64 x)] (l.length ≤ 9223372036854775807 ∧ k ≤ 1000) (.lst 4 (((l.take k).map (cutE 130 200)).map En.av) .ro) := ⟨fun hl => by rw [hk.eq]; exact ⟨[.lst 4 (l.map En.av) m, I .i64 (k : Nat)], ⟨h.sub, SubVs.refl _⟩, few17_ok l m k hl.1 hl.2⟩⟩
end Go.Ab

namespace Go.Ab
open Go.Proofs
theorem getD_memT {α : Type} [Inhabited α] {l : List α} {i : Nat} (h : i < l.length) : l.getD i default ∈ l := by
 rw [List.getD_eq_getElem?_getD, List.getElem?_eq_getElem h]; exact List.getElem_mem _
theorem findIdx_at {α : Type} [Inhabited α] {l : List α} {p : α → Bool} {i : Nat} (hi : i < l.length) (h : p (l.getD i default) = true) (h2 : ∀ j, j < i → p (l.getD j default) = false) : l.findIdx p = i := by
 rw [List.findIdx_eq hi]
 have e : ∀ j (hj : j < l.length), l.getD j default = l[j] := fun j hj => by rw [List.getD_eq_getElem?_getD, List.getElem?_eq_getElem hj]; rfl
 exact ⟨by rw [← e i hi]; exact h, fun j hj => by rw [← e j (by omega)]; exact h2 j hj⟩
theorem findIdx_none {α : Type} [Inhabited α] {l : List α} {p : α → Bool} (h : ∀ j, j < l.length → p (l.getD j default) = false) : l.findIdx p = l.length := by
 rw [List.findIdx_eq_length]
 intro x hx
 obtain ⟨j, hj, rfl⟩ := List.mem_iff_getElem.1 hx
 have := h j hj
 rw [List.getD_eq_getElem?_getD, List.getElem?_eq_getElem hj] at this
 exact this
def aheadT (x y : TabR) : Bool := decide (x.lev < y.lev) || (decide (x.lev = y.lev) && lt x.fst y.fst)
def stayT (l : List TabR) (ins : List Int) (k : Nat) : List TabR := ((List.range k).filter fun i => !decide (((i : Nat) : Int) ∈ ins)).map fun i : Nat => l.getD i default
def insT (out : List TabR) (x : TabR) : List TabR := out.take (out.findIdx fun y => !aheadT y x) ++ x :: out.drop (out.findIdx fun y => !aheadT y x)
def placeT (l : List TabR) (ins : List Int) (parts : List TabR) : List TabR := parts.foldl insT (stayT l ins l.length)
theorem stayT_succ (l : List TabR) (ins : List Int) (k : Nat) : stayT l ins (k + 1) = stayT l ins k ++ if (k : Int) ∈ ins then [] else [l.getD k default] := by
 unfold stayT
 rw [List.range_succ, List.filter_append, List.map_append]
 congr 1
 by_cases h : (k : Int) ∈ ins
 ·rw [if_pos h]; simp only [List.filter_cons, h, decide_true, Bool.not_true, Bool.false_eq_true, if_false, List.filter_nil]; rfl
 ·rw [if_neg h]; simp only [List.filter_cons, h, decide_false, Bool.not_false, if_true, List.filter_nil]; rfl
theorem stayT_len (l : List TabR) (ins : List Int) (k : Nat) : (stayT l ins k).length ≤ k := by
 unfold stayT
 rw [List.length_map]
 exact Nat.le_trans (List.length_filter_le _ _) (by rw [List.length_range]; exact Nat.le_refl _)
theorem insT_len (out : List TabR) (x : TabR) : (insT out x).length = out.length + 1 := by
 have h := List.findIdx_le_length (xs := out) (p := fun y => !aheadT y x)
 unfold insT
 rw [List.length_append, List.length_take, List.length_cons, List.length_drop]
 omega
theorem foldl_ins_len (parts : List TabR) : ∀ out : List TabR, (parts.foldl insT out).length = out.length + parts.length := by
 induction parts with
 | nil => intro out; rfl
 | cons x l ih => intro out; rw [List.foldl_cons, ih, insT_len, List.length_cons]; omega
def move_ahead.mark : Mark := ⟨fun t => false, fun t => false, fun t => Nat.beq t 2 || Nat.beq t 3, fun t => Nat.beq t 6 || Nat.beq t 8 || Nat.beq t 12 || Nat.beq t 14 || Nat.beq t 18 || Nat.beq t 20, fun t => false⟩
def move_ahead.ann : Ann := ⟨fun n => [], fun n => none, fun n => none⟩
def move_ahead.sh (a0 a1 : AV) (σ : Store) (Q : AEnd → Store → Prop) : Prop :=
 Do (aFreeze ((a0 : AV)).cells) fun t2 =>
 Do (aFreeze ((a1 : AV)).cells) fun t3 =>
 Do (aFieldAddr 0 1 t2) fun t5 =>
 Do (loadF false 1 t5) fun t6 =>
 Do (aFieldAddr 0 1 t3) fun t7 =>
 Do (loadF false 1 t7) fun t8 =>
 Do (aBin Tryz.prog .lss 3 t6 t8) fun t9 =>
 Do (aGuard t9 false (aFieldAddr 0 1 t2)) fun t11 =>
 Do (aGuard t9 false (loadF false 1 t11)) fun t12 =>
 Do (aGuard t9 false (aFieldAddr 0 1 t3)) fun t13 =>
 Do (aGuard t9 false (loadF false 1 t13)) fun t14 =>
 Do (aGuard t9 false (aBin Tryz.prog .eql 3 t12 t14)) fun t15 =>
 Do (aGuard t9 false (aIs t15)) fun t16 =>
 Do (aGuard t16 true (aFieldAddr 34 1 t2)) fun t17 =>
 Do (aGuard t16 true (loadF false 1 t17)) fun t18 =>
 Do (aGuard t16 true (aFieldAddr 34 1 t3)) fun t19 =>
 Do (aGuard t16 true (loadF false 1 t19)) fun t20 =>
 Do (aGuard t16 true (aBin Tryz.prog .lss 9 t18 t20)) fun t21 =>
 Do (aGuard t9 false (aPick t16 t21 (.val (.bool false)))) fun t22 =>
 Do (aPick t9 (.val (.bool true)) t22) fun t23 =>
 Q (.ret t23) σ
theorem move_ahead.eq (a0 a1 : AV) (σ : Store) (Q : AEnd → Store → Prop) : vc (semOf Tryz.prog move_ahead.mark) Tryz.f42.ntmps move_ahead.ann (bodyOf Tryz.f42) (endK [.tmp 4] Q) (argFr [a0, a1]) σ = move_ahead.sh a0 a1 σ Q := by kernel_rfl
theorem move_ahead.go {a0 a1 : AV} {σ : Store} {Q : AEnd → Store → Prop} (h : move_ahead.sh a0 a1 σ Q) : ACalls Tryz.prog 42 [a0, a1] σ Q :=
 acalls_of_eq [.tmp 4] Tryz.func42 (by kernel_rfl) (by kernel_rfl) (by kernel_rfl) (by kernel_rfl) (move_ahead.eq a0 a1 σ Q) h
def move_Place_1.mark : Mark := ⟨fun t => Nat.beq t 6, fun t => false, fun t => Nat.beq t 2, fun t => Nat.beq t 4, fun t => false⟩
def move_Place_1.ann : Ann := ⟨fun n => [], fun n => none, fun n => none⟩
def move_Place_1.sh (a0 a1 : AV) (σ : Store) (Q : AEnd → Store → Prop) : Prop :=
 Do (aFreeze ((a0 : AV)).cells) fun t2 =>
 Do (loadF true 36 t2) fun t4 =>
 Do (loadA true 36 a1 σ) fun t5 =>
 Do (aPureC Tryz.prog 42 [t4, t5]) fun t6 =>
 Do (aUn Tryz.prog .not t6) fun t7 =>
 Q (.ret t7) σ
theorem move_Place_1.eq (a0 a1 : AV) (σ : Store) (Q : AEnd → Store → Prop) : vc (semOf Tryz.prog move_Place_1.mark) Tryz.f41.ntmps move_Place_1.ann (bodyOf Tryz.f41) (endK [.tmp 3] Q) (argFr [a0, a1]) σ = move_Place_1.sh a0 a1 σ Q := by kernel_rfl
theorem move_Place_1.go {a0 a1 : AV} {σ : Store} {Q : AEnd → Store → Prop} (h : move_Place_1.sh a0 a1 σ Q) : ACalls Tryz.prog 41 [a0, a1] σ Q :=
 acalls_of_eq [.tmp 3] Tryz.func41 (by kernel_rfl) (by kernel_rfl) (by kernel_rfl) (by kernel_rfl) (move_Place_1.eq a0 a1 σ Q) h
def slices_Index.mark : Mark := ⟨fun t => false, fun t => false, fun t => false, fun t => Nat.beq t 15, fun t => false⟩
def slices_Index.ann : Ann := ⟨fun n => bif Nat.beq n 2 then [0, 1, 7, 8] else [], fun n => none, fun n => none⟩
def slices_Index.sh (a0 a1 : AV) (σ : Store) (Q : AEnd → Store → Prop) : Prop :=
 Do (aBuiltin Tryz.prog .len #[23] [a0]) fun t7 =>
 aLoop (fun go vs σ =>
 At vs 0 fun s0 => At vs 1 fun s1 => At vs 2 fun s7 => At vs 3 fun s8 => Do (aBin Tryz.prog .lss 3 s8 s7) fun t9 =>
 aCond t9
 (Do (aIndexAddr .slice 1 s0 s8) fun t14 =>
 Do (loadF false 1 t14) fun t15 =>
 Do (aBin Tryz.prog .eql 3 s1 t15) fun t16 =>
 aCond t16
 (Q (.ret s8) σ)
 (Do (aBin Tryz.prog .add 3 s8 (.val (.int .i64 1))) fun t18 =>
 go [s0, s1, s7, t18] σ))
 (Q (.ret (.val (.int .i64 (-1)))) σ))
 [a0, a1, t7, (.val (.int .i64 0))] σ
theorem slices_Index.eq (a0 a1 : AV) (σ : Store) (Q : AEnd → Store → Prop) : vc (semOf Tryz.prog slices_Index.mark) Tryz.f77.ntmps slices_Index.ann (bodyOf Tryz.f77) (endK [.tmp 4] Q) (argFr [a0, a1]) σ = slices_Index.sh a0 a1 σ Q := by kernel_rfl
theorem slices_Index.go {a0 a1 : AV} {σ : Store} {Q : AEnd → Store → Prop} (h : slices_Index.sh a0 a1 σ Q) : ACalls Tryz.prog 77 [a0, a1] σ Q :=
 acalls_of_eq [.tmp 4] Tryz.func77 (by kernel_rfl) (by kernel_rfl) (by kernel_rfl) (by kernel_rfl) (slices_Index.eq a0 a1 σ Q) h
def slices_Contains.mark : Mark := ⟨fun t => Nat.beq t 7, fun t => false, fun t => false, fun t => false, fun t => false⟩
def slices_Contains.ann : Ann := ⟨fun n => [], fun n => none, fun n => none⟩
def slices_Contains.sh (a0 a1 : AV) (σ : Store) (Q : AEnd → Store → Prop) : Prop :=
 Do (aPureC Tryz.prog 77 [a0, a1]) fun t7 =>
 Do (aBin Tryz.prog .geq 3 t7 (.val (.int .i64 0))) fun t8 =>
 Q (.ret t8) σ
theorem slices_Contains.eq (a0 a1 : AV) (σ : Store) (Q : AEnd → Store → Prop) : vc (semOf Tryz.prog slices_Contains.mark) Tryz.f39.ntmps slices_Contains.ann (bodyOf Tryz.f39) (endK [.tmp 4] Q) (argFr [a0, a1]) σ = slices_Contains.sh a0 a1 σ Q := by kernel_rfl
theorem slices_Contains.go {a0 a1 : AV} {σ : Store} {Q : AEnd → Store → Prop} (h : slices_Contains.sh a0 a1 σ Q) : ACalls Tryz.prog 39 [a0, a1] σ Q :=
 acalls_of_eq [.tmp 4] Tryz.func39 (by kernel_rfl) (by kernel_rfl) (by kernel_rfl) (by kernel_rfl) (slices_Contains.eq a0 a1 σ Q) h
def move_Place.mark : Mark := ⟨fun t => Nat.beq t 22, fun t => Nat.beq t 45, fun t => false, fun t => Nat.beq t 19 || Nat.beq t 34, fun t => false⟩
def move_Place.ann : Ann := ⟨fun n => bif Nat.beq n 3 then [1, 2, 7, 13, 14, 15] else bif Nat.beq n 9 then [7, 29, 30, 31] else [], fun n => bif Nat.beq n 14 then some [7, 11, 12, 29, 30, 31] else none, fun n => none⟩
def move_Place.sh (a0 a1 a2 : AV) (σ : Store) (Q : AEnd → Store → Prop) : Prop :=
 Do (aBuiltin Tryz.prog .len #[24] [a0]) fun t14 =>
 aLoop (fun go vs σ =>
 At vs 0 fun s1 => At vs 1 fun s2 => At vs 2 fun s7 => At vs 3 fun s13 => At vs 4 fun s14 => At vs 5 fun s15 => Do (aBin Tryz.prog .lss 3 s15 s14) fun t16 =>
 aCond t16
 (Do (aIndexAddr .slice 36 s13 s15) fun t18 =>
 Do (loadF true 36 t18) fun t19 =>
 aNewVar 58 [.val (.int .i64 0), .val (.int .i64 0), .val (.int .u8 0), .val (.int .u8 0), .val (.int .u8 0), .val (.int .u8 0), .val (.int .u8 0), .val (.int .u8 0), .val (.int .u8 0), .val (.int .u8 0), .val (.int .u8 0), .val (.int .u8 0), .val (.int .u8 0), .val (.int .u8 0), .val (.int .u8 0), .val (.int .u8 0), .val (.int .u8 0), .val (.int .u8 0), .val (.int .u8 0), .val (.int .u8 0), .val (.int .u8 0), .val (.int .u8 0), .val (.int .u8 0), .val (.int .u8 0), .val (.int .u8 0), .val (.int .u8 0), .val (.int .u8 0), .val (.int .u8 0), .val (.int .u8 0), .val (.int .u8 0), .val (.int .u8 0), .val (.int .u8 0), .val (.int .u8 0), .val (.int .u8 0), .val (.string ⟨#[]⟩), .val (.string ⟨#[]⟩)] σ fun t9 σ_1 =>
 storeA 36 t9 t19 σ_1 fun u σ_2 =>
 Do (aPureC Tryz.prog 39 [s1, s15]) fun t22 =>
 Do (aUn Tryz.prog .not t22) fun t23 =>
 aCond t23
 (Do (loadA true 36 t9 σ_2) fun t25 =>
 Do (aSlLit (mkE [.val (.int .i64 0), .val (.int .i64 0), .val (.int .u8 0), .val (.int .u8 0), .val (.int .u8 0), .val (.int .u8 0), .val (.int .u8 0), .val (.int .u8 0), .val (.int .u8 0), .val (.int .u8 0), .val (.int .u8 0), .val (.int .u8 0), .val (.int .u8 0), .val (.int .u8 0), .val (.int .u8 0), .val (.int .u8 0), .val (.int .u8 0), .val (.int .u8 0), .val (.int .u8 0), .val (.int .u8 0), .val (.int .u8 0), .val (.int .u8 0), .val (.int .u8 0), .val (.int .u8 0), .val (.int .u8 0), .val (.int .u8 0), .val (.int .u8 0), .val (.int .u8 0), .val (.int .u8 0), .val (.int .u8 0), .val (.int .u8 0), .val (.int .u8 0), .val (.int .u8 0), .val (.int .u8 0), .val (.string ⟨#[]⟩), .val (.string ⟨#[]⟩)]) 36 1 [(0, t25)]) fun t26 =>
 aAppend 58 36 80 s7 t26 σ_2 (subK fun t27 σ_3 =>
 Do (aBin Tryz.prog .add 3 s15 (.val (.int .i64 1))) fun t28 =>
 go [s1, s2, t27, s13, s14, t28] σ_3))
 (Do (aBin Tryz.prog .add 3 s15 (.val (.int .i64 1))) fun t28_1 =>
 go [s1, s2, s7, s13, s14, t28_1] σ_2))
 (Do (aBuiltin Tryz.prog .len #[24] [s2]) fun t30 =>
 aLoop (fun go_1 vs_1 σ_4 =>
 At vs_1 0 fun s7_1 => At vs_1 1 fun s29 => At vs_1 2 fun s30 => At vs_1 3 fun s31 => Do (aBin Tryz.prog .lss 3 s31 s30) fun t32 =>
 aCond t32
 (Do (aIndexAddr .slice 36 s29 s31) fun t33 =>
 Do (loadF true 36 t33) fun t34 =>
 aNewVar 58 [.val (.int .i64 0), .val (.int .i64 0), .val (.int .u8 0), .val (.int .u8 0), .val (.int .u8 0), .val (.int .u8 0), .val (.int .u8 0), .val (.int .u8 0), .val (.int .u8 0), .val (.int .u8 0), .val (.int .u8 0), .val (.int .u8 0), .val (.int .u8 0), .val (.int .u8 0), .val (.int .u8 0), .val (.int .u8 0), .val (.int .u8 0), .val (.int .u8 0), .val (.int .u8 0), .val (.int .u8 0), .val (.int .u8 0), .val (.int .u8 0), .val (.int .u8 0), .val (.int .u8 0), .val (.int .u8 0), .val (.int .u8 0), .val (.int .u8 0), .val (.int .u8 0), .val (.int .u8 0), .val (.int .u8 0), .val (.int .u8 0), .val (.int .u8 0), .val (.int .u8 0), .val (.int .u8 0), .val (.string ⟨#[]⟩), .val (.string ⟨#[]⟩)] σ_4 fun t11 σ_5 =>
 storeA 36 t11 t34 σ_5 fun u_1 σ_6 =>
 aCall Tryz.prog 40 [s7_1, (.fn (.func 41) [] [t11])] σ_6 (fun t37 σ_7 =>
 aJoin (fun j =>
 Do (aBin Tryz.prog .lss 3 t37 (.val (.int .i64 0))) fun t39 =>
 aCond t39
 (Do (aBuiltin Tryz.prog .len #[24] [s7_1]) fun t41 =>
 j [s7_1, t11, t41, s29, s30, s31] σ_7)
 (j [s7_1, t11, t37, s29, s30, s31] σ_7)) fun vs_2 σ_8 =>
 At vs_2 0 fun s7_2 => At vs_2 1 fun s11 => At vs_2 2 fun s12 => At vs_2 3 fun s29_1 => At vs_2 4 fun s30_1 => At vs_2 5 fun s31_1 => Do (loadA true 36 s11 σ_8) fun t44 =>
 aRowL 58 (mkE [.val (.int .i64 0), .val (.int .i64 0), .val (.int .u8 0), .val (.int .u8 0), .val (.int .u8 0), .val (.int .u8 0), .val (.int .u8 0), .val (.int .u8 0), .val (.int .u8 0), .val (.int .u8 0), .val (.int .u8 0), .val (.int .u8 0), .val (.int .u8 0), .val (.int .u8 0), .val (.int .u8 0), .val (.int .u8 0), .val (.int .u8 0), .val (.int .u8 0), .val (.int .u8 0), .val (.int .u8 0), .val (.int .u8 0), .val (.int .u8 0), .val (.int .u8 0), .val (.int .u8 0), .val (.int .u8 0), .val (.int .u8 0), .val (.int .u8 0), .val (.int .u8 0), .val (.int .u8 0), .val (.int .u8 0), .val (.int .u8 0), .val (.int .u8 0), .val (.int .u8 0), .val (.int .u8 0), .val (.string ⟨#[]⟩), .val (.string ⟨#[]⟩)]) 36 1 [(0, t44)] σ_8 fun t45 σ_9 =>
 aCall Tryz.prog 43 [s7_2, s12, t45] σ_9 (fun t46 σ_10 =>
 Do (aBin Tryz.prog .add 3 s31_1 (.val (.int .i64 1))) fun t47 =>
 go_1 [t46, s29_1, s30_1, t47] σ_10) (fun e σ_11 => Q (.pan e) σ_11)) (fun e_1 σ_12 => Q (.pan e_1) σ_12))
 (Q (.ret s7_1) σ_4))
 [s7, s2, t30, (.val (.int .i64 0))] σ))
 [a1, a2, (.val (.slice none 0 0)), a0, t14, (.val (.int .i64 0))] σ
theorem move_Place.eq (a0 a1 a2 : AV) (σ : Store) (Q : AEnd → Store → Prop) : vc (semOf Tryz.prog move_Place.mark) Tryz.f17.ntmps move_Place.ann (bodyOf Tryz.f17) (endK [.tmp 6] Q) (argFr [a0, a1, a2]) σ = move_Place.sh a0 a1 a2 σ Q := by kernel_rfl
theorem move_Place.go {a0 a1 a2 : AV} {σ : Store} {Q : AEnd → Store → Prop} (h : move_Place.sh a0 a1 a2 σ Q) : ACalls Tryz.prog 17 [a0, a1, a2] σ Q :=
 acalls_of_eq [.tmp 6] Tryz.func17 (by kernel_rfl) (by kernel_rfl) (by kernel_rfl) (by kernel_rfl) (move_Place.eq a0 a1 a2 σ Q) h
namespace Tbl
def slices_IndexFunc.mark : Mark := ⟨fun t => false, fun t => false, fun t => false, fun t => false, fun t => false⟩
def slices_IndexFunc.ann : Ann := ⟨fun n => bif Nat.beq n 2 then [0, 1, 7, 8] else [], fun n => none, fun n => none⟩
def slices_IndexFunc.sh (a0 a1 : AV) (σ : Store) (Q : AEnd → Store → Prop) : Prop :=
 Do (aBuiltin Tryz.prog .len #[24] [a0]) fun t7 =>
 aLoop (fun go vs σ =>
 At vs 0 fun s0 => At vs 1 fun s1 => At vs 2 fun s7 => At vs 3 fun s8 => Do (aBin Tryz.prog .lss 3 s8 s7) fun t9 =>
 aCond t9
 (Do (aIndexAddr .slice 36 s0 s8) fun t14 =>
 Do (loadA true 36 t14 σ) fun t15 =>
 aCallV Tryz.prog s1 [t15] σ (fun t16 σ_1 =>
 aCond t16
 (Q (.ret s8) σ_1)
 (Do (aBin Tryz.prog .add 3 s8 (.val (.int .i64 1))) fun t18 =>
 go [s0, s1, s7, t18] σ_1)) (fun e σ_2 => Q (.pan e) σ_2))
 (Q (.ret (.val (.int .i64 (-1)))) σ))
 [a0, a1, t7, (.val (.int .i64 0))] σ
theorem slices_IndexFunc.eq (a0 a1 : AV) (σ : Store) (Q : AEnd → Store → Prop) : vc (semOf Tryz.prog slices_IndexFunc.mark) Tryz.f40.ntmps slices_IndexFunc.ann (bodyOf Tryz.f40) (endK [.tmp 4] Q) (argFr [a0, a1]) σ = slices_IndexFunc.sh a0 a1 σ Q := by kernel_rfl
theorem slices_IndexFunc.go {a0 a1 : AV} {σ : Store} {Q : AEnd → Store → Prop} (h : slices_IndexFunc.sh a0 a1 σ Q) : ACalls Tryz.prog 40 [a0, a1] σ Q :=
 acalls_of_eq [.tmp 4] Tryz.func40 (by kernel_rfl) (by kernel_rfl) (by kernel_rfl) (by kernel_rfl) (slices_IndexFunc.eq a0 a1 σ Q) h
end Tbl
theorem ahead_ok (x y : TabR) : aPure Tryz.prog 42 [tbF x, tbF y] (B (aheadT x y)) := by
  refine move_ahead.go ?_
  unfold move_ahead.sh
  repeat' (with_reducible first|apply Stp.go|refine imp fun _=>?_|refine zq ?_|refine zt ?_|refine zf ?_|refine zg ?_|refine za ?_|refine altF ?_|refine all fun _=>?_|refine both ?_ ?_|refine zu ?_|refine zv ?_|refine cho (fun _=>?_) fun _=>?_|refine zw ?_)
  all_goals
    refine ⟨?_, rfl⟩
    unfold aheadT
    first
    | (rw [decide_eq_true (show x.lev < y.lev by omega)]; rfl)
    | (rw [decide_eq_false (show ¬ x.lev < y.lev by omega), Bool.false_or]
       first
       | (rw [decide_eq_true (show x.lev = y.lev by omega)]; rfl)
       | (rw [decide_eq_false (show ¬ x.lev = y.lev by omega)]; rfl))
instance {lev cnt lev' cnt' : Int} {d f g d' f' g' : List UInt8} [hd : Len32 d] [hd' : Len32 d'] : PC Tryz.prog 42 [tabA lev cnt d f g, tabA lev' cnt' d' f' g'] True (B (aheadT ⟨lev, cnt, ⟨d, hd.len⟩, f, g⟩ ⟨lev', cnt', ⟨d', hd'.len⟩, f', g'⟩)) := ⟨fun _ => PC.of (ahead_ok ⟨lev, cnt, ⟨d, hd.len⟩, f, g⟩ ⟨lev', cnt', ⟨d', hd'.len⟩, f', g'⟩)⟩
theorem place1_ok (b : Nat) (x y : TabR) : ACalls Tryz.prog 41 [tbF y, ptrAt b 0] [.var b TbE (tbC x)] (fun r σ => r = .ret (B (!aheadT y x)) ∧ σ = [.var b TbE (tbC x)]) := by
 refine move_Place_1.go ?_
 unfold move_Place_1.sh
 repeat' (with_reducible first|apply Stp.go|refine imp fun _=>?_|refine zq ?_|refine zt ?_|refine zf ?_|refine zg ?_|refine za ?_|refine altF ?_|refine all fun _=>?_|refine both ?_ ?_|refine zu ?_|refine zv ?_|refine cho (fun _=>?_) fun _=>?_|refine zw ?_)
 exact ⟨rfl, rfl⟩
theorem Index_ok (l : List Int) (m : SM) (x : Int) (hl : l.length ≤ 1000000) : aPure Tryz.prog 77 [.lst 1 (l.map it) m, I .i64 x] (I .i64 (if x ∈ l then ((l.findIdx fun y => decide (x = y) : Nat) : Int) else -1)) := by
 refine ACalls.fin (slices_Index.go ?_)
 unfold slices_Index.sh
 repeat' (with_reducible first|apply Stp.go|refine imp fun _=>?_|refine zq ?_|refine zt ?_|refine zf ?_|refine zg ?_|refine za ?_|refine altF ?_|refine all fun _=>?_|refine both ?_ ?_|refine zu ?_|refine zv ?_|refine cho (fun _=>?_) fun _=>?_|refine zw ?_)
 refine loopI (β := Nat) (fun i => i ≤ l.length ∧ ∀ j, j < i → ¬ x = l.getD j default) (fun i => [.lst 1 (l.map it) m, I .i64 x, I .i64 (l.length : Nat), I .i64 (i : Nat)]) (fun _ => []) (fun i => l.length - i) 0 ⟨Nat.zero_le _, fun j h => absurd h (Nat.not_lt_zero _)⟩ (Sub.refl _ _) ?_
 rintro i ⟨h1, h2⟩
 dsimp only at h1 h2 ⊢
 by_cases hi : i < l.length
 ·by_cases hx : x = l.getD i default
  ·have hm : x ∈ l := by rw [hx]; exact getD_memT hi
   have hf : l.findIdx (fun y => decide (x = y)) = i := by
    exact findIdx_at hi (by rw [decide_eq_true_eq]; exact hx) (fun j hj => by rw [decide_eq_false_iff_not]; exact h2 j hj)
   rw [if_pos hm, hf]
   repeat' (with_reducible first|apply Stp.go|refine imp fun _=>?_|refine zq ?_|refine zt ?_|refine zf ?_|refine zg ?_|refine za ?_|refine altF ?_|refine all fun _=>?_|refine both ?_ ?_|refine zu ?_|refine zv ?_|refine cho (fun _=>?_) fun _=>?_|refine zw ?_)
   exact ⟨_, _, _, rfl, Sub.app_nil _, rfl, rfl⟩
  ·repeat' (with_reducible first|apply Stp.go|refine imp fun _=>?_|refine zq ?_|refine zt ?_|refine zf ?_|refine zg ?_|refine za ?_|refine altF ?_|refine all fun _=>?_|refine both ?_ ?_|refine zu ?_|refine zv ?_|refine cho (fun _=>?_) fun _=>?_|refine zw ?_)
   exact again (i + 1) (by omega) ⟨by omega, fun j hj => by
    by_cases e : j = i
    ·rw [e]; exact hx
    ·exact h2 j (by omega)⟩ (Sub.refl _ _)
 ·have hn : ¬ x ∈ l := fun h => by
   obtain ⟨j, hj, e⟩ := List.mem_iff_getElem.1 h
   refine h2 j (by omega) ?_
   rw [List.getD_eq_getElem?_getD, List.getElem?_eq_getElem hj]; exact e.symm
  rw [if_neg hn]
  repeat' (with_reducible first|apply Stp.go|refine imp fun _=>?_|refine zq ?_|refine zt ?_|refine zf ?_|refine zg ?_|refine za ?_|refine altF ?_|refine all fun _=>?_|refine both ?_ ?_|refine zu ?_|refine zv ?_|refine cho (fun _=>?_) fun _=>?_|refine zw ?_)
  exact ⟨_, _, _, rfl, Sub.app_nil _, rfl, rfl⟩
theorem Contains_ok (l : List Int) (m : SM) (x : Int) (hl : l.length ≤ 1000000) : aPure Tryz.prog 39 [.lst 1 (l.map it) m, I .i64 x] (B (decide (x ∈ l))) := by
 refine slices_Contains.go ?_
 unfold slices_Contains.sh
 by_cases h : x ∈ l
 ·have hi : PC Tryz.prog 77 [.lst 1 (l.map it) m, I .i64 x] True (I .i64 ((l.findIdx fun y => decide (x = y) : Nat) : Int)) := ⟨fun _ => by
   have := Index_ok l m x hl
   rw [if_pos h] at this
   exact PC.of this⟩
  rw [decide_eq_true h]
  repeat' (with_reducible first|apply Stp.go|refine imp fun _=>?_|refine zq ?_|refine zt ?_|refine zf ?_|refine zg ?_|refine za ?_|refine altF ?_|refine all fun _=>?_|refine both ?_ ?_|refine zu ?_|refine zv ?_|refine cho (fun _=>?_) fun _=>?_|refine zw ?_)
  all_goals first
   | exact ⟨by rw [decide_eq_true (by omega)], rfl⟩
   | exact ⟨rfl, rfl⟩
 ·have hi : PC Tryz.prog 77 [.lst 1 (l.map it) m, I .i64 x] True (I .i64 (-1)) := ⟨fun _ => by
   have := Index_ok l m x hl
   rw [if_neg h] at this
   exact PC.of this⟩
  rw [decide_eq_false h]
  repeat' (with_reducible first|apply Stp.go|refine imp fun _=>?_|refine zq ?_|refine zt ?_|refine zf ?_|refine zg ?_|refine za ?_|refine altF ?_|refine all fun _=>?_|refine both ?_ ?_|refine zu ?_|refine zv ?_|refine cho (fun _=>?_) fun _=>?_|refine zw ?_)
  all_goals first
   | exact ⟨rfl, rfl⟩
   | exact ⟨by rw [decide_eq_false (by omega)], rfl⟩
instance {a : AV} {l : List Int} {m : SM} {x : Int} [h : IsL a it 1 l m] : PC Tryz.prog 39 [a, .val (.int .i64 x)] (l.length ≤ 1000000) (B (decide (x ∈ l))) := ⟨fun hl => ⟨[.lst 1 (l.map it) m, I .i64 x], ⟨h.sub, SubV.refl _, trivial⟩, Contains_ok l m x hl⟩⟩
theorem IndexT_ok (v : Value) (l : List TabR) (b : Nat) (x : TabR) (hl : l.length ≤ 1000000) : ACalls Tryz.prog 40 [.own v l.length, .fn (.func 41) [] [ptrAt b 0]] [.row v TbE 36 (l.map tbF) 0, .var b TbE (tbC x)] (fun r σ => (∃ z : Int, r = .ret (I .i64 z) ∧ ((l.findIdx (fun y => !aheadT y x) < l.length ∧ z = (l.findIdx (fun y => !aheadT y x) : Nat)) ∨ (l.findIdx (fun y => !aheadT y x) = l.length ∧ z = -1))) ∧ σ = [.row v TbE 36 (l.map tbF) 0, .var b TbE (tbC x)]) := by
 refine ACalls.fin (Tbl.slices_IndexFunc.go ?_)
 unfold Tbl.slices_IndexFunc.sh
 repeat' (with_reducible first|apply Stp.go|refine imp fun _=>?_|refine zq ?_|refine zt ?_|refine zf ?_|refine zg ?_|refine za ?_|refine altF ?_|refine all fun _=>?_|refine both ?_ ?_|refine zu ?_|refine zv ?_|refine cho (fun _=>?_) fun _=>?_|refine zw ?_)
 refine loopI (β := Nat) (fun i => i ≤ l.length ∧ ∀ j, j < i → (!aheadT (l.getD j default) x) = false) (fun i => [.own v l.length, .fn (.func 41) [] [ptrAt b 0], I .i64 (l.length : Nat), I .i64 (i : Nat)]) (fun _ => [.row v TbE 36 (l.map tbF) 0, .var b TbE (tbC x)]) (fun i => l.length - i) 0 ⟨Nat.zero_le _, fun j h => absurd h (Nat.not_lt_zero _)⟩ (Sub.refl _ _) ?_
 rintro i ⟨h1, h2⟩
 dsimp only at h1 h2 ⊢
 by_cases hi : i < l.length
 ·repeat' (with_reducible first|apply Stp.go|refine imp fun _=>?_|refine zq ?_|refine zt ?_|refine zf ?_|refine zg ?_|refine za ?_|refine altF ?_|refine all fun _=>?_|refine both ?_ ?_|refine zu ?_|refine zv ?_|refine cho (fun _=>?_) fun _=>?_|refine zw ?_)
  refine Or.inl ⟨_, _, subS (τ := [.var b TbE (tbC x), .row v TbE 36 (l.map tbF) 0]) _, ((place1_ok b x (l.getD i default)).frame [.row v TbE 36 (l.map tbF) 0]).mono ?_⟩
  rintro r τ ⟨σ1, e1, _, e2, e3⟩
  rw [e2, e1, e3]
  simp only [onEnd]
  by_cases ha : aheadT (l.getD i default) x = true
  ·repeat' (with_reducible first|apply Stp.go|refine imp fun _=>?_|refine zq ?_|refine zt ?_|refine zf ?_|refine zg ?_|refine za ?_|refine altF ?_|refine all fun _=>?_|refine both ?_ ?_|refine zu ?_|refine zv ?_|refine cho (fun _=>?_) fun _=>?_|refine zw ?_)
   exact again (i + 1) (by omega) ⟨by omega, fun j hj => by
    by_cases e : j = i
    ·rw [e, ha]; rfl
    ·exact h2 j (by omega)⟩ (Sub.perm (List.Perm.swap _ _ _) _)
  ·have hf : l.findIdx (fun y => !aheadT y x) = i := findIdx_at hi (by rw [Bool.eq_false_iff.2 ha]; rfl) h2
   repeat' (with_reducible first|apply Stp.go|refine imp fun _=>?_|refine zq ?_|refine zt ?_|refine zf ?_|refine zg ?_|refine za ?_|refine altF ?_|refine all fun _=>?_|refine both ?_ ?_|refine zu ?_|refine zv ?_|refine cho (fun _=>?_) fun _=>?_|refine zw ?_)
   exact ⟨_, _, _, rfl, Sub.perm (List.Perm.swap _ _ _) _, ⟨_, rfl, .inl ⟨by omega, by rw [hf]⟩⟩, rfl⟩
 ·have e : i = l.length := by omega
  subst e
  have hf : l.findIdx (fun y => !aheadT y x) = l.length := findIdx_none h2
  repeat' (with_reducible first|apply Stp.go|refine imp fun _=>?_|refine zq ?_|refine zt ?_|refine zf ?_|refine zg ?_|refine za ?_|refine altF ?_|refine all fun _=>?_|refine both ?_ ?_|refine zu ?_|refine zv ?_|refine cho (fun _=>?_) fun _=>?_|refine zw ?_)
  exact ⟨_, _, _, rfl, Sub.refl _ _, ⟨_, rfl, .inr ⟨hf, rfl⟩⟩, rfl⟩
theorem Place_ok (l : List TabR) (ins : List Int) (parts : List TabR) (m m' m'' : SM) (hl : l.length ≤ 100000) (hi : ins.length ≤ 100000) (hp : parts.length ≤ 100000) : aPure Tryz.prog 17 [.lst 36 (l.map tbF) m, .lst 1 (ins.map it) m', .lst 36 (parts.map tbF) m''] (.lst 36 ((placeT l ins parts).map tbF) .ro) := by
 refine ACalls.fin (move_Place.go ?_)
 unfold move_Place.sh
 repeat' (with_reducible first|apply Stp.go|refine imp fun _=>?_|refine zq ?_|refine zt ?_|refine zf ?_|refine zg ?_|refine za ?_|refine altF ?_|refine all fun _=>?_|refine both ?_ ?_|refine zu ?_|refine zv ?_|refine cho (fun _=>?_) fun _=>?_|refine zw ?_)
 refine loopI (β := Nat × Value) (fun x => x.1 ≤ l.length) (fun x => [.lst 1 (ins.map it) m', .lst 36 (parts.map tbF) m'', .own x.2 (stayT l ins x.1).length, .lst 36 (l.map tbF) m, I .i64 (l.length : Nat), I .i64 (x.1 : Nat)]) (fun x => [.row x.2 TbE 36 ((stayT l ins x.1).map tbF) 0]) (fun x => l.length - x.1) (0, .slice none 0 0) (Nat.zero_le _) (Sub.nil_own TbE (sz := 36) (by decide) _ [_, _] [_, _, _]) ?_
 rintro ⟨i, v⟩ h1
 dsimp only at h1 ⊢
 have hsl := stayT_len l ins i
 by_cases hlt : i < l.length
 ·have hs := stayT_succ l ins i
  by_cases hc : (i : Int) ∈ ins
  ·rw [if_pos hc, List.append_nil] at hs
   repeat' (with_reducible first|apply Stp.go|refine imp fun _=>?_|refine zq ?_|refine zt ?_|refine zf ?_|refine zg ?_|refine za ?_|refine altF ?_|refine all fun _=>?_|refine both ?_ ?_|refine zu ?_|refine zv ?_|refine cho (fun _=>?_) fun _=>?_|refine zw ?_)
   exact again (i + 1, v) (by dsimp only; omega) (by dsimp only; omega) (by dsimp only; rw [hs]; exact Sub.drop_ (.cons _ (.cons_cons _ .slnil)) _)
  ·rw [if_neg hc] at hs
   repeat' (with_reducible first|apply Stp.go|refine imp fun _=>?_|refine zq ?_|refine zt ?_|refine zf ?_|refine zg ?_|refine za ?_|refine altF ?_|refine all fun _=>?_|refine both ?_ ?_|refine zu ?_|refine zv ?_|refine cho (fun _=>?_) fun _=>?_|refine zw ?_)
   rename_i w
   exact again (i + 1, w) (by dsimp only; omega) (by dsimp only; omega) (by dsimp only; rw [hs]; exact subS _)
 ·have e : i = l.length := by omega
  subst e
  repeat' (with_reducible first|apply Stp.go|refine imp fun _=>?_|refine zq ?_|refine zt ?_|refine zf ?_|refine zg ?_|refine za ?_|refine altF ?_|refine all fun _=>?_|refine both ?_ ?_|refine zu ?_|refine zv ?_|refine cho (fun _=>?_) fun _=>?_|refine zw ?_)
  have hfl := foldl_ins_len
  refine loopI (β := Nat × Value) (fun x => x.1 ≤ parts.length) (fun x => [.own x.2 ((parts.take x.1).foldl insT (stayT l ins l.length)).length, .lst 36 (parts.map tbF) m'', I .i64 (parts.length : Nat), I .i64 (x.1 : Nat)]) (fun x => [.row x.2 TbE 36 (((parts.take x.1).foldl insT (stayT l ins l.length)).map tbF) 0]) (fun x => parts.length - x.1) (0, v) (Nat.zero_le _) (Sub.refl _ _) ?_
  rintro ⟨j, w⟩ h2
  dsimp only at h2 ⊢
  have hol : ((parts.take j).foldl insT (stayT l ins l.length)).length ≤ 200000 := by rw [hfl, List.length_take]; omega
  by_cases hj : j < parts.length
  ·have hs : (parts.take (j + 1)).foldl insT (stayT l ins l.length) = insT ((parts.take j).foldl insT (stayT l ins l.length)) (parts.getD j default) := by
    rw [take_succ_d hj, List.foldl_append]; rfl
   generalize (parts.take j).foldl insT (stayT l ins l.length) = O at *
   repeat' (with_reducible first|apply Stp.go|refine imp fun _=>?_|refine zq ?_|refine zt ?_|refine zf ?_|refine zg ?_|refine za ?_|refine altF ?_|refine all fun _=>?_|refine both ?_ ?_|refine zu ?_|refine zv ?_|refine cho (fun _=>?_) fun _=>?_|refine zw ?_)
   rename_i t11
   refine Or.inl ⟨_, _, subS (τ := [.row w TbE 36 (O.map tbF) 0, .var t11 TbE (tbC (parts.getD j default))]) _, (IndexT_ok w O t11 (parts.getD j default) (by omega)).mono ?_⟩
   rintro r τ ⟨⟨z, e1, hz⟩, e2⟩
   rw [e1, e2]
   simp only [onEnd]
   have hfi := List.findIdx_le_length (xs := O) (p := fun y => !aheadT y (parts.getD j default))
   refine joinI (β := Unit) (fun _ => True) (fun _ => [.own w O.length, ptrAt t11 0, I .i64 (O.findIdx (fun y => !aheadT y (parts.getD j default)) : Nat), .lst 36 (parts.map tbF) m'', I .i64 (parts.length : Nat), I .i64 (j : Nat)]) (fun _ => [.row w TbE 36 (O.map tbF) 0, .var t11 TbE (tbC (parts.getD j default))]) ?_ ?_
   ·rcases hz with ⟨g1, rfl⟩ | ⟨g1, rfl⟩
    ·repeat' (with_reducible first|apply Stp.go|refine imp fun _=>?_|refine zq ?_|refine zt ?_|refine zf ?_|refine zg ?_|refine za ?_|refine altF ?_|refine all fun _=>?_|refine both ?_ ?_|refine zu ?_|refine zv ?_|refine cho (fun _=>?_) fun _=>?_|refine zw ?_)
     exact meet () trivial (Sub.refl _ _)
    ·rw [g1]
     repeat' (with_reducible first|apply Stp.go|refine imp fun _=>?_|refine zq ?_|refine zt ?_|refine zf ?_|refine zg ?_|refine za ?_|refine altF ?_|refine all fun _=>?_|refine both ?_ ?_|refine zu ?_|refine zv ?_|refine cho (fun _=>?_) fun _=>?_|refine zw ?_)
     exact meet () trivial (Sub.refl _ _)
   ·rintro ⟨⟩ -
    repeat' (with_reducible first|apply Stp.go|refine imp fun _=>?_|refine zq ?_|refine zt ?_|refine zf ?_|refine zg ?_|refine za ?_|refine altF ?_|refine all fun _=>?_|refine both ?_ ?_|refine zu ?_|refine zv ?_|refine cho (fun _=>?_) fun _=>?_|refine zw ?_)
    rename_i w2
    exact again (j + 1, w2) (by dsimp only; omega) (by dsimp only; omega) (by dsimp only; rw [hs, insT_len]; exact Sub.drop_ (.cons_cons _ (.cons _ .slnil)) _)
  ·have e : j = parts.length := by omega
   subst e
   rw [List.take_length] at hol ⊢
   repeat' (with_reducible first|apply Stp.go|refine imp fun _=>?_|refine zq ?_|refine zt ?_|refine zf ?_|refine zg ?_|refine za ?_|refine altF ?_|refine all fun _=>?_|refine both ?_ ?_|refine zu ?_|refine zv ?_|refine cho (fun _=>?_) fun _=>?_|refine zw ?_)
   exact ⟨_, _, _, rfl, retOwn (Sub.refl _ _), rfl, rfl⟩
instance {a c d : AV} {l : List TabR} {ins : List Int} {parts : List TabR} {m m' m'' : SM} [h1 : IsL a tbF 36 l m] [h2 : IsL c it 1 ins m'] [h3 : IsL d tbF 36 parts m''] : PC Tryz.prog 17 [a, c, d] (l.length ≤ 100000 ∧ ins.length ≤ 100000 ∧ parts.length ≤ 100000) (.lst 36 ((placeT l ins parts).map tbF) .ro) := ⟨fun hl => ⟨[.lst 36 (l.map tbF) m, .lst 1 (ins.map it) m', .lst 36 (parts.map tbF) m''], ⟨h1.sub, h2.sub, h3.sub, trivial⟩, Place_ok l ins parts m m' m'' hl.1 hl.2.1 hl.2.2⟩⟩
end Go.Ab

namespace Go.Ab
open Go.Proofs
structure Cur where
 b : Nat
 l : List En
 at_ : Nat
 no : Nat
instance : Inhabited Cur := ⟨⟨0, [], 0, 0⟩⟩
abbrev CuT : TypeId := 106
abbrev HsT : TypeId := 103
abbrev curE (c : Cur) : Ent := .var c.b CuT [.lst 4 (c.l.map En.av) .ro, I .i64 (c.at_ : Nat), I .i64 (c.no : Nat)]
def cuP (c : Cur) : AV := ptrAt c.b 0
instance : Enc cuP 1 := ⟨fun c => ⟨rfl, fun x hx => by
 have hx : x ∈ [cuP c] := hx
 rw [List.mem_singleton.1 hx]; rfl⟩, by decide, fun _ => rfl⟩
instance (c : Cur) : Cells (cuP c) [cuP c] := ⟨rfl⟩
def hdC (c : Cur) : En := c.l.getD c.at_ default
def ltC (c d : Cur) : Bool := lt (hdC c).key (hdC d).key || (decide ((hdC c).key = (hdC d).key) && decide (c.no < d.no))
theorem ACalls.inn {P : Program} {f : FuncId} {args : List AV} {e : Ent} {σ : Store} {r : AV} (h : ACalls P f args [e] fun x σ' => x = .ret r ∧ σ' = [e]) (hm : e ∈ σ) : ACalls P f args σ fun x σ' => x = .ret r ∧ σ' = σ := by
 obtain ⟨σ1, σ2, rfl⟩ := List.append_of_mem hm
 have hp : (σ1 ++ e :: σ2).Perm ([e] ++ (σ1 ++ σ2)) := List.perm_middle
 refine ACalls.preS ?_ (Sub.perm hp args)
 refine (h.frame (σ1 ++ σ2)).sub fun x σ' ⟨τ, h1, _, h2, h3⟩ => ?_
 exact ⟨r, r, _, h2, by rw [h1, h3]; exact Sub.perm hp.symm _, rfl, rfl⟩
def merge_cursor_head.mark : Mark := ⟨fun t => false, fun t => false, fun t => false, fun t => Nat.beq t 12, fun t => false⟩
def merge_cursor_head.ann : Ann := ⟨fun n => [], fun n => none, fun n => none⟩
def merge_cursor_head.sh (a0 : AV) (σ : Store) (Q : AEnd → Store → Prop) : Prop :=
 aNewVar 50 [.val (.string ⟨#[]⟩), .val (.string ⟨#[]⟩), .val (.bool false), .val (.int .i64 0)] σ fun t2 σ =>
 Do (aNil a0) fun t4 =>
 Do (aFieldAddr 0 1 t4) fun t5 =>
 Do (loadA false 1 t5 σ) fun t6 =>
 Do (aNil a0) fun t8 =>
 Do (aFieldAddr 1 1 t8) fun t9 =>
 Do (loadA false 1 t9 σ) fun t10 =>
 Do (aIndexAddr .slice 4 t6 t10) fun t11 =>
 Do (loadF true 4 t11) fun t12 =>
 storeA 4 t2 t12 σ fun u σ_1 =>
 Do (loadA true 4 t2 σ_1) fun r2 => Q (.ret r2) σ_1
theorem merge_cursor_head.eq (a0 : AV) (σ : Store) (Q : AEnd → Store → Prop) : vc (semOf Tryz.prog merge_cursor_head.mark) Tryz.f69.ntmps merge_cursor_head.ann (bodyOf Tryz.f69) (endK [.cell 2 true 4] Q) (argFr [a0]) σ = merge_cursor_head.sh a0 σ Q := by kernel_rfl
theorem merge_cursor_head.go {a0 : AV} {σ : Store} {Q : AEnd → Store → Prop} (h : merge_cursor_head.sh a0 σ Q) : ACalls Tryz.prog 69 [a0] σ Q :=
 acalls_of_eq [.cell 2 true 4] Tryz.func69 (by kernel_rfl) (by kernel_rfl) (by kernel_rfl) (by kernel_rfl) (merge_cursor_head.eq a0 σ Q) h
def merge_cursor_ahead.mark : Mark := ⟨fun t => false, fun t => false, fun t => false, fun t => false, fun t => false⟩
def merge_cursor_ahead.ann : Ann := ⟨fun n => [], fun n => none, fun n => none⟩
def merge_cursor_ahead.sh (a0 a1 : AV) (σ : Store) (Q : AEnd → Store → Prop) : Prop :=
 aCall Tryz.prog 69 [a0] σ (fun t8 σ =>
 Do (aField 0 false 1 t8) fun t9 =>
 aCall Tryz.prog 69 [a1] σ (fun t11 σ_1 =>
 Do (aField 0 false 1 t11) fun t12 =>
 Do (aBin Tryz.prog .lss 9 t9 t12) fun t15 =>
 Do (aGuard t15 false (aIs t9)) fun t17 =>
 Do (aGuard t15 false (aIs t12)) fun t18 =>
 Do (aGuard t15 false (aBin Tryz.prog .eql 9 t17 t18)) fun t19 =>
 Do (aGuard t15 false (aIs t19)) fun t20 =>
 Do (aGuard t20 true (aIs a0)) fun t21 =>
 Do (aGuard t20 true (aNil t21)) fun t22 =>
 Do (aGuard t20 true (aFieldAddr 2 1 t22)) fun t23 =>
 Do (aGuard t20 true (loadA false 1 t23 σ_1)) fun t24 =>
 Do (aGuard t20 true (aIs a1)) fun t25 =>
 Do (aGuard t20 true (aNil t25)) fun t26 =>
 Do (aGuard t20 true (aFieldAddr 2 1 t26)) fun t27 =>
 Do (aGuard t20 true (loadA false 1 t27 σ_1)) fun t28 =>
 Do (aGuard t20 true (aBin Tryz.prog .lss 3 t24 t28)) fun t29 =>
 Do (aGuard t15 false (aPick t20 t29 (.val (.bool false)))) fun t30 =>
 Do (aPick t15 (.val (.bool true)) t30) fun t31 =>
 Q (.ret t31) σ_1) (fun e σ_2 => Q (.pan e) σ_2)) (fun e_1 σ_3 => Q (.pan e_1) σ_3)
theorem merge_cursor_ahead.eq (a0 a1 : AV) (σ : Store) (Q : AEnd → Store → Prop) : vc (semOf Tryz.prog merge_cursor_ahead.mark) Tryz.f173.ntmps merge_cursor_ahead.ann (bodyOf Tryz.f173) (endK [.tmp 4] Q) (argFr [a0, a1]) σ = merge_cursor_ahead.sh a0 a1 σ Q := by kernel_rfl
theorem merge_cursor_ahead.go {a0 a1 : AV} {σ : Store} {Q : AEnd → Store → Prop} (h : merge_cursor_ahead.sh a0 a1 σ Q) : ACalls Tryz.prog 173 [a0, a1] σ Q :=
 acalls_of_eq [.tmp 4] Tryz.func173 (by kernel_rfl) (by kernel_rfl) (by kernel_rfl) (by kernel_rfl) (merge_cursor_ahead.eq a0 a1 σ Q) h
def merge_heads_Len.mark : Mark := ⟨fun t => false, fun t => false, fun t => false, fun t => false, fun t => false⟩
def merge_heads_Len.ann : Ann := ⟨fun n => [], fun n => none, fun n => none⟩
def merge_heads_Len.sh (a0 : AV) (σ : Store) (Q : AEnd → Store → Prop) : Prop :=
 Do (aBuiltin Tryz.prog .len #[103] [a0]) fun t4 =>
 Q (.ret t4) σ
theorem merge_heads_Len.eq (a0 : AV) (σ : Store) (Q : AEnd → Store → Prop) : vc (semOf Tryz.prog merge_heads_Len.mark) Tryz.f170.ntmps merge_heads_Len.ann (bodyOf Tryz.f170) (endK [.tmp 2] Q) (argFr [a0]) σ = merge_heads_Len.sh a0 σ Q := by kernel_rfl
theorem merge_heads_Len.go {a0 : AV} {σ : Store} {Q : AEnd → Store → Prop} (h : merge_heads_Len.sh a0 σ Q) : ACalls Tryz.prog 170 [a0] σ Q :=
 acalls_of_eq [.tmp 2] Tryz.func170 (by kernel_rfl) (by kernel_rfl) (by kernel_rfl) (by kernel_rfl) (merge_heads_Len.eq a0 σ Q) h
def merge_heads_Less.mark : Mark := ⟨fun t => false, fun t => false, fun t => false, fun t => false, fun t => false⟩
def merge_heads_Less.ann : Ann := ⟨fun n => [], fun n => none, fun n => none⟩
def merge_heads_Less.sh (a0 a1 a2 : AV) (σ : Store) (Q : AEnd → Store → Prop) : Prop :=
 Do (aIndexAddr .slice 1 a0 a1) fun t11 =>
 Do (loadA false 1 t11 σ) fun t12 =>
 Do (aIndexAddr .slice 1 a0 a2) fun t15 =>
 Do (loadA false 1 t15 σ) fun t16 =>
 aCallV Tryz.prog (.val (.func (.func 173) #[] #[])) [t12, t16] σ (fun t17 σ =>
 Q (.ret t17) σ) (fun e σ_1 => Q (.pan e) σ_1)
theorem merge_heads_Less.eq (a0 a1 a2 : AV) (σ : Store) (Q : AEnd → Store → Prop) : vc (semOf Tryz.prog merge_heads_Less.mark) Tryz.f171.ntmps merge_heads_Less.ann (bodyOf Tryz.f171) (endK [.tmp 6] Q) (argFr [a0, a1, a2]) σ = merge_heads_Less.sh a0 a1 a2 σ Q := by kernel_rfl
theorem merge_heads_Less.go {a0 a1 a2 : AV} {σ : Store} {Q : AEnd → Store → Prop} (h : merge_heads_Less.sh a0 a1 a2 σ Q) : ACalls Tryz.prog 171 [a0, a1, a2] σ Q :=
 acalls_of_eq [.tmp 6] Tryz.func171 (by kernel_rfl) (by kernel_rfl) (by kernel_rfl) (by kernel_rfl) (merge_heads_Less.eq a0 a1 a2 σ Q) h
def merge_heads_Swap.mark : Mark := ⟨fun t => false, fun t => false, fun t => false, fun t => false, fun t => false⟩
def merge_heads_Swap.ann : Ann := ⟨fun n => [], fun n => none, fun n => none⟩
def merge_heads_Swap.sh (a0 a1 a2 : AV) (σ : Store) (Q : AEnd → Store → Prop) : Prop :=
 Do (aIndexAddr .slice 1 a0 a2) fun t12 =>
 Do (loadA false 1 t12 σ) fun t13 =>
 Do (aIndexAddr .slice 1 a0 a1) fun t16 =>
 Do (loadA false 1 t16 σ) fun t17 =>
 Do (aIndexAddr .slice 1 a0 a1) fun t18 =>
 storeA 1 t18 t13 σ fun u σ =>
 Do (aIndexAddr .slice 1 a0 a2) fun t19 =>
 storeA 1 t19 t17 σ fun u_1 σ_1 =>
 Q (.ret (.tuple [])) σ_1
theorem merge_heads_Swap.eq (a0 a1 a2 : AV) (σ : Store) (Q : AEnd → Store → Prop) : vc (semOf Tryz.prog merge_heads_Swap.mark) Tryz.f172.ntmps merge_heads_Swap.ann (bodyOf Tryz.f172) (endK [] Q) (argFr [a0, a1, a2]) σ = merge_heads_Swap.sh a0 a1 a2 σ Q := by kernel_rfl
theorem merge_heads_Swap.go {a0 a1 a2 : AV} {σ : Store} {Q : AEnd → Store → Prop} (h : merge_heads_Swap.sh a0 a1 a2 σ Q) : ACalls Tryz.prog 172 [a0, a1, a2] σ Q :=
 acalls_of_eq [] Tryz.func172 (by kernel_rfl) (by kernel_rfl) (by kernel_rfl) (by kernel_rfl) (merge_heads_Swap.eq a0 a1 a2 σ Q) h
theorem head_one (c : Cur) (hc : c.at_ < c.l.length) : ACalls Tryz.prog 69 [cuP c] [curE c] (fun x σ => x = .ret (hdC c).av ∧ σ = [curE c]) := by
 refine ACalls.fin (merge_cursor_head.go ?_)
 unfold merge_cursor_head.sh
 unfold cuP
 repeat' (with_reducible first|apply Stp.go|refine imp fun _=>?_|refine zq ?_|refine zt ?_|refine zf ?_|refine zg ?_|refine za ?_|refine altF ?_|refine all fun _=>?_|refine both ?_ ?_|refine zu ?_|refine zv ?_|refine cho (fun _=>?_) fun _=>?_|refine zw ?_)
 exact ⟨_, _, _, rfl, Sub.drop_ (List.sublist_cons_self _ _) _, rfl, rfl⟩
theorem head_ok {c : Cur} {σ : Store} (hc : c.at_ < c.l.length) (hm : curE c ∈ σ) : ACalls Tryz.prog 69 [cuP c] σ (fun x τ => x = .ret (hdC c).av ∧ τ = σ) := (head_one c hc).inn hm
theorem memVar {b : Nat} {t : TypeId} {cs : List AV} {σ : Store} (h : Ent.var b t cs ∈ σ) : ∃ put rest, VarAt b σ t cs put rest := by
 obtain ⟨σ1, σ2, rfl⟩ := List.append_of_mem h
 exact ⟨fun x => σ1 ++ x :: σ2, σ1 ++ σ2, ⟨σ1, σ2, rfl, fun _ => rfl, rfl⟩⟩
theorem cahead_ok {c d : Cur} {σ : Store} (hc : c.at_ < c.l.length) (hd : d.at_ < d.l.length) (h1 : curE c ∈ σ) (h2 : curE d ∈ σ) : ACalls Tryz.prog 173 [cuP c, cuP d] σ (fun x τ => x = .ret (B (ltC c d)) ∧ τ = σ) := by
 refine merge_cursor_ahead.go ?_
 unfold merge_cursor_ahead.sh
 refine Or.inl ⟨_, _, Sub.refl _ _, (head_ok hc h1).mono ?_⟩
 rintro r τ ⟨e1, e2⟩
 rw [e1, e2]
 simp only [onEnd]
 repeat' (with_reducible first|apply Stp.go|refine imp fun _=>?_|refine zq ?_|refine zt ?_|refine zf ?_|refine zg ?_|refine za ?_|refine altF ?_|refine all fun _=>?_|refine both ?_ ?_|refine zu ?_|refine zv ?_|refine cho (fun _=>?_) fun _=>?_|refine zw ?_)
 refine Or.inl ⟨_, _, Sub.refl _ _, (head_ok hd h2).mono ?_⟩
 rintro r τ ⟨e1, e2⟩
 rw [e1, e2]
 simp only [onEnd]
 obtain ⟨put, rest, hv⟩ := memVar h1
 obtain ⟨put2, rest2, hv2⟩ := memVar h2
 unfold ltC
 unfold cuP
 repeat' (with_reducible first|apply Stp.go|refine imp fun _=>?_|refine zq ?_|refine zt ?_|refine zf ?_|refine zg ?_|refine za ?_|refine altF ?_|refine all fun _=>?_|refine both ?_ ?_|refine zu ?_|refine zv ?_|refine cho (fun _=>?_) fun _=>?_|refine zw ?_)
 all_goals
  clear hv hv2
  refine ⟨?_, trivial⟩
  simp_all [lt]
def Heads (H : List Cur) (σ : Store) : Prop := ∀ c ∈ H, curE c ∈ σ ∧ c.at_ < c.l.length
abbrev PtT : TypeId := 104
abbrev hS (bh : Nat) (v : Value) (H : List Cur) (σ : Store) : Store := .var bh HsT [.own v H.length] :: .row v PtT 1 (H.map cuP) 0 :: σ
theorem hLen_ok (bh : Nat) (v : Value) (H : List Cur) (σ : Store) (hl : H.length ≤ 1000000) : ACalls Tryz.prog 170 [.own v H.length] (hS bh v H σ) (fun x τ => x = .ret (I .i64 (H.length : Nat)) ∧ τ = hS bh v H σ) := by
 refine merge_heads_Len.go ?_
 unfold merge_heads_Len.sh
 repeat' (with_reducible first|apply Stp.go|refine imp fun _=>?_|refine zq ?_|refine zt ?_|refine zf ?_|refine zg ?_|refine za ?_|refine altF ?_|refine all fun _=>?_|refine both ?_ ?_|refine zu ?_|refine zv ?_|refine cho (fun _=>?_) fun _=>?_|refine zw ?_)
 exact ⟨rfl, rfl⟩
theorem hLess_ok (bh : Nat) (v : Value) (H : List Cur) (σ : Store) (i j : Nat) (hl : H.length ≤ 1000000) (hi : i < H.length) (hj : j < H.length) (hσ : Heads H σ) : ACalls Tryz.prog 171 [.own v H.length, I .i64 (i : Nat), I .i64 (j : Nat)] (hS bh v H σ) (fun x τ => x = .ret (B (ltC (H.getD i default) (H.getD j default))) ∧ τ = hS bh v H σ) := by
 refine merge_heads_Less.go ?_
 unfold merge_heads_Less.sh
 repeat' (with_reducible first|apply Stp.go|refine imp fun _=>?_|refine zq ?_|refine zt ?_|refine zf ?_|refine zg ?_|refine za ?_|refine altF ?_|refine all fun _=>?_|refine both ?_ ?_|refine zu ?_|refine zv ?_|refine cho (fun _=>?_) fun _=>?_|refine zw ?_)
 have h1 := hσ _ (getD_memT hi)
 have h2 := hσ _ (getD_memT hj)
 refine Or.inl ⟨_, _, Sub.refl _ _, (cahead_ok h1.2 h2.2 (List.mem_cons_of_mem _ (List.mem_cons_of_mem _ h1.1)) (List.mem_cons_of_mem _ (List.mem_cons_of_mem _ h2.1))).mono ?_⟩
 rintro r τ ⟨e1, e2⟩
 rw [e1, e2]
 exact ⟨rfl, rfl⟩
def swapL {α : Type} [Inhabited α] (H : List α) (i j : Nat) : List α := (H.set i (H.getD j default)).set j (H.getD i default)
theorem hSwap_ok (bh : Nat) (v : Value) (H : List Cur) (σ : Store) (i j : Nat) (hl : H.length ≤ 1000000) (hi : i < H.length) (hj : j < H.length) : ACalls Tryz.prog 172 [.own v H.length, I .i64 (i : Nat), I .i64 (j : Nat)] (hS bh v H σ) (fun x τ => x = .ret (.tuple []) ∧ τ = .var bh HsT [.own v H.length] :: .row v PtT 1 ((swapL H i j).map cuP) 0 :: σ) := by
 refine merge_heads_Swap.go ?_
 unfold merge_heads_Swap.sh
 repeat' (with_reducible first|apply Stp.go|refine imp fun _=>?_|refine zq ?_|refine zt ?_|refine zf ?_|refine zg ?_|refine za ?_|refine altF ?_|refine all fun _=>?_|refine both ?_ ?_|refine zu ?_|refine zv ?_|refine cho (fun _=>?_) fun _=>?_|refine zw ?_)
 exact ⟨rfl, rfl⟩
theorem swapL_len {α : Type} [Inhabited α] (H : List α) (i j : Nat) : (swapL H i j).length = H.length := by unfold swapL; rw [List.length_set, List.length_set]
abbrev HpT : TypeId := 108
theorem loadsH (bh : Nat) (v : Value) (H : List Cur) (σ : Store) : LoadsTo Tryz.prog HsT (hS bh v H σ) (ptrAt bh 0) (.own v H.length) := fun R w x hx hs => load_at hs (ag := false) (s := 1) (by kernel_rfl) (show loadA false 1 (ptrAt bh 0) (hS bh v H σ) (.own v H.length) from ⟨by decide, fun _ => rfl, rfl, HsT, [.own v H.length], List.mem_cons_self, Nat.le_refl 1, rfl⟩) hx
section inv
variable {bh : Nat} {v : Value} {H : List Cur} {σ : Store} {i j : Nat} {k kp : AV → Store → Prop}
theorem inv_Len (hl : H.length ≤ 1000000) (hk : k (I .i64 (H.length : Nat)) (hS bh v H σ)) : aInv Tryz.prog (.ifc HpT (ptrAt bh 0)) "Len" [] (hS bh v H σ) k kp :=
 ⟨170, false, HsT, .own v H.length, by kernel_rfl, loadsH bh v H σ, .inl ⟨_, _, Sub.refl _ _, (hLen_ok bh v H σ hl).mono fun r τ ⟨e1, e2⟩ => by rw [e1, e2]; exact hk⟩⟩
theorem inv_Less (hl : H.length ≤ 1000000) (hi : i < H.length) (hj : j < H.length) (hσ : Heads H σ) (hk : k (B (ltC (H.getD i default) (H.getD j default))) (hS bh v H σ)) : aInv Tryz.prog (.ifc HpT (ptrAt bh 0)) "Less" [I .i64 (i : Nat), I .i64 (j : Nat)] (hS bh v H σ) k kp :=
 ⟨171, false, HsT, .own v H.length, by kernel_rfl, loadsH bh v H σ, .inl ⟨_, _, Sub.refl _ _, (hLess_ok bh v H σ i j hl hi hj hσ).mono fun r τ ⟨e1, e2⟩ => by rw [e1, e2]; exact hk⟩⟩
theorem inv_Swap (hl : H.length ≤ 1000000) (hi : i < H.length) (hj : j < H.length) (hk : k (.tuple []) (hS bh v (swapL H i j) σ)) : aInv Tryz.prog (.ifc HpT (ptrAt bh 0)) "Swap" [I .i64 (i : Nat), I .i64 (j : Nat)] (hS bh v H σ) k kp :=
 ⟨172, false, HsT, .own v H.length, by kernel_rfl, loadsH bh v H σ, .inl ⟨_, _, Sub.refl _ _, (hSwap_ok bh v H σ i j hl hi hj).mono fun r τ ⟨e1, e2⟩ => by
  rw [e1, e2]
  unfold hS at hk
  rw [swapL_len] at hk
  exact hk⟩⟩
end inv
end Go.Ab

namespace Go.Ab
open Go.Proofs
def downF (H : List Cur) (n i : Nat) : List Cur :=
 if h : 2 * i + 1 < n then
  let j := if 2 * i + 2 < n ∧ ltC (H.getD (2 * i + 2) default) (H.getD (2 * i + 1) default) = true then 2 * i + 2 else 2 * i + 1
  if ltC (H.getD j default) (H.getD i default) = true then downF (swapL H i j) n j else H
 else H
termination_by n - i
decreasing_by
 split <;> omega
theorem downF_stop {H : List Cur} {n i : Nat} (h : ¬ 2 * i + 1 < n) : downF H n i = H := by unfold downF; rw [dif_neg h]
theorem downF_step {H : List Cur} {n i j : Nat} (h : 2 * i + 1 < n) (hj : j = if 2 * i + 2 < n ∧ ltC (H.getD (2 * i + 2) default) (H.getD (2 * i + 1) default) = true then 2 * i + 2 else 2 * i + 1) : downF H n i = if ltC (H.getD j default) (H.getD i default) = true then downF (swapL H i j) n j else H := by
 conv => lhs; unfold downF
 rw [dif_pos h]
 subst hj
 rfl
def container_heap_down.mark : Mark := ⟨fun t => false, fun t => false, fun t => false, fun t => false, fun t => false⟩
def container_heap_down.ann : Ann := ⟨fun n => bif Nat.beq n 2 then [0, 1, 2, 7] else [], fun n => bif Nat.beq n 8 then some [0, 1, 2, 7, 9] else none, fun n => none⟩
def container_heap_down.sh (a0 a1 a2 : AV) (σ : Store) (Q : AEnd → Store → Prop) : Prop :=
 aLoop (fun go vs σ =>
 At vs 0 fun s0 => At vs 1 fun s1 => At vs 2 fun s2 => At vs 3 fun s7 => Do (aBin Tryz.prog .mul 3 (.val (.int .i64 2)) s7) fun t13 =>
 Do (aBin Tryz.prog .add 3 t13 (.val (.int .i64 1))) fun t14 =>
 Do (aBin Tryz.prog .geq 3 t14 s2) fun t17 =>
 Do (aGuard t17 false (aIs t14)) fun t19 =>
 Do (aGuard t17 false (aBin Tryz.prog .lss 3 t19 (.val (.int .i64 0)))) fun t20 =>
 Do (aPick t17 (.val (.bool true)) t20) fun t21 =>
 aCond t21
 (Do (aBin Tryz.prog .gtr 3 s7 s1) fun t47 =>
 Q (.ret t47) σ)
 (aJoin (fun j =>
 Do (aBin Tryz.prog .add 3 t14 (.val (.int .i64 1))) fun t24 =>
 Do (aBin Tryz.prog .lss 3 t24 s2) fun t27 =>
 Do (aGuard t27 true (aIs s0)) fun t29 =>
 Do (aGuard t27 true (aIs t24)) fun t30 =>
 Do (aGuard t27 true (aIs t14)) fun t31 =>
 GEff t27 true (aInv Tryz.prog t29 "Less" [t30, t31] σ (fun t32 σ_2 =>
 Do (aPick t27 t32 (.val (.bool false))) fun t33 =>
 aCond t33
 (j [s0, s1, s2, s7, t24] σ_2)
 (j [s0, s1, s2, s7, t14] σ_2)) (fun e σ_3 => Q (.pan e) σ_3))
 (Do (aPick t27 (.val Go.undef) (.val (.bool false))) fun t33_1 =>
 aCond t33_1
 (j [s0, s1, s2, s7, t24] σ)
 (j [s0, s1, s2, s7, t14] σ))) fun vs_1 σ_1 =>
 At vs_1 0 fun s0_1 => At vs_1 1 fun s1_1 => At vs_1 2 fun s2_1 => At vs_1 3 fun s7_1 => At vs_1 4 fun s9 => aInv Tryz.prog s0_1 "Less" [s9, s7_1] σ_1 (fun t38 σ_4 =>
 Do (aUn Tryz.prog .not t38) fun t39 =>
 aCond t39
 (Do (aBin Tryz.prog .gtr 3 s7_1 s1_1) fun t47_1 =>
 Q (.ret t47_1) σ_4)
 (aInv Tryz.prog s0_1 "Swap" [s7_1, s9] σ_4 (fun t43 σ_5 =>
 go [s0_1, s1_1, s2_1, s9] σ_5) (fun e_1 σ_6 => Q (.pan e_1) σ_6))) (fun e_2 σ_7 => Q (.pan e_2) σ_7)))
 [a0, a1, a2, a1] σ
theorem container_heap_down.eq (a0 a1 a2 : AV) (σ : Store) (Q : AEnd → Store → Prop) : vc (semOf Tryz.prog container_heap_down.mark) Tryz.f104.ntmps container_heap_down.ann (bodyOf Tryz.f104) (endK [.tmp 6] Q) (argFr [a0, a1, a2]) σ = container_heap_down.sh a0 a1 a2 σ Q := by kernel_rfl
theorem container_heap_down.go {a0 a1 a2 : AV} {σ : Store} {Q : AEnd → Store → Prop} (h : container_heap_down.sh a0 a1 a2 σ Q) : ACalls Tryz.prog 104 [a0, a1, a2] σ Q :=
 acalls_of_eq [.tmp 6] Tryz.func104 (by kernel_rfl) (by kernel_rfl) (by kernel_rfl) (by kernel_rfl) (container_heap_down.eq a0 a1 a2 σ Q) h
theorem swapL_mem {H : List Cur} {i j : Nat} (hi : i < H.length) (hj : j < H.length) {c : Cur} (h : c ∈ swapL H i j) : c ∈ H := by
 unfold swapL at h
 rcases List.mem_or_eq_of_mem_set h with h | rfl
 ·rcases List.mem_or_eq_of_mem_set h with h | rfl
  ·exact h
  ·exact getD_memT hj
 ·exact getD_memT hi
theorem down_ok (bh : Nat) (v : Value) (σ : Store) (n i0 : Nat) : ∀ (H : List Cur), H.length ≤ 1000000 → n ≤ H.length → i0 ≤ 1000000 → Heads H σ → ACalls Tryz.prog 104 [.ifc HpT (ptrAt bh 0), I .i64 (i0 : Nat), I .i64 (n : Nat)] (hS bh v H σ) (fun x τ => (∃ z : Bool, x = .ret (B z)) ∧ τ = hS bh v (downF H n i0) σ) := by
 intro H hl hn hi0 hσ
 refine ACalls.fin (container_heap_down.go ?_)
 unfold container_heap_down.sh
 refine loopI (β := List Cur × Nat) (fun x => x.1.length = H.length ∧ (∀ c ∈ x.1, c ∈ H) ∧ x.2 ≤ 1000000 ∧ downF x.1 n x.2 = downF H n i0) (fun x => [.ifc HpT (ptrAt bh 0), I .i64 (i0 : Nat), I .i64 (n : Nat), I .i64 (x.2 : Nat)]) (fun x => hS bh v x.1 σ) (fun x => n - x.2) (H, i0) ⟨rfl, fun c h => h, hi0, rfl⟩ (Sub.refl _ _) ?_
 rintro ⟨G, i⟩ ⟨h1, h2, h3, h4⟩
 dsimp only at h1 h2 h3 h4 ⊢
 have hG : Heads G σ := fun c h => hσ c (h2 c h)
 by_cases hc : 2 * i + 1 < n
 ·repeat' (with_reducible first|apply Stp.go|refine imp fun _=>?_|refine zq ?_|refine zt ?_|refine zf ?_|refine zg ?_|refine za ?_|refine altF ?_|refine all fun _=>?_|refine both ?_ ?_|refine zu ?_|refine zv ?_|refine cho (fun _=>?_) fun _=>?_|refine zw ?_)
  refine joinI (β := Nat) (fun j => j = if 2 * i + 2 < n ∧ ltC (G.getD (2 * i + 2) default) (G.getD (2 * i + 1) default) = true then 2 * i + 2 else 2 * i + 1) (fun j => [.ifc HpT (ptrAt bh 0), I .i64 (i0 : Nat), I .i64 (n : Nat), I .i64 (i : Nat), I .i64 (j : Nat)]) (fun _ => hS bh v G σ) ?_ ?_
  ·repeat' (with_reducible first|apply Stp.go|refine imp fun _=>?_|refine zq ?_|refine zt ?_|refine zf ?_|refine zg ?_|refine za ?_|refine altF ?_|refine all fun _=>?_|refine both ?_ ?_|refine zu ?_|refine zv ?_|refine cho (fun _=>?_) fun _=>?_|refine zw ?_)
   ·rename_i hlt
    refine inv_Less (i := 2 * i + 1 + 1) (j := 2 * i + 1) (by omega) (by omega) (by omega) hG ?_
    repeat' (with_reducible first|apply Stp.go|refine imp fun _=>?_|refine zq ?_|refine zt ?_|refine zf ?_|refine zg ?_|refine za ?_|refine altF ?_|refine all fun _=>?_|refine both ?_ ?_|refine zu ?_|refine zv ?_|refine cho (fun _=>?_) fun _=>?_|refine zw ?_)
    ·rename_i g
     exact meet (2 * i + 1 + 1) (by rw [if_pos ⟨by omega, g⟩]) (Sub.refl _ _)
    ·rename_i g
     exact meet (2 * i + 1) (by rw [if_neg (fun h => g h.2)]) (Sub.refl _ _)
   ·rename_i hlt
    exact meet (2 * i + 1) (by rw [if_neg (fun h => hlt (by omega))]) (Sub.refl _ _)
  ·intro j hj
   have hjn : j < n ∧ i < j := by rw [hj]; split <;> omega
   have hst := downF_step hc hj
   repeat' (with_reducible first|apply Stp.go|refine imp fun _=>?_|refine zq ?_|refine zt ?_|refine zf ?_|refine zg ?_|refine za ?_|refine altF ?_|refine all fun _=>?_|refine both ?_ ?_|refine zu ?_|refine zv ?_|refine cho (fun _=>?_) fun _=>?_|refine zw ?_)
   refine inv_Less (i := j) (j := i) (by omega) (by omega) (by omega) hG ?_
   by_cases hg : ltC (G.getD j default) (G.getD i default) = true
   ·rw [if_pos hg] at hst
    repeat' (with_reducible first|apply Stp.go|refine imp fun _=>?_|refine zq ?_|refine zt ?_|refine zf ?_|refine zg ?_|refine za ?_|refine altF ?_|refine all fun _=>?_|refine both ?_ ?_|refine zu ?_|refine zv ?_|refine cho (fun _=>?_) fun _=>?_|refine zw ?_)
    refine inv_Swap (i := i) (j := j) (by omega) (by omega) (by omega) ?_
    repeat' (with_reducible first|apply Stp.go|refine imp fun _=>?_|refine zq ?_|refine zt ?_|refine zf ?_|refine zg ?_|refine za ?_|refine altF ?_|refine all fun _=>?_|refine both ?_ ?_|refine zu ?_|refine zv ?_|refine cho (fun _=>?_) fun _=>?_|refine zw ?_)
    exact again (swapL G i j, j) (by dsimp only; omega) ⟨by dsimp only; rw [swapL_len]; exact h1, fun c h => h2 c (swapL_mem (by omega) (by omega) h), by dsimp only; omega, by dsimp only; rw [← hst]; exact h4⟩ (Sub.refl _ _)
   ·rw [if_neg hg] at hst
    rw [hst] at h4
    rw [← h4]
    repeat' (with_reducible first|apply Stp.go|refine imp fun _=>?_|refine zq ?_|refine zt ?_|refine zf ?_|refine zg ?_|refine za ?_|refine altF ?_|refine all fun _=>?_|refine both ?_ ?_|refine zu ?_|refine zv ?_|refine cho (fun _=>?_) fun _=>?_|refine zw ?_)
    all_goals exact ⟨_, _, _, rfl, Sub.refl _ _, ⟨_, rfl⟩, rfl⟩
 ·rw [downF_stop hc] at h4
  rw [← h4]
  repeat' (with_reducible first|apply Stp.go|refine imp fun _=>?_|refine zq ?_|refine zt ?_|refine zf ?_|refine zg ?_|refine za ?_|refine altF ?_|refine all fun _=>?_|refine both ?_ ?_|refine zu ?_|refine zv ?_|refine cho (fun _=>?_) fun _=>?_|refine zw ?_)
  all_goals exact ⟨_, _, _, rfl, Sub.refl _ _, ⟨_, rfl⟩, rfl⟩
end Go.Ab

namespace Go.Ab
open Go.Proofs
def merge_heads_Pop.mark : Mark := ⟨fun t => false, fun t => false, fun t => false, fun t => false, fun t => false⟩
def merge_heads_Pop.ann : Ann := ⟨fun n => [], fun n => none, fun n => none⟩
def merge_heads_Pop.sh (a0 : AV) (σ : Store) (Q : AEnd → Store → Prop) : Prop :=
 Do (aNil a0) fun t6 =>
 Do (loadA false 1 t6 σ) fun t7 =>
 Do (aBuiltin Tryz.prog .len #[103] [t7]) fun t10 =>
 Do (aBin Tryz.prog .sub 3 t10 (.val (.int .i64 1))) fun t11 =>
 Do (aIndexAddr .slice 1 t7 t11) fun t12 =>
 Do (loadA false 1 t12 σ) fun t13 =>
 Do (aBuiltin Tryz.prog .len #[103] [t7]) fun t17 =>
 Do (aBin Tryz.prog .sub 3 t17 (.val (.int .i64 1))) fun t18 =>
 Do (aSlice .slice 1 t7 none (some t18) none) fun t19 =>
 Do (aNil a0) fun t20 =>
 storeA 1 t20 t19 σ fun u σ =>
 Q (.ret (.ifc 104 t13)) σ
theorem merge_heads_Pop.eq (a0 : AV) (σ : Store) (Q : AEnd → Store → Prop) : vc (semOf Tryz.prog merge_heads_Pop.mark) Tryz.f174.ntmps merge_heads_Pop.ann (bodyOf Tryz.f174) (endK [.tmp 2] Q) (argFr [a0]) σ = merge_heads_Pop.sh a0 σ Q := by kernel_rfl
theorem merge_heads_Pop.go {a0 : AV} {σ : Store} {Q : AEnd → Store → Prop} (h : merge_heads_Pop.sh a0 σ Q) : ACalls Tryz.prog 174 [a0] σ Q :=
 acalls_of_eq [.tmp 2] Tryz.func174 (by kernel_rfl) (by kernel_rfl) (by kernel_rfl) (by kernel_rfl) (merge_heads_Pop.eq a0 σ Q) h
def merge_heads_Push.mark : Mark := ⟨fun t => false, fun t => false, fun t => false, fun t => false, fun t => false⟩
def merge_heads_Push.ann : Ann := ⟨fun n => [], fun n => none, fun n => none⟩
def merge_heads_Push.sh (a0 a1 : AV) (σ : Store) (Q : AEnd → Store → Prop) : Prop :=
 Do (aNil a0) fun t6 =>
 Do (loadA false 1 t6 σ) fun t7 =>
 Do (aAssert Tryz.prog 104 false a1) fun t9 =>
 Do (aSlLit (mkE [.val (.pointer none)]) 1 1 [(0, t9)]) fun t10 =>
 aAppend 104 1 8 t7 t10 σ (subK fun t11 σ =>
 Do (aNil a0) fun t12 =>
 storeA 1 t12 t11 σ fun u σ_1 =>
 Q (.ret (.tuple [])) σ_1)
theorem merge_heads_Push.eq (a0 a1 : AV) (σ : Store) (Q : AEnd → Store → Prop) : vc (semOf Tryz.prog merge_heads_Push.mark) Tryz.f175.ntmps merge_heads_Push.ann (bodyOf Tryz.f175) (endK [] Q) (argFr [a0, a1]) σ = merge_heads_Push.sh a0 a1 σ Q := by kernel_rfl
theorem merge_heads_Push.go {a0 a1 : AV} {σ : Store} {Q : AEnd → Store → Prop} (h : merge_heads_Push.sh a0 a1 σ Q) : ACalls Tryz.prog 175 [a0, a1] σ Q :=
 acalls_of_eq [] Tryz.func175 (by kernel_rfl) (by kernel_rfl) (by kernel_rfl) (by kernel_rfl) (merge_heads_Push.eq a0 a1 σ Q) h
def merge_cursor_pass.mark : Mark := ⟨fun t => false, fun t => false, fun t => false, fun t => false, fun t => false⟩
def merge_cursor_pass.ann : Ann := ⟨fun n => [], fun n => none, fun n => none⟩
def merge_cursor_pass.sh (a0 : AV) (σ : Store) (Q : AEnd → Store → Prop) : Prop :=
 Do (aNil a0) fun t4 =>
 Do (aFieldAddr 1 1 t4) fun t5 =>
 Do (loadA false 1 t5 σ) fun t6 =>
 Do (aBin Tryz.prog .add 3 t6 (.val (.int .i64 1))) fun t7 =>
 Do (aNil a0) fun t8 =>
 Do (aFieldAddr 1 1 t8) fun t9 =>
 storeA 1 t9 t7 σ fun u σ =>
 Do (aNil a0) fun t11 =>
 Do (aFieldAddr 1 1 t11) fun t12 =>
 Do (loadA false 1 t12 σ) fun t13 =>
 Do (aNil a0) fun t15 =>
 Do (aFieldAddr 0 1 t15) fun t16 =>
 Do (loadA false 1 t16 σ) fun t17 =>
 Do (aBuiltin Tryz.prog .len #[33] [t17]) fun t18 =>
 Do (aBin Tryz.prog .lss 3 t13 t18) fun t19 =>
 Q (.ret t19) σ
theorem merge_cursor_pass.eq (a0 : AV) (σ : Store) (Q : AEnd → Store → Prop) : vc (semOf Tryz.prog merge_cursor_pass.mark) Tryz.f71.ntmps merge_cursor_pass.ann (bodyOf Tryz.f71) (endK [.tmp 2] Q) (argFr [a0]) σ = merge_cursor_pass.sh a0 σ Q := by kernel_rfl
theorem merge_cursor_pass.go {a0 : AV} {σ : Store} {Q : AEnd → Store → Prop} (h : merge_cursor_pass.sh a0 σ Q) : ACalls Tryz.prog 71 [a0] σ Q :=
 acalls_of_eq [.tmp 2] Tryz.func71 (by kernel_rfl) (by kernel_rfl) (by kernel_rfl) (by kernel_rfl) (merge_cursor_pass.eq a0 σ Q) h
def container_heap_Pop.mark : Mark := ⟨fun t => false, fun t => false, fun t => false, fun t => false, fun t => false⟩
def container_heap_Pop.ann : Ann := ⟨fun n => [], fun n => none, fun n => none⟩
def container_heap_Pop.sh (a0 : AV) (σ : Store) (Q : AEnd → Store → Prop) : Prop :=
 aInv Tryz.prog a0 "Len" [] σ (fun t5 σ =>
 Do (aBin Tryz.prog .sub 3 t5 (.val (.int .i64 1))) fun t6 =>
 aInv Tryz.prog a0 "Swap" [(.val (.int .i64 0)), t6] σ (fun t9 σ_1 =>
 aCall Tryz.prog 104 [a0, (.val (.int .i64 0)), t6] σ_1 (fun t12 σ_2 =>
 aInv Tryz.prog a0 "Pop" [] σ_2 (fun t14 σ_3 =>
 Q (.ret t14) σ_3) (fun e σ_4 => Q (.pan e) σ_4)) (fun e_1 σ_5 => Q (.pan e_1) σ_5)) (fun e_2 σ_6 => Q (.pan e_2) σ_6)) (fun e_3 σ_7 => Q (.pan e_3) σ_7)
theorem container_heap_Pop.eq (a0 : AV) (σ : Store) (Q : AEnd → Store → Prop) : vc (semOf Tryz.prog container_heap_Pop.mark) Tryz.f70.ntmps container_heap_Pop.ann (bodyOf Tryz.f70) (endK [.tmp 2] Q) (argFr [a0]) σ = container_heap_Pop.sh a0 σ Q := by kernel_rfl
theorem container_heap_Pop.go {a0 : AV} {σ : Store} {Q : AEnd → Store → Prop} (h : container_heap_Pop.sh a0 σ Q) : ACalls Tryz.prog 70 [a0] σ Q :=
 acalls_of_eq [.tmp 2] Tryz.func70 (by kernel_rfl) (by kernel_rfl) (by kernel_rfl) (by kernel_rfl) (container_heap_Pop.eq a0 σ Q) h
def container_heap_Push.mark : Mark := ⟨fun t => false, fun t => false, fun t => false, fun t => false, fun t => false⟩
def container_heap_Push.ann : Ann := ⟨fun n => [], fun n => none, fun n => none⟩
def container_heap_Push.sh (a0 a1 : AV) (σ : Store) (Q : AEnd → Store → Prop) : Prop :=
 aInv Tryz.prog a0 "Push" [a1] σ (fun t6 σ =>
 aInv Tryz.prog a0 "Len" [] σ (fun t9 σ_1 =>
 Do (aBin Tryz.prog .sub 3 t9 (.val (.int .i64 1))) fun t10 =>
 aCall Tryz.prog 105 [a0, t10] σ_1 (fun t11 σ_2 =>
 Q (.ret (.tuple [])) σ_2) (fun e σ_3 => Q (.pan e) σ_3)) (fun e_1 σ_4 => Q (.pan e_1) σ_4)) (fun e_2 σ_5 => Q (.pan e_2) σ_5)
theorem container_heap_Push.eq (a0 a1 : AV) (σ : Store) (Q : AEnd → Store → Prop) : vc (semOf Tryz.prog container_heap_Push.mark) Tryz.f72.ntmps container_heap_Push.ann (bodyOf Tryz.f72) (endK [] Q) (argFr [a0, a1]) σ = container_heap_Push.sh a0 a1 σ Q := by kernel_rfl
theorem container_heap_Push.go {a0 a1 : AV} {σ : Store} {Q : AEnd → Store → Prop} (h : container_heap_Push.sh a0 a1 σ Q) : ACalls Tryz.prog 72 [a0, a1] σ Q :=
 acalls_of_eq [] Tryz.func72 (by kernel_rfl) (by kernel_rfl) (by kernel_rfl) (by kernel_rfl) (container_heap_Push.eq a0 a1 σ Q) h
def container_heap_Init.mark : Mark := ⟨fun t => false, fun t => false, fun t => false, fun t => false, fun t => false⟩
def container_heap_Init.ann : Ann := ⟨fun n => bif Nat.beq n 2 then [0, 2, 3] else [], fun n => none, fun n => none⟩
def container_heap_Init.sh (a0 : AV) (σ : Store) (Q : AEnd → Store → Prop) : Prop :=
 aInv Tryz.prog a0 "Len" [] σ (fun t5 σ =>
 Do (aBin Tryz.prog .quo 3 t5 (.val (.int .i64 2))) fun t7 =>
 Do (aBin Tryz.prog .sub 3 t7 (.val (.int .i64 1))) fun t8 =>
 aLoop (fun go vs σ_1 =>
 At vs 0 fun s0 => At vs 1 fun s2 => At vs 2 fun s3 => Do (aBin Tryz.prog .geq 3 s3 (.val (.int .i64 0))) fun t10 =>
 aCond t10
 (aCall Tryz.prog 104 [s0, s3, s2] σ_1 (fun t16 σ_2 =>
 Do (aBin Tryz.prog .sub 3 s3 (.val (.int .i64 1))) fun t12 =>
 go [s0, s2, t12] σ_2) (fun e σ_3 => Q (.pan e) σ_3))
 (Q (.ret (.tuple [])) σ_1))
 [a0, t5, t8] σ) (fun e_1 σ_4 => Q (.pan e_1) σ_4)
theorem container_heap_Init.eq (a0 : AV) (σ : Store) (Q : AEnd → Store → Prop) : vc (semOf Tryz.prog container_heap_Init.mark) Tryz.f68.ntmps container_heap_Init.ann (bodyOf Tryz.f68) (endK [] Q) (argFr [a0]) σ = container_heap_Init.sh a0 σ Q := by kernel_rfl
theorem container_heap_Init.go {a0 : AV} {σ : Store} {Q : AEnd → Store → Prop} (h : container_heap_Init.sh a0 σ Q) : ACalls Tryz.prog 68 [a0] σ Q :=
 acalls_of_eq [] Tryz.func68 (by kernel_rfl) (by kernel_rfl) (by kernel_rfl) (by kernel_rfl) (container_heap_Init.eq a0 σ Q) h
def container_heap_up.mark : Mark := ⟨fun t => false, fun t => false, fun t => false, fun t => false, fun t => false⟩
def container_heap_up.ann : Ann := ⟨fun n => bif Nat.beq n 0 then [0, 1] else [], fun n => none, fun n => none⟩
def container_heap_up.sh (a0 a1 : AV) (σ : Store) (Q : AEnd → Store → Prop) : Prop :=
 aLoop (fun go vs σ =>
 At vs 0 fun s0 => At vs 1 fun s1 => Do (aBin Tryz.prog .sub 3 s1 (.val (.int .i64 1))) fun t6 =>
 Do (aBin Tryz.prog .quo 3 t6 (.val (.int .i64 2))) fun t7 =>
 Do (aBin Tryz.prog .eql 3 t7 s1) fun t10 =>
 Do (aGuard t10 false (aIs s0)) fun t12 =>
 Do (aGuard t10 false (aIs s1)) fun t13 =>
 Do (aGuard t10 false (aIs t7)) fun t14 =>
 GEff t10 false (aInv Tryz.prog t12 "Less" [t13, t14] σ (fun t15 σ_1 =>
 Do (aGuard t10 false (aUn Tryz.prog .not t15)) fun t16 =>
 Do (aPick t10 (.val (.bool true)) t16) fun t17 =>
 aCond t17
 (Q (.ret (.tuple [])) σ_1)
 (aInv Tryz.prog s0 "Swap" [t7, s1] σ_1 (fun t21 σ_2 =>
 go [s0, t7] σ_2) (fun e σ_3 => Q (.pan e) σ_3))) (fun e_1 σ_4 => Q (.pan e_1) σ_4))
 (Do (aGuard t10 false (aUn Tryz.prog .not (.val Go.undef))) fun t16_1 =>
 Do (aPick t10 (.val (.bool true)) t16_1) fun t17_1 =>
 aCond t17_1
 (Q (.ret (.tuple [])) σ)
 (aInv Tryz.prog s0 "Swap" [t7, s1] σ (fun t21_1 σ_5 =>
 go [s0, t7] σ_5) (fun e_2 σ_6 => Q (.pan e_2) σ_6))))
 [a0, a1] σ
theorem container_heap_up.eq (a0 a1 : AV) (σ : Store) (Q : AEnd → Store → Prop) : vc (semOf Tryz.prog container_heap_up.mark) Tryz.f105.ntmps container_heap_up.ann (bodyOf Tryz.f105) (endK [] Q) (argFr [a0, a1]) σ = container_heap_up.sh a0 a1 σ Q := by kernel_rfl
theorem container_heap_up.go {a0 a1 : AV} {σ : Store} {Q : AEnd → Store → Prop} (h : container_heap_up.sh a0 a1 σ Q) : ACalls Tryz.prog 105 [a0, a1] σ Q :=
 acalls_of_eq [] Tryz.func105 (by kernel_rfl) (by kernel_rfl) (by kernel_rfl) (by kernel_rfl) (container_heap_up.eq a0 a1 σ Q) h
abbrev CpT : TypeId := 104
instance oneSub (v : Value) (sz a n : Nat) : One (AV.sub v sz a n) := ⟨rfl⟩
instance cellsSub (v : Value) (sz a n : Nat) : Cells (AV.sub v sz a n) [AV.sub v sz a n] := ⟨rfl⟩
theorem hPop_ok (bh : Nat) (v : Value) (H : List Cur) (σ : Store) (hl : H.length ≤ 1000000) (h0 : 0 < H.length) : ACalls Tryz.prog 174 [ptrAt bh 0] (hS bh v H σ) (fun x τ => x = .ret (.ifc CpT (cuP (H.getD (H.length - 1) default))) ∧ τ = hS bh (reV v (H.length - 1)) (H.take (H.length - 1)) σ) := by
 refine ACalls.fin (merge_heads_Pop.go ?_)
 unfold merge_heads_Pop.sh
 have ht : (H.take (H.length - 1)).length = H.length - 1 := by rw [List.length_take]; omega
 repeat' (with_reducible first|apply Stp.go|refine imp fun _=>?_|refine zq ?_|refine zt ?_|refine zf ?_|refine zg ?_|refine za ?_|refine altF ?_|refine all fun _=>?_|refine both ?_ ?_|refine zu ?_|refine zv ?_|refine cho (fun _=>?_) fun _=>?_|refine zw ?_)
 refine ⟨_, _, _, rfl, Sub.trunc (l := H.map cuP) (n := H.length - 1) (by simpa using h0) (by simp) _, rfl, ?_⟩
 unfold hS
 rw [ht, List.map_take]
theorem conT_of' {P : Program} {t : TypeId} (h : (match P.underlying t with | some (.pointer _) => true | _ => false) = true) : ConT P t := ⟨by
 split at h
 ·rename_i e; rw [e]; trivial
 ·cases h⟩
instance : ConT Tryz.prog CpT := conT_of' (by kernel_rfl)
instance : ElemF [.val (.pointer none)] Cur cuP := ⟨trivial⟩
theorem hPush_ok (bh : Nat) (v : Value) (H : List Cur) (c : Cur) (σ : Store) (hl : H.length ≤ 1000000) : ACalls Tryz.prog 175 [ptrAt bh 0, .ifc CpT (cuP c)] (hS bh v H σ) (fun x τ => x = .ret (.tuple []) ∧ ∃ v', τ = hS bh v' (H ++ [c]) σ) := by
 refine ACalls.fin (merge_heads_Push.go ?_)
 unfold merge_heads_Push.sh
 repeat' (with_reducible first|apply Stp.go|refine imp fun _=>?_|refine zq ?_|refine zt ?_|refine zf ?_|refine zg ?_|refine za ?_|refine altF ?_|refine all fun _=>?_|refine both ?_ ?_|refine zu ?_|refine zv ?_|refine cho (fun _=>?_) fun _=>?_|refine zw ?_)
 rename_i v'
 refine ⟨_, _, _, rfl, Sub.refl _ _, rfl, v', ?_⟩
 unfold hS
 rw [List.length_append]
theorem pass_one (c : Cur) (hc : c.at_ < c.l.length) (hl : c.l.length ≤ 1000000) : ACalls Tryz.prog 71 [cuP c] [curE c] (fun x σ => x = .ret (B (decide (c.at_ + 1 < c.l.length))) ∧ σ = [curE ⟨c.b, c.l, c.at_ + 1, c.no⟩]) := by
 refine ACalls.fin (merge_cursor_pass.go ?_)
 unfold merge_cursor_pass.sh
 unfold cuP
 repeat' (with_reducible first|apply Stp.go|refine imp fun _=>?_|refine zq ?_|refine zt ?_|refine zf ?_|refine zg ?_|refine za ?_|refine altF ?_|refine all fun _=>?_|refine both ?_ ?_|refine zu ?_|refine zv ?_|refine cho (fun _=>?_) fun _=>?_|refine zw ?_)
 exact ⟨_, _, _, rfl, Sub.refl _ _, rfl, rfl⟩
section inv
variable {bh : Nat} {v : Value} {H : List Cur} {σ : Store} {k kp : AV → Store → Prop}
theorem inv_Pop (hl : H.length ≤ 1000000) (h0 : 0 < H.length) (hk : k (.ifc CpT (cuP (H.getD (H.length - 1) default))) (hS bh (reV v (H.length - 1)) (H.take (H.length - 1)) σ)) : aInv Tryz.prog (.ifc HpT (ptrAt bh 0)) "Pop" [] (hS bh v H σ) k kp :=
 ⟨174, true, HsT, ptrAt bh 0, by kernel_rfl, rfl, .inl ⟨_, _, Sub.refl _ _, (hPop_ok bh v H σ hl h0).mono fun r τ ⟨e1, e2⟩ => by rw [e1, e2]; exact hk⟩⟩
theorem inv_Push {c : Cur} (hl : H.length ≤ 1000000) (hk : ∀ v', k (.tuple []) (hS bh v' (H ++ [c]) σ)) : aInv Tryz.prog (.ifc HpT (ptrAt bh 0)) "Push" [.ifc CpT (cuP c)] (hS bh v H σ) k kp :=
 ⟨175, true, HsT, ptrAt bh 0, by kernel_rfl, rfl, .inl ⟨_, _, Sub.refl _ _, (hPush_ok bh v H c σ hl).mono fun r τ ⟨e1, v', e2⟩ => by rw [e1, e2]; exact hk v'⟩⟩
end inv
theorem downF_len (n : Nat) : ∀ (m i : Nat) (H : List Cur), n - i = m → (downF H n i).length = H.length := by
 intro m
 induction m using Nat.strongRecOn with
 | _ m ih =>
  intro i H hm
  by_cases h : 2 * i + 1 < n
  ·obtain ⟨j, hj⟩ : ∃ j, j = if 2 * i + 2 < n ∧ ltC (H.getD (2 * i + 2) default) (H.getD (2 * i + 1) default) = true then 2 * i + 2 else 2 * i + 1 := ⟨_, rfl⟩
   have hjn : j < n ∧ i < j := by rw [hj]; split <;> omega
   rw [downF_step h hj]
   split
   ·rw [ih _ (by omega) _ _ rfl, swapL_len]
   ·rfl
  ·rw [downF_stop h]
def popH (H : List Cur) : List Cur := downF (swapL H 0 (H.length - 1)) (H.length - 1) 0
theorem heapPop_ok (bh : Nat) (v : Value) (H : List Cur) (σ : Store) (hl : H.length ≤ 1000000) (h0 : 0 < H.length) (hσ : Heads H σ) : ACalls Tryz.prog 70 [.ifc HpT (ptrAt bh 0)] (hS bh v H σ) (fun x τ => x = .ret (.ifc CpT (cuP ((popH H).getD (H.length - 1) default))) ∧ ∃ v', τ = hS bh v' ((popH H).take (H.length - 1)) σ) := by
 refine container_heap_Pop.go ?_
 unfold container_heap_Pop.sh
 refine inv_Len hl ?_
 repeat' (with_reducible first|apply Stp.go|refine imp fun _=>?_|refine zq ?_|refine zt ?_|refine zf ?_|refine zg ?_|refine za ?_|refine altF ?_|refine all fun _=>?_|refine both ?_ ?_|refine zu ?_|refine zv ?_|refine cho (fun _=>?_) fun _=>?_|refine zw ?_)
 refine inv_Swap (i := 0) (j := H.length - 1) hl h0 (by omega) ?_
 have hs : Heads (swapL H 0 (H.length - 1)) σ := fun c h => hσ c (swapL_mem h0 (by omega) h)
 refine Or.inl ⟨_, _, Sub.refl _ _, (down_ok bh v σ (H.length - 1) 0 (swapL H 0 (H.length - 1)) (by rw [swapL_len]; exact hl) (by rw [swapL_len]; omega) (by omega) hs).mono ?_⟩
 rintro r τ ⟨⟨z, e1⟩, e2⟩
 rw [e1, e2]
 simp only [onEnd]
 have hlen : (popH H).length = H.length := by unfold popH; rw [downF_len _ _ _ _ rfl, swapL_len]
 refine inv_Pop (H := popH H) (by omega) (by omega) ?_
 rw [hlen]
 exact ⟨rfl, _, rfl⟩
end Go.Ab

namespace Go.Ab
open Go.Proofs
def upF (H : List Cur) (j : Nat) : List Cur :=
 if h : j = 0 then H
 else if ltC (H.getD j default) (H.getD ((j - 1) / 2) default) = true then upF (swapL H ((j - 1) / 2) j) ((j - 1) / 2) else H
termination_by j
decreasing_by omega
theorem upF_zero (H : List Cur) : upF H 0 = H := by unfold upF; rw [dif_pos rfl]
theorem upF_step {H : List Cur} {j : Nat} (h : ¬ j = 0) : upF H j = if ltC (H.getD j default) (H.getD ((j - 1) / 2) default) = true then upF (swapL H ((j - 1) / 2) j) ((j - 1) / 2) else H := by
 conv => lhs; unfold upF
 rw [dif_neg h]
theorem up_ok2 (bh : Nat) (v : Value) (σ : Store) (j0 : Nat) (H : List Cur) (hl : H.length ≤ 1000000) (hj0 : j0 < H.length) (hσ : Heads H σ) : ACalls Tryz.prog 105 [.ifc HpT (ptrAt bh 0), I .i64 (j0 : Nat)] (hS bh v H σ) (fun x τ => x = .ret (.tuple []) ∧ τ = hS bh v (upF H j0) σ) := by
 refine ACalls.fin (container_heap_up.go ?_)
 unfold container_heap_up.sh
 refine loopI (β := List Cur × Nat) (fun x => x.1.length = H.length ∧ (∀ c ∈ x.1, c ∈ H) ∧ x.2 < H.length ∧ upF x.1 x.2 = upF H j0) (fun x => [.ifc HpT (ptrAt bh 0), I .i64 (x.2 : Nat)]) (fun x => hS bh v x.1 σ) (fun x => x.2) (H, j0) ⟨rfl, fun c h => h, hj0, rfl⟩ (Sub.refl _ _) ?_
 rintro ⟨G, j⟩ ⟨h1, h2, h3, h4⟩
 dsimp only at h1 h2 h3 h4 ⊢
 have hG : Heads G σ := fun c h => hσ c (h2 c h)
 by_cases h0 : j = 0
 ·subst h0
  rw [upF_zero] at h4
  rw [← h4]
  repeat' (with_reducible first|apply Stp.go|refine imp fun _=>?_|refine zq ?_|refine zt ?_|refine zf ?_|refine zg ?_|refine za ?_|refine altF ?_|refine all fun _=>?_|refine both ?_ ?_|refine zu ?_|refine zv ?_|refine cho (fun _=>?_) fun _=>?_|refine zw ?_)
  refine s_quo (by decide) ?_
  rw [show IntKind.wrap .i64 ((((0 : Nat) : Int) - 1).tdiv 2) = ((0 : Nat) : Int) by decide]
  repeat' (with_reducible first|apply Stp.go|refine imp fun _=>?_|refine zq ?_|refine zt ?_|refine zf ?_|refine zg ?_|refine za ?_|refine altF ?_|refine all fun _=>?_|refine both ?_ ?_|refine zu ?_|refine zv ?_|refine cho (fun _=>?_) fun _=>?_|refine zw ?_)
  exact ⟨_, _, _, rfl, Sub.refl _ _, rfl, rfl⟩
 ·have hst := upF_step (H := G) h0
  have hi : (j - 1) / 2 < j := by omega
  repeat' (with_reducible first|apply Stp.go|refine imp fun _=>?_|refine zq ?_|refine zt ?_|refine zf ?_|refine zg ?_|refine za ?_|refine altF ?_|refine all fun _=>?_|refine both ?_ ?_|refine zu ?_|refine zv ?_|refine cho (fun _=>?_) fun _=>?_|refine zw ?_)
  refine inv_Less (i := j) (j := (j - 1) / 2) (by omega) (by omega) (by omega) hG ?_
  by_cases hg : ltC (G.getD j default) (G.getD ((j - 1) / 2) default) = true
  ·rw [if_pos hg] at hst
   repeat' (with_reducible first|apply Stp.go|refine imp fun _=>?_|refine zq ?_|refine zt ?_|refine zf ?_|refine zg ?_|refine za ?_|refine altF ?_|refine all fun _=>?_|refine both ?_ ?_|refine zu ?_|refine zv ?_|refine cho (fun _=>?_) fun _=>?_|refine zw ?_)
   refine inv_Swap (i := (j - 1) / 2) (j := j) (by omega) (by omega) (by omega) ?_
   exact again (swapL G ((j - 1) / 2) j, (j - 1) / 2) (by dsimp only; omega) ⟨by dsimp only; rw [swapL_len]; exact h1, fun c h => h2 c (swapL_mem (by omega) (by omega) h), by dsimp only; omega, by dsimp only; rw [← hst]; exact h4⟩ (Sub.refl _ _)
  ·rw [if_neg hg] at hst
   rw [hst] at h4
   rw [← h4]
   repeat' (with_reducible first|apply Stp.go|refine imp fun _=>?_|refine zq ?_|refine zt ?_|refine zf ?_|refine zg ?_|refine za ?_|refine altF ?_|refine all fun _=>?_|refine both ?_ ?_|refine zu ?_|refine zv ?_|refine cho (fun _=>?_) fun _=>?_|refine zw ?_)
   all_goals exact ⟨_, _, _, rfl, Sub.refl _ _, rfl, rfl⟩
def pushH (H : List Cur) (c : Cur) : List Cur := upF (H ++ [c]) H.length
theorem heapPush_ok (bh : Nat) (v : Value) (H : List Cur) (c : Cur) (σ : Store) (hl : H.length ≤ 100000) (hσ : Heads H σ) (hc : curE c ∈ σ) (hc2 : c.at_ < c.l.length) : ACalls Tryz.prog 72 [.ifc HpT (ptrAt bh 0), .ifc CpT (cuP c)] (hS bh v H σ) (fun x τ => x = .ret (.tuple []) ∧ ∃ v', τ = hS bh v' (pushH H c) σ) := by
 refine container_heap_Push.go ?_
 unfold container_heap_Push.sh
 refine inv_Push (by omega) fun v' => ?_
 have hlen : (H ++ [c]).length = H.length + 1 := by rw [List.length_append]; rfl
 refine inv_Len (by omega) ?_
 rw [hlen]
 repeat' (with_reducible first|apply Stp.go|refine imp fun _=>?_|refine zq ?_|refine zt ?_|refine zf ?_|refine zg ?_|refine za ?_|refine altF ?_|refine all fun _=>?_|refine both ?_ ?_|refine zu ?_|refine zv ?_|refine cho (fun _=>?_) fun _=>?_|refine zw ?_)
 have hs : Heads (H ++ [c]) σ := fun x h => by
  rcases List.mem_append.1 h with h | h
  ·exact hσ x h
  ·rw [List.mem_singleton.1 h]; exact ⟨hc, hc2⟩
 refine Or.inl ⟨_, _, Sub.refl _ _, (up_ok2 bh v' σ H.length (H ++ [c]) (by omega) (by omega) hs).mono ?_⟩
 rintro r τ ⟨e1, e2⟩
 rw [e1, e2]
 exact ⟨rfl, _, rfl⟩
theorem downF_mem (n : Nat) : ∀ (m i : Nat) (H : List Cur), n - i = m → n ≤ H.length → i < H.length → ∀ {c : Cur}, c ∈ downF H n i → c ∈ H := by
 intro m
 induction m using Nat.strongRecOn with
 | _ m ih =>
  intro i H hm hn hi c hc
  by_cases h : 2 * i + 1 < n
  ·obtain ⟨j, hj⟩ : ∃ j, j = if 2 * i + 2 < n ∧ ltC (H.getD (2 * i + 2) default) (H.getD (2 * i + 1) default) = true then 2 * i + 2 else 2 * i + 1 := ⟨_, rfl⟩
   have hjn : j < n ∧ i < j := by rw [hj]; split <;> omega
   rw [downF_step h hj] at hc
   split at hc
   ·exact swapL_mem hi (by omega) (ih _ (by omega) _ (swapL H i j) rfl (by rw [swapL_len]; exact hn) (by rw [swapL_len]; omega) hc)
   ·exact hc
  ·rw [downF_stop h] at hc
   exact hc
def initF (H : List Cur) : Nat → List Cur
 | 0 => H
 | k + 1 => initF (downF H H.length k) k
theorem heapInit_ok (bh : Nat) (v : Value) (H : List Cur) (σ : Store) (hl : H.length ≤ 1000000) (hσ : Heads H σ) : ACalls Tryz.prog 68 [.ifc HpT (ptrAt bh 0)] (hS bh v H σ) (fun x τ => x = .ret (.tuple []) ∧ τ = hS bh v (initF H (H.length / 2)) σ) := by
 refine ACalls.fin (container_heap_Init.go ?_)
 unfold container_heap_Init.sh
 refine inv_Len hl ?_
 repeat' (with_reducible first|apply Stp.go|refine imp fun _=>?_|refine zq ?_|refine zt ?_|refine zf ?_|refine zg ?_|refine za ?_|refine altF ?_|refine all fun _=>?_|refine both ?_ ?_|refine zu ?_|refine zv ?_|refine cho (fun _=>?_) fun _=>?_|refine zw ?_)
 refine loopI (β := List Cur × Nat) (fun x => x.1.length = H.length ∧ (∀ c ∈ x.1, c ∈ H) ∧ x.2 ≤ H.length / 2 ∧ initF x.1 x.2 = initF H (H.length / 2)) (fun x => [.ifc HpT (ptrAt bh 0), I .i64 (H.length : Nat), I .i64 ((x.2 : Int) - 1)]) (fun x => hS bh v x.1 σ) (fun x => x.2) (H, H.length / 2) ⟨rfl, fun c h => h, Nat.le_refl _, rfl⟩ ?_ ?_
 ·first
   | exact Sub.refl _ _
   | (rw [show ((H.length / 2 - 1 : Nat) : Int) = ((H.length / 2 : Nat) : Int) - 1 by omega]; exact Sub.refl _ _)
 rintro ⟨G, k⟩ ⟨h1, h2, h3, h4⟩
 dsimp only at h1 h2 h3 h4 ⊢
 cases k with
 | zero =>
  have h5 : G = initF H (H.length / 2) := h4
  rw [← h5]
  repeat' (with_reducible first|apply Stp.go|refine imp fun _=>?_|refine zq ?_|refine zt ?_|refine zf ?_|refine zg ?_|refine za ?_|refine altF ?_|refine all fun _=>?_|refine both ?_ ?_|refine zu ?_|refine zv ?_|refine cho (fun _=>?_) fun _=>?_|refine zw ?_)
  exact ⟨_, _, _, rfl, Sub.refl _ _, rfl, rfl⟩
 | succ q =>
  have e : (((q + 1 : Nat) : Int)) - 1 = (q : Nat) := by omega
  have h5 : initF (downF G G.length q) q = initF H (H.length / 2) := h4
  rw [e]
  have hG : Heads G σ := fun c h => hσ c (h2 c h)
  repeat' (with_reducible first|apply Stp.go|refine imp fun _=>?_|refine zq ?_|refine zt ?_|refine zf ?_|refine zg ?_|refine za ?_|refine altF ?_|refine all fun _=>?_|refine both ?_ ?_|refine zu ?_|refine zv ?_|refine cho (fun _=>?_) fun _=>?_|refine zw ?_)
  refine Or.inl ⟨_, _, Sub.refl _ _, (down_ok bh v σ H.length q G (by omega) (by omega) (by omega) hG).mono ?_⟩
  rintro r τ ⟨⟨z, e1⟩, e2⟩
  rw [e1, e2]
  simp only [onEnd]
  repeat' (with_reducible first|apply Stp.go|refine imp fun _=>?_|refine zq ?_|refine zt ?_|refine zf ?_|refine zg ?_|refine za ?_|refine altF ?_|refine all fun _=>?_|refine both ?_ ?_|refine zu ?_|refine zv ?_|refine cho (fun _=>?_) fun _=>?_|refine zw ?_)
  all_goals
   refine again (downF G H.length q, q) (by dsimp only; omega) ⟨by dsimp only; rw [downF_len _ _ _ _ rfl, h1], fun c h => h2 c (downF_mem _ _ _ _ rfl (by omega) (by omega) h), by dsimp only; omega, by dsimp only; rw [h1] at h5; exact h5⟩ ?_
   first
   | exact Sub.refl _ _
   | (rw [show ((q - 1 : Nat) : Int) = (q : Int) - 1 by omega]; exact Sub.refl _ _)
end Go.Ab

namespace Go.Ab
def leC (a b : Cur) : Prop := ltC b a = false
theorem ltC_iff (a b : Cur) : ltC a b = true ↔ lt (hdC a).key (hdC b).key = true ∨ ((hdC a).key = (hdC b).key ∧ a.no < b.no) := by
 unfold ltC
 rw [Bool.or_eq_true, Bool.and_eq_true, decide_eq_true_eq, decide_eq_true_eq]
theorem leC_iff (a b : Cur) : leC a b ↔ lt (hdC a).key (hdC b).key = true ∨ ((hdC a).key = (hdC b).key ∧ a.no ≤ b.no) := by
 unfold leC
 rw [Bool.eq_false_iff, ne_eq, ltC_iff]
 constructor
 ·intro h
  cases h1 : lt (hdC a).key (hdC b).key with
  | true => exact .inl rfl
  | false =>
   cases h2 : lt (hdC b).key (hdC a).key with
   | true => exact absurd (.inl h2) h
   | false =>
    have e := lt_tri h1 h2
    refine .inr ⟨e, ?_⟩
    by_cases h3 : a.no ≤ b.no
    ·exact h3
    ·exact absurd (.inr ⟨e.symm, by omega⟩) h
 ·rintro (h | ⟨h1, h2⟩) (g | ⟨g1, g2⟩)
  ·rw [lt_asymm h] at g; cases g
  ·rw [g1, lt_irrefl] at h; cases h
  ·rw [h1, lt_irrefl] at g; cases g
  ·omega
theorem leC_refl (a : Cur) : leC a a := (leC_iff a a).2 (.inr ⟨rfl, Nat.le_refl _⟩)
theorem leC_trans {a b c : Cur} (h1 : leC a b) (h2 : leC b c) : leC a c := by
 rw [leC_iff] at *
 rcases h1 with h1 | ⟨h1, h1'⟩
 ·rcases h2 with h2 | ⟨h2, h2'⟩
  ·exact .inl (lt_trans' h1 h2)
  ·exact .inl (by rw [← h2]; exact h1)
 ·rcases h2 with h2 | ⟨h2, h2'⟩
  ·exact .inl (by rw [h1]; exact h2)
  ·exact .inr ⟨h1.trans h2, by omega⟩
theorem ltC_le {a b : Cur} (h : ltC a b = true) : leC a b := by
 rw [ltC_iff] at h
 rw [leC_iff]
 rcases h with h | ⟨h, h'⟩
 ·exact .inl h
 ·exact .inr ⟨h, by omega⟩
theorem swap_get (H : List Cur) (i j k : Nat) (hi : i < H.length) (hj : j < H.length) : (swapL H i j).getD k default = if k = j then H.getD i default else if k = i then H.getD j default else H.getD k default := by
 unfold swapL
 rw [List.getD_eq_getElem?_getD, List.getElem?_set]
 by_cases h1 : j = k
 ·subst h1
  rw [if_pos rfl, if_pos rfl, List.length_set, if_pos hj]; rfl
 ·rw [if_neg h1, if_neg (Ne.symm h1), List.getElem?_set]
  by_cases h2 : i = k
  ·subst h2
   rw [if_pos rfl, if_pos rfl, if_pos hi]; rfl
  ·rw [if_neg h2, if_neg (Ne.symm h2), List.getD_eq_getElem?_getD]
def HeapFrom (H : List Cur) (n k : Nat) : Prop := ∀ i, k ≤ i → ∀ c, c < n → (c = 2 * i + 1 ∨ c = 2 * i + 2) → leC (H.getD i default) (H.getD c default)
theorem down_heap (n : Nat) : ∀ (m i k : Nat) (H : List Cur), n - i = m → n ≤ H.length → k ≤ i → i < n →
  (∀ j, k ≤ j → j ≠ i → ∀ c, c < n → (c = 2 * j + 1 ∨ c = 2 * j + 2) → leC (H.getD j default) (H.getD c default)) →
  (∀ j, k ≤ j → (i = 2 * j + 1 ∨ i = 2 * j + 2) → ∀ c, c < n → (c = 2 * i + 1 ∨ c = 2 * i + 2) → leC (H.getD j default) (H.getD c default)) →
  HeapFrom (downF H n i) n k := by
 intro m
 induction m using Nat.strongRecOn with
 | _ m ih =>
  intro i k H hm hn hk hi h1 h2
  by_cases hc : 2 * i + 1 < n
  ·obtain ⟨j, hj⟩ : ∃ j, j = if 2 * i + 2 < n ∧ ltC (H.getD (2 * i + 2) default) (H.getD (2 * i + 1) default) = true then 2 * i + 2 else 2 * i + 1 := ⟨_, rfl⟩
   have hjn : j < n ∧ (j = 2 * i + 1 ∨ j = 2 * i + 2) := by rw [hj]; split <;> omega
   have hleast : ∀ c, c < n → (c = 2 * i + 1 ∨ c = 2 * i + 2) → leC (H.getD j default) (H.getD c default) := by
    intro c hc2 hcc
    by_cases hcond : 2 * i + 2 < n ∧ ltC (H.getD (2 * i + 2) default) (H.getD (2 * i + 1) default) = true
    ·rw [if_pos hcond] at hj
     rcases hcc with rfl | rfl
     ·rw [hj]; exact ltC_le hcond.2
     ·rw [hj]; exact leC_refl _
    ·rw [if_neg hcond] at hj
     rcases hcc with rfl | rfl
     ·rw [hj]; exact leC_refl _
     ·rw [hj]
      exact Bool.eq_false_iff.2 fun h => hcond ⟨hc2, h⟩
   rw [downF_step hc hj]
   by_cases hg : ltC (H.getD j default) (H.getD i default) = true
   ·rw [if_pos hg]
    have hgt := fun k => swap_get H i j k (by omega) (by omega)
    refine ih _ (by omega) j k (swapL H i j) rfl (by rw [swapL_len]; exact hn) (by omega) hjn.1 ?_ ?_
    ·intro p hp hpj c hc2 hcc
     rw [hgt, hgt]
     by_cases hpi : p = i
     ·subst hpi
      rw [if_neg (by omega), if_pos rfl]
      by_cases hcj : c = j
      ·rw [if_pos hcj]; exact ltC_le hg
      ·rw [if_neg hcj, if_neg (by omega)]
       exact hleast c hc2 hcc
     ·rw [if_neg hpj, if_neg hpi]
      by_cases hcj : c = j
      ·omega
      ·rw [if_neg hcj]
       by_cases hci : c = i
       ·rw [if_pos hci]
        exact h2 p hp (by omega) j hjn.1 hjn.2
       ·rw [if_neg hci]
        exact h1 p hp hpi c hc2 hcc
    ·intro p hp hpj c hc2 hcc
     have hpi : p = i := by omega
     subst hpi
     rw [hgt, hgt, if_neg (by omega), if_pos rfl, if_neg (by omega), if_neg (by omega)]
     exact h1 j (by omega) (by omega) c hc2 hcc
   ·rw [if_neg hg]
    intro p hp c hc2 hcc
    by_cases hpi : p = i
    ·subst hpi
     exact leC_trans (Bool.eq_false_iff.2 hg) (hleast c hc2 hcc)
    ·exact h1 p hp hpi c hc2 hcc
  ·rw [downF_stop hc]
   intro p hp c hc2 hcc
   exact h1 p hp (by omega) c hc2 hcc
theorem heap_least {H : List Cur} {n : Nat} (h : HeapFrom H n 0) : ∀ (m i : Nat), i = m → i < n → leC (H.getD 0 default) (H.getD i default) := by
 intro m
 induction m using Nat.strongRecOn with
 | _ m ih =>
  intro i hm hi
  by_cases h0 : i = 0
  ·rw [h0]; exact leC_refl _
  ·exact leC_trans (ih ((i - 1) / 2) (by omega) _ rfl (by omega)) (h ((i - 1) / 2) (Nat.zero_le _) i hi (by omega))
end Go.Ab

namespace Go.Ab
theorem up_heap (n : Nat) : ∀ (m j : Nat) (H : List Cur), j = m → n ≤ H.length → j < n →
  (∀ i c, c < n → c ≠ j → (c = 2 * i + 1 ∨ c = 2 * i + 2) → leC (H.getD i default) (H.getD c default)) →
  (∀ i, (j = 2 * i + 1 ∨ j = 2 * i + 2) → ∀ c, c < n → (c = 2 * j + 1 ∨ c = 2 * j + 2) → leC (H.getD i default) (H.getD c default)) →
  HeapFrom (upF H j) n 0 := by
 intro m
 induction m using Nat.strongRecOn with
 | _ m ih =>
  intro j H hm hn hj h1 h2
  by_cases h0 : j = 0
  ·subst h0
   rw [upF_zero]
   intro i _ c hc hcc
   exact h1 i c hc (by omega) hcc
  ·obtain ⟨p, hp⟩ : ∃ p, p = (j - 1) / 2 := ⟨_, rfl⟩
   rw [upF_step h0, ← hp]
   have hpj : j = 2 * p + 1 ∨ j = 2 * p + 2 := by omega
   by_cases hg : ltC (H.getD j default) (H.getD p default) = true
   ·rw [if_pos hg]
    have hgt := fun k => swap_get H p j k (by omega) (by omega)
    refine ih p (by omega) p (swapL H p j) rfl (by rw [swapL_len]; exact hn) (by omega) ?_ ?_
    ·intro i c hc hcp hcc
     rw [hgt, hgt]
     by_cases hij : i = j
     ·subst hij
      rw [if_pos rfl, if_neg (by omega), if_neg hcp]
      exact h2 p hpj c hc hcc
     ·rw [if_neg hij]
      by_cases hip : i = p
      ·subst hip
       rw [if_pos rfl]
       by_cases hcj : c = j
       ·rw [if_pos hcj]; exact ltC_le hg
       ·rw [if_neg hcj, if_neg hcp]
        exact leC_trans (ltC_le hg) (h1 i c hc hcj hcc)
      ·rw [if_neg hip]
       have hcj : ¬ c = j := by omega
       rw [if_neg hcj, if_neg hcp]
       exact h1 i c hc hcj hcc
    ·intro i hi c hc hcc
     rw [hgt, hgt, if_neg (by omega), if_neg (by omega)]
     by_cases hcj : c = j
     ·rw [if_pos hcj]
      exact h1 i p (by omega) (by omega) hi
     ·rw [if_neg hcj, if_neg (by omega)]
      exact leC_trans (h1 i p (by omega) (by omega) hi) (h1 p c hc hcj hcc)
   ·rw [if_neg hg]
    intro i _ c hc hcc
    by_cases hcj : c = j
    ·subst hcj
     have : i = p := by omega
     subst this
     exact Bool.eq_false_iff.2 hg
    ·exact h1 i c hc hcj hcc
theorem init_heap : ∀ (k : Nat) (H : List Cur), 2 * k ≤ H.length → HeapFrom H H.length k → HeapFrom (initF H k) H.length 0 := by
 intro k
 induction k with
 | zero => intro H _ h; exact h
 | succ q ih =>
  intro H hk h
  have hlen : (downF H H.length q).length = H.length := downF_len _ _ _ _ rfl
  have hh : HeapFrom (downF H H.length q) H.length q := by
   refine down_heap H.length _ q q H rfl (Nat.le_refl _) (Nat.le_refl _) (by omega) ?_ ?_
   ·intro j hj hjq c hc hcc
    exact h j (by omega) c hc hcc
   ·intro j hj hjq
    omega
  have := ih (downF H H.length q) (by omega) (by rw [hlen]; exact hh)
  rw [hlen] at this
  exact this
theorem heap_init (H : List Cur) : HeapFrom (initF H (H.length / 2)) H.length 0 :=
 init_heap _ H (by omega) fun i hi c hc hcc => by omega
theorem getD_sv {H : List Cur} {i : Nat} (h : i < H.length) : H.getD i default = H[i] := by
 rw [List.getD_eq_getElem?_getD, List.getElem?_eq_getElem h]; rfl
theorem swap_perm {H : List Cur} {i j : Nat} (hi : i < H.length) (hj : j < H.length) : (swapL H i j).Perm H := by
 unfold swapL
 rw [getD_sv hi, getD_sv hj]
 exact List.set_set_perm hi hj
theorem down_perm (n : Nat) : ∀ (m i : Nat) (H : List Cur), n - i = m → n ≤ H.length → i < H.length → (downF H n i).Perm H ∧ ∀ k, n ≤ k → i < n → (downF H n i).getD k default = H.getD k default := by
 intro m
 induction m using Nat.strongRecOn with
 | _ m ih =>
  intro i H hm hn hi
  by_cases h : 2 * i + 1 < n
  ·obtain ⟨j, hj⟩ : ∃ j, j = if 2 * i + 2 < n ∧ ltC (H.getD (2 * i + 2) default) (H.getD (2 * i + 1) default) = true then 2 * i + 2 else 2 * i + 1 := ⟨_, rfl⟩
   have hjn : j < n ∧ i < j := by rw [hj]; split <;> omega
   rw [downF_step h hj]
   split
   ·have h2 := ih (n - j) (by omega) j (swapL H i j) rfl (by rw [swapL_len]; exact hn) (by rw [swapL_len]; omega)
    refine ⟨h2.1.trans (swap_perm hi (by omega)), fun k hk hin => ?_⟩
    rw [h2.2 k hk hjn.1, swap_get _ _ _ _ hi (by omega), if_neg (by omega), if_neg (by omega)]
   ·exact ⟨List.Perm.refl _, fun _ _ _ => rfl⟩
  ·rw [downF_stop h]
   exact ⟨List.Perm.refl _, fun _ _ _ => rfl⟩
theorem up_perm : ∀ (m j : Nat) (H : List Cur), j = m → j < H.length → (upF H j).Perm H := by
 intro m
 induction m using Nat.strongRecOn with
 | _ m ih =>
  intro j H hm hj
  by_cases h0 : j = 0
  ·subst h0; rw [upF_zero]
  ·rw [upF_step h0]
   split
   ·exact (ih ((j - 1) / 2) (by omega) ((j - 1) / 2) _ rfl (by rw [swapL_len]; omega)).trans (swap_perm (by omega) hj)
   ·exact List.Perm.refl _
theorem initF_perm : ∀ (k : Nat) (H : List Cur), 2 * k ≤ H.length → (initF H k).Perm H := by
 intro k
 induction k with
 | zero => intro H _; exact List.Perm.refl _
 | succ q ih =>
  intro H hk
  have hlen : (downF H H.length q).length = H.length := downF_len _ _ _ _ rfl
  exact (ih (downF H H.length q) (by omega)).trans (down_perm _ _ _ _ rfl (Nat.le_refl _) (by omega)).1
theorem init_perm (H : List Cur) : (initF H (H.length / 2)).Perm H := initF_perm _ H (by omega)
theorem push_perm (H : List Cur) (c : Cur) : (pushH H c).Perm (H ++ [c]) := up_perm _ _ _ rfl (by rw [List.length_append, List.length_singleton]; omega)
theorem push_len (H : List Cur) (c : Cur) : (pushH H c).length = H.length + 1 := by rw [(push_perm H c).length_eq, List.length_append]; rfl
theorem push_heap {H : List Cur} (c : Cur) (h : HeapFrom H H.length 0) : HeapFrom (pushH H c) (H.length + 1) 0 := by
 have hlen : (H ++ [c]).length = H.length + 1 := by rw [List.length_append]; rfl
 have hg : ∀ k, k < H.length → (H ++ [c]).getD k default = H.getD k default := fun k hk => by
  rw [List.getD_eq_getElem?_getD, List.getElem?_append_left hk, ← List.getD_eq_getElem?_getD]
 refine up_heap (H.length + 1) _ _ _ rfl (by omega) (by omega) ?_ ?_
 ·intro i d hd hdn hdd
  rw [hg i (by omega), hg d (by omega)]
  exact h i (Nat.zero_le _) d (by omega) hdd
 ·intro i hi d hd hdd
  omega
theorem pop_all {H : List Cur} (h0 : 0 < H.length) (h : HeapFrom H H.length 0) :
  (popH H).getD (H.length - 1) default = H.getD 0 default ∧ ((popH H).take (H.length - 1) ++ [H.getD 0 default]).Perm H ∧ HeapFrom ((popH H).take (H.length - 1)) (H.length - 1) 0 := by
 have hsl : (swapL H 0 (H.length - 1)).length = H.length := swapL_len _ _ _
 have hpl : (popH H).length = H.length := by unfold popH; rw [downF_len _ _ _ _ rfl, hsl]
 have hgs := fun k => swap_get H 0 (H.length - 1) k h0 (by omega)
 have hp := down_perm (H.length - 1) _ 0 (swapL H 0 (H.length - 1)) rfl (by omega) (by omega)
 have hlast : (popH H).getD (H.length - 1) default = H.getD 0 default := by
  by_cases h1 : H.length = 1
  ·unfold popH
   rw [h1, downF_stop (by omega)]
   rw [h1] at hgs
   exact (hgs 0).trans (by rw [if_pos rfl])
  ·unfold popH
   rw [hp.2 _ (Nat.le_refl _) (by omega), hgs, if_pos rfl]
 have hperm : (popH H).Perm H := by
  unfold popH
  exact hp.1.trans (swap_perm h0 (by omega))
 refine ⟨hlast, ?_, ?_⟩
 ·have e : (popH H).take (H.length - 1) ++ [H.getD 0 default] = popH H := by
   rw [← hlast, getD_sv (by omega)]
   have : popH H = (popH H).take (H.length - 1) ++ (popH H).drop (H.length - 1) := (List.take_append_drop _ _).symm
   conv => rhs; rw [this]
   congr 1
   rw [List.drop_eq_getElem_cons (by omega), List.drop_eq_nil_of_le (by omega)]
  rw [e]
  exact hperm
 ·have hg : ∀ k, k < H.length - 1 → ((popH H).take (H.length - 1)).getD k default = (popH H).getD k default := fun k hk => by
   rw [List.getD_eq_getElem?_getD, List.getElem?_take_of_lt hk, ← List.getD_eq_getElem?_getD]
  by_cases h1 : H.length = 1
  ·intro i _ c hc _
   omega
  ·have hh : HeapFrom (popH H) (H.length - 1) 0 := by
    unfold popH
    refine down_heap (H.length - 1) _ 0 0 _ rfl (by omega) (Nat.le_refl _) (by omega) ?_ ?_
    ·intro j _ hj c hc hcc
     rw [hgs, hgs, if_neg (by omega), if_neg hj, if_neg (by omega), if_neg (by omega)]
     exact h j (Nat.zero_le _) c (by omega) hcc
    ·intro j _ hj c hc hcc
     omega
   intro i hi c hc hcc
   rw [hg i (by omega), hg c hc]
   exact hh i hi c hc hcc
end Go.Ab

namespace Go.Ab
def leastH : List (List En) → Option En
 | [] => none
 | [] :: r => leastH r
 | (x :: _) :: r => match leastH r with
  | none => some x
  | some y => if lt y.key x.key = true then some y else some x
def passK (k : List UInt8) : List En → List En
 | [] => []
 | x :: t => if x.key = k then t else x :: t
def passA (k : List UInt8) (ls : List (List En)) : List (List En) := ls.map (passK k)
def totL : List (List En) → Nat
 | [] => 0
 | l :: r => l.length + totL r
theorem passK_cons (k : List UInt8) (x : En) (t : List En) : passK k (x :: t) = if x.key = k then t else x :: t := rfl
theorem passK_le (k : List UInt8) (l : List En) : (passK k l).length ≤ l.length := by
 cases l with
 | nil => exact Nat.le_refl _
 | cons x t => rw [passK_cons]; split <;> simp
theorem passA_le (k : List UInt8) : ∀ ls, totL (passA k ls) ≤ totL ls
 | [] => Nat.le_refl _
 | l :: r => by
  have h1 := passK_le k l
  have h2 := passA_le k r
  show (passK k l).length + totL (passA k r) ≤ l.length + totL r
  omega
theorem leastH_mem : ∀ {ls : List (List En)} {e : En}, leastH ls = some e → ∃ l ∈ ls, ∃ t, l = e :: t
 | [], e, h => by cases h
 | [] :: r, e, h => by
  obtain ⟨l, h1, h2⟩ := leastH_mem (ls := r) h
  exact ⟨l, List.mem_cons_of_mem _ h1, h2⟩
 | (x :: s) :: r, e, h => by
  unfold leastH at h
  cases hr : leastH r with
  | none =>
   rw [hr] at h
   injection h with h
   exact ⟨_, List.mem_cons_self, s, by rw [h]⟩
  | some y =>
   rw [hr] at h
   dsimp only at h
   split at h
   ·injection h with h
    subst h
    obtain ⟨l, h1, h2⟩ := leastH_mem (ls := r) hr
    exact ⟨l, List.mem_cons_of_mem _ h1, h2⟩
   ·injection h with h
    exact ⟨_, List.mem_cons_self, s, by rw [h]⟩
theorem passA_lt {k : List UInt8} : ∀ {ls : List (List En)}, (∃ l ∈ ls, ∃ x t, l = x :: t ∧ x.key = k) → totL (passA k ls) < totL ls
 | [], h => by obtain ⟨l, h1, _⟩ := h; cases h1
 | l :: r, h => by
  have h1 := passK_le k l
  have h2 := passA_le k r
  show (passK k l).length + totL (passA k r) < l.length + totL r
  obtain ⟨l', hm, x, t, e1, e2⟩ := h
  cases hm with
  | head =>
   subst e1
   have : passK k (x :: t) = t := by rw [passK_cons, if_pos e2]
   rw [this, List.length_cons]
   omega
  | tail _ hm =>
   have := passA_lt (ls := r) ⟨l', hm, x, t, e1, e2⟩
   omega
def mergeL (bottom : Bool) (ls : List (List En)) : List En :=
 match h : leastH ls with
 | none => []
 | some e => (if (bottom && e.del) = true then [] else [e]) ++ mergeL bottom (passA e.key ls)
termination_by totL ls
decreasing_by
 obtain ⟨l, hm, t, e1⟩ := leastH_mem h
 exact passA_lt ⟨l, hm, e, t, e1, rfl⟩
theorem mergeL_none {b : Bool} {ls : List (List En)} (h : leastH ls = none) : mergeL b ls = [] := by
 unfold mergeL
 split
 ·rfl
 ·rename_i h2; rw [h] at h2; cases h2
theorem mergeL_some {b : Bool} {ls : List (List En)} {e : En} (h : leastH ls = some e) : mergeL b ls = (if (b && e.del) = true then [] else [e]) ++ mergeL b (passA e.key ls) := by
 conv => lhs; unfold mergeL
 split
 ·rename_i h2; rw [h] at h2; cases h2
 ·rename_i h2
  rw [h] at h2
  injection h2 with h2
  subst h2
  rfl
theorem leastH_nil : ∀ {ls : List (List En)}, (∀ l ∈ ls, l = []) → leastH ls = none
 | [], _ => rfl
 | [] :: r, h => leastH_nil (ls := r) fun l hl => h l (List.mem_cons_of_mem _ hl)
 | (x :: s) :: r, h => by cases h _ List.mem_cons_self
theorem leastH_of : ∀ {ls : List (List En)} {i : Nat} {e : En} {t : List En}, ls[i]? = some (e :: t) →
  (∀ (j : Nat) (x : En) (s : List En), ls[j]? = some (x :: s) → lt e.key x.key = true ∨ (e.key = x.key ∧ i ≤ j)) → leastH ls = some e
 | [], i, e, t, h, _ => by cases h
 | l :: r, 0, e, t, h, hl => by
  injection h with h
  subst h
  unfold leastH
  cases hr : leastH r with
  | none => rfl
  | some y =>
   dsimp only
   obtain ⟨l, h1, s, h2⟩ := leastH_mem hr
   obtain ⟨j, hj, hjl⟩ := List.getElem_of_mem h1
   have := hl (j + 1) y s (by rw [List.getElem?_cons_succ, List.getElem?_eq_getElem hj, hjl, h2])
   rw [if_neg]
   rcases this with g | ⟨g, _⟩
   ·rw [lt_asymm g]; decide
   ·rw [← g, lt_irrefl]; decide
 | l :: r, i + 1, e, t, h, hl => by
  have h' : r[i]? = some (e :: t) := h
  have hr : leastH r = some e := leastH_of h' fun j x s hj => by
   rcases hl (j + 1) x s hj with g | ⟨g1, g2⟩
   ·exact .inl g
   ·exact .inr ⟨g1, by omega⟩
  cases l with
  | nil => exact hr
  | cons x s =>
   unfold leastH
   rw [hr]
   dsimp only
   rcases hl 0 x s rfl with g | ⟨_, g⟩
   ·rw [if_pos g]
   ·omega
structure Rel (H : List Cur) (ls : List (List En)) : Prop where
 at_ : ∀ c ∈ H, c.at_ < c.l.length ∧ ls[c.no]? = some (c.l.drop c.at_)
 one : (H.map Cur.no).Nodup
 all : ∀ (i : Nat) (x : En) (s : List En), ls[i]? = some (x :: s) → ∃ c ∈ H, c.no = i
theorem drop_hd {c : Cur} (h : c.at_ < c.l.length) : c.l.drop c.at_ = hdC c :: c.l.drop (c.at_ + 1) := by
 unfold hdC
 rw [List.drop_eq_getElem_cons h, List.getD_eq_getElem?_getD, List.getElem?_eq_getElem h]; rfl
theorem Rel.perm {H G : List Cur} {ls : List (List En)} (h : Rel H ls) (hp : G.Perm H) : Rel G ls :=
 ⟨fun c hc => h.at_ c (hp.mem_iff.1 hc), (hp.map _).nodup_iff.2 h.one, fun i x s hi => by
  obtain ⟨c, h1, h2⟩ := h.all i x s hi
  exact ⟨c, hp.mem_iff.2 h1, h2⟩⟩
theorem rel_least {H : List Cur} {ls : List (List En)} (h : Rel H ls) (hh : HeapFrom H H.length 0) (h0 : 0 < H.length) : leastH ls = some (hdC (H.getD 0 default)) := by
 have hc := h.at_ _ (getD_memT h0)
 have h1 := hc.2
 rw [drop_hd hc.1] at h1
 refine leastH_of h1 fun j x s hj => ?_
 obtain ⟨c, hcm, hcn⟩ := h.all j x s hj
 obtain ⟨p, hp, e⟩ := List.getElem_of_mem hcm
 have hle := heap_least hh p p rfl hp
 rw [getD_sv hp, e] at hle
 have h2 := (h.at_ c hcm)
 have h3 := h2.2
 rw [hcn, hj, drop_hd h2.1] at h3
 injection h3 with h3
 injection h3 with h3 _
 rw [leC_iff, ← h3, hcn] at hle
 exact hle
theorem rel_nil {ls : List (List En)} (h : Rel [] ls) : leastH ls = none := leastH_nil fun l hl => by
 obtain ⟨i, hi, e⟩ := List.getElem_of_mem hl
 cases l with
 | nil => rfl
 | cons x s =>
  obtain ⟨c, hc, _⟩ := h.all i x s (by rw [List.getElem?_eq_getElem hi, e])
  cases hc
end Go.Ab

namespace Go.Ab
def Cur.up (c : Cur) : Cur := ⟨c.b, c.l, c.at_ + 1, c.no⟩
structure Half (G rem : List Cur) (ls : List (List En)) (k : List UInt8) : Prop where
 heap : HeapFrom G G.length 0
 at_ : ∀ c ∈ G, c.at_ < c.l.length ∧ (passA k ls)[c.no]? = some (c.l.drop c.at_)
 out : ∀ c ∈ rem, c.at_ < c.l.length ∧ ls[c.no]? = some (c.l.drop c.at_) ∧ (hdC c).key = k
 one : ((G ++ rem).map Cur.no).Nodup
 all : ∀ (i : Nat) (x : En) (s : List En), (passA k ls)[i]? = some (x :: s) → (∃ c ∈ G, c.no = i) ∨ ∃ c ∈ rem, c.no = i
theorem passA_get {k : List UInt8} {ls : List (List En)} {i : Nat} {l : List En} (h : ls[i]? = some l) : (passA k ls)[i]? = some (passK k l) := by
 unfold passA; rw [List.getElem?_map, h]; rfl
theorem half_start {H0 H round : List Cur} {ls : List (List En)} {k : List UInt8} (hr : Rel H0 ls) (hp : (H ++ round).Perm H0) (h1 : ∀ c ∈ round, (hdC c).key = k) (h2 : ∀ c ∈ H, (hdC c).key ≠ k) (hh : HeapFrom H H.length 0) : Half H round ls k := by
 have hr := hr.perm hp
 refine ⟨hh, fun c hc => ?_, fun c hc => ?_, hr.one, fun i x s hi => ?_⟩
 ·have := hr.at_ c (List.mem_append_left _ hc)
  refine ⟨this.1, ?_⟩
  rw [passA_get this.2, drop_hd this.1, passK_cons, if_neg (h2 c hc)]
 ·have := hr.at_ c (List.mem_append_right _ hc)
  exact ⟨this.1, this.2, h1 c hc⟩
 ·unfold passA at hi
  rw [List.getElem?_map] at hi
  cases hl : ls[i]? with
  | none => rw [hl] at hi; cases hi
  | some l =>
   cases l with
   | nil => rw [hl] at hi; cases hi
   | cons y t =>
    obtain ⟨c, hc, hn⟩ := hr.all i y t hl
    rcases List.mem_append.1 hc with hc | hc
    ·exact .inl ⟨c, hc, hn⟩
    ·exact .inr ⟨c, hc, hn⟩
theorem half_behind {G rem : List Cur} {c : Cur} {ls : List (List En)} {k : List UInt8} (h : Half G (c :: rem) ls k) : (passA k ls)[c.no]? = some (c.l.drop (c.at_ + 1)) := by
 have ho := h.out c List.mem_cons_self
 rw [passA_get ho.2.1, drop_hd ho.1, passK_cons, if_pos ho.2.2]
theorem half_push {G rem : List Cur} {c : Cur} {ls : List (List En)} {k : List UInt8} (h : Half G (c :: rem) ls k) (hc : c.at_ + 1 < c.l.length) : Half (pushH G c.up) rem ls k := by
 have hp := push_perm G c.up
 have hlen := push_len G c.up
 refine ⟨?_, fun d hd => ?_, fun d hd => h.out d (List.mem_cons_of_mem _ hd), ?_, fun i x s hi => ?_⟩
 ·rw [hlen]; exact push_heap c.up h.heap
 ·rcases List.mem_append.1 (hp.mem_iff.1 hd) with hd | hd
  ·exact h.at_ d hd
  ·rw [List.mem_singleton.1 hd]
   exact ⟨hc, half_behind h⟩
 ·have h1 : ((pushH G c.up ++ rem).map Cur.no).Perm ((G ++ c :: rem).map Cur.no) := by
   rw [List.map_append, List.map_append]
   have h2 := (hp.map Cur.no).append_right (rem.map Cur.no)
   refine h2.trans ?_
   rw [List.map_append, List.append_assoc]
   exact List.Perm.refl _
  exact h1.nodup_iff.2 h.one
 ·rcases h.all i x s hi with ⟨d, hd, hn⟩ | ⟨d, hd, hn⟩
  ·exact .inl ⟨d, hp.mem_iff.2 (List.mem_append_left _ hd), hn⟩
  ·cases hd with
   | head => exact .inl ⟨c.up, hp.mem_iff.2 (List.mem_append_right _ List.mem_cons_self), hn⟩
   | tail _ hd => exact .inr ⟨d, hd, hn⟩
theorem half_skip {G rem : List Cur} {c : Cur} {ls : List (List En)} {k : List UInt8} (h : Half G (c :: rem) ls k) (hc : ¬ c.at_ + 1 < c.l.length) : Half G rem ls k := by
 refine ⟨h.heap, h.at_, fun d hd => h.out d (List.mem_cons_of_mem _ hd), ?_, fun i x s hi => ?_⟩
 ·have := h.one
  rw [List.map_append, List.map_cons] at this
  rw [List.map_append]
  exact this.sublist (List.Sublist.append_left (List.sublist_cons_self _ _) _)
 ·rcases h.all i x s hi with ⟨d, hd, hn⟩ | ⟨d, hd, hn⟩
  ·exact .inl ⟨d, hd, hn⟩
  ·cases hd with
   | head =>
    have hb := half_behind h
    rw [hn] at hb
    rw [hb, List.drop_eq_nil_of_le (by omega)] at hi
    cases hi
   | tail _ hd => exact .inr ⟨d, hd, hn⟩
theorem half_end {G : List Cur} {ls : List (List En)} {k : List UInt8} (h : Half G [] ls k) : Rel G (passA k ls) :=
 ⟨h.at_, by have := h.one; rw [List.append_nil] at this; exact this, fun i x s hi => by
  rcases h.all i x s hi with h | ⟨d, hd, _⟩
  ·exact h
  ·cases hd⟩
structure Outs (H0 H round : List Cur) (k : List UInt8) : Prop where
 heap : HeapFrom H H.length 0
 perm : (H ++ round).Perm H0
 key : ∀ c ∈ round, (hdC c).key = k
theorem outs_start {H0 : List Cur} (k : List UInt8) (h : HeapFrom H0 H0.length 0) : Outs H0 H0 [] k := ⟨h, by rw [List.append_nil], fun c hc => by cases hc⟩
theorem pop_len {H : List Cur} : ((popH H).take (H.length - 1)).length = H.length - 1 := by
 have : (popH H).length = H.length := by unfold popH; rw [downF_len _ _ _ _ rfl, swapL_len]
 rw [List.length_take, this]; omega
theorem outs_step {H0 H round : List Cur} {k : List UInt8} (h : Outs H0 H round k) (h0 : 0 < H.length) (hk : (hdC (H.getD 0 default)).key = k) : Outs H0 ((popH H).take (H.length - 1)) (round ++ [H.getD 0 default]) k := by
 obtain ⟨p1, p2, p3⟩ := pop_all h0 h.heap
 refine ⟨by rw [pop_len]; exact p3, ?_, fun c hc => ?_⟩
 ·refine List.Perm.trans ?_ h.perm
  refine List.Perm.trans ?_ (p2.append_right round)
  rw [List.append_assoc]
  refine List.Perm.append_left _ ?_
  exact List.perm_append_comm
 ·rcases List.mem_append.1 hc with hc | hc
  ·exact h.key c hc
  ·rw [List.mem_singleton.1 hc]; exact hk
theorem outs_end {H0 H round : List Cur} {k : List UInt8} (h : Outs H0 H round k) (hle : ∀ c ∈ H0, lt (hdC c).key k = false) (hk : 0 < H.length → (hdC (H.getD 0 default)).key ≠ k) : ∀ c ∈ H, (hdC c).key ≠ k := by
 intro c hc e
 obtain ⟨p, hp, e1⟩ := List.getElem_of_mem hc
 have hl := heap_least h.heap p p rfl hp
 rw [getD_sv hp, e1, leC_iff] at hl
 have h0 : 0 < H.length := by omega
 have h1 := hle _ (h.perm.mem_iff.1 (List.mem_append_left _ (getD_memT h0)))
 rcases hl with g | ⟨g, _⟩
 ·rw [e, h1] at g; cases g
 ·exact hk h0 (g.trans e)
end Go.Ab

namespace Go.Ab
open Go.Proofs
theorem Sub.nilIn2 {b : Nat} {t : TypeId} {pre post : List AV} {σ : Store} (E : TypeId) {sz : Nat} (hz : 0 < sz) (us : List AV) : Sub (.var b t (pre ++ .val (.slice none 0 0) :: post) :: σ) us (.var b t (pre ++ .own (.slice none 0 0) 0 :: post) :: .row (.slice none 0 0) E sz [] 0 :: σ) us := by
 intro R w vs hv hs
 have hst : St R w (.var b t (pre ++ .own (.slice none 0 0) 0 :: post) :: σ) := by
  refine ⟨hs.ro, fun e he => ?_, List.pairwise_cons.2 ⟨(List.pairwise_cons.1 hs.apart).1, (List.pairwise_cons.1 hs.apart).2⟩⟩
  rcases List.mem_cons.1 he with rfl | he
  ·obtain ⟨⟨ws, h1, h2, h3⟩, h4⟩ := hs.ents _ List.mem_cons_self
   refine ⟨⟨ws, h1, ⟨by rw [h2.1]; simp, fun j u v hu hv => ?_⟩, h3⟩, h4⟩
   rcases Nat.lt_trichotomy j pre.length with h | h | h
   ·exact h2.2 j u v (by rw [List.getElem?_append_left h] at hu ⊢; exact hu) hv
   ·subst h
    simp at hu
    subst hu
    have := h2.2 pre.length (.val (.slice none 0 0)) v (by simp) hv
    rw [this.val_inv]
    exact .own (.inl ⟨rfl, rfl⟩)
   ·refine h2.2 j u v ?_ hv
    rw [List.getElem?_append_right (by omega)] at hu ⊢
    cases hn : j - pre.length with
    | zero => omega
    | succ n => rw [hn] at hu; simpa using hu
  ·exact hs.ents e (List.mem_cons_of_mem _ he)
 obtain ⟨g1, g2⟩ := st_nilRow hst E hz
 refine ⟨R, hv, g1.perm (List.Perm.swap _ _ _), ⟨fun _ _ h => h, rfl, rfl, rfl, Nat.le_refl _, fun _ _ _ => rfl, fun k hk => .inl ?_, fun _ _ h => .inl h⟩⟩
 simpa [blks, Ent.blk, Value.ownBlock] using hk
def enL (l : List En) : AV := .lst 4 (l.map En.av) .ro
instance : Enc enL 1 := ⟨fun l => ⟨rfl, fun x hx => by
 have hx : x ∈ [enL l] := hx
 rw [List.mem_singleton.1 hx]; rfl⟩, by decide, fun _ => rfl⟩
instance (l : List En) : Cells (enL l) [enL l] := ⟨rfl⟩
def merge_Merge.mark : Mark := ⟨fun t => false, fun t => false, fun t => false, fun t => Nat.beq t 20, fun t => false⟩
def merge_Merge.ann : Ann := ⟨fun n => bif Nat.beq n 3 then [1, 5, 14, 15, 16] else bif Nat.beq n 10 then [1, 5, 8] else bif Nat.beq n 13 then [1, 5, 8, 9, 10] else bif Nat.beq n 18 then [1, 5, 8, 71, 72, 73] else [], fun n => bif Nat.beq n 17 then some [1, 5, 8, 10] else none, fun n => bif Nat.beq n 13 then some [1, 5, 8, 9, 10, 53] else none⟩
def merge_Merge.sh (a0 a1 : AV) (σ : Store) (Q : AEnd → Store → Prop) : Prop :=
 aNewVar 103 [.val (.slice none 0 0)] σ fun t5 σ =>
 Do (aBuiltin Tryz.prog .len #[22] [a0]) fun t15 =>
 aLoop (fun go vs σ_1 =>
 At vs 0 fun s1 => At vs 1 fun s5 => At vs 2 fun s14 => At vs 3 fun s15 => At vs 4 fun s16 => Do (aBin Tryz.prog .lss 3 s16 s15) fun t17 =>
 aCond t17
 (Do (aIndexAddr .slice 1 s14 s16) fun t19 =>
 Do (loadF false 1 t19) fun t20 =>
 Do (aBuiltin Tryz.prog .len #[33] [t20]) fun t22 =>
 Do (aBin Tryz.prog .gtr 3 t22 (.val (.int .i64 0))) fun t23 =>
 aCond t23
 (Do (loadA false 1 s5 σ_1) fun t24 =>
 Do (aLit [.val (.slice none 0 0), .val (.int .i64 0), .val (.int .i64 0)] [(0, 1), (1, 1), (2, 1)] [(0, t20), (2, s16)]) fun t27 =>
 aNewVar 106 (t27 : AV).cells σ_1 fun t28 σ_2 =>
 Do (aSlLit (mkE [.val (.pointer none)]) 1 1 [(0, t28)]) fun t29 =>
 aAppend 104 1 8 t24 t29 σ_2 (subK fun t30 σ_3 =>
 storeA 1 s5 t30 σ_3 fun u σ_4 =>
 Do (aBin Tryz.prog .add 3 s16 (.val (.int .i64 1))) fun t31 =>
 go [s1, s5, s14, s15, t31] σ_4))
 (Do (aBin Tryz.prog .add 3 s16 (.val (.int .i64 1))) fun t31_1 =>
 go [s1, s5, s14, s15, t31_1] σ_1))
 (aCall Tryz.prog 68 [(.ifc 108 s5)] σ_1 (fun t33 σ_5 =>
 aLoop (fun go_1 vs_1 σ_6 =>
 At vs_1 0 fun s1_1 => At vs_1 1 fun s5_1 => At vs_1 2 fun s8 => Do (loadA false 1 s5_1 σ_6) fun t34 =>
 Do (aBuiltin Tryz.prog .len #[103] [t34]) fun t35 =>
 Do (aBin Tryz.prog .gtr 3 t35 (.val (.int .i64 0))) fun t36 =>
 aCond t36
 (Do (loadA false 1 s5_1 σ_6) fun t37 =>
 Do (aIndexAddr .slice 1 t37 (.val (.int .i64 0))) fun t38 =>
 Do (loadA false 1 t38 σ_6) fun t39 =>
 aCall Tryz.prog 69 [t39] σ_6 (fun t40 σ_7 =>
 aNewVar 50 [.val (.string ⟨#[]⟩), .val (.string ⟨#[]⟩), .val (.bool false), .val (.int .i64 0)] σ_7 fun t9 σ_8 =>
 storeA 4 t9 t40 σ_8 fun u_1 σ_9 =>
 aLoop (fun go_2 vs_2 σ_10 =>
 At vs_2 0 fun s1_2 => At vs_2 1 fun s5_2 => At vs_2 2 fun s8_1 => At vs_2 3 fun s9 => At vs_2 4 fun s10 => aJoin (fun j =>
 Do (loadA false 1 s5_2 σ_10) fun t41 =>
 Do (aBuiltin Tryz.prog .len #[103] [t41]) fun t42 =>
 Do (aBin Tryz.prog .gtr 3 t42 (.val (.int .i64 0))) fun t43 =>
 Do (aGuard t43 true (aFieldAddr 0 1 s9)) fun t50 =>
 Both (Do (aGuard t43 true (loadA false 1 s5_2 σ_10)) fun t45 =>
 Do (aGuard t43 true (aIndexAddr .slice 1 t45 (.val (.int .i64 0)))) fun t46 =>
 Do (aGuard t43 true (loadA false 1 t46 σ_10)) fun t47 =>
 Both (GEff t43 true (aCall Tryz.prog 69 [t47] σ_10 (fun t48 σ_12 =>
 Do (aGuard t43 true (aField 0 false 1 t48)) fun t49 =>
 Do (aGuard t43 true (loadA false 1 t50 σ_12)) fun t51 =>
 Do (aGuard t43 true (aBin Tryz.prog .eql 9 t49 t51)) fun t52 =>
 Do (aPick t43 t52 (.val (.bool false))) fun t53 =>
 j [s1_2, s5_2, s8_1, s9, s10, t53] σ_12) (fun e σ_13 => Q (.pan e) σ_13))
 (Do (aGuard t43 true (aField 0 false 1 (.val Go.undef))) fun t49_1 =>
 Do (aGuard t43 true (loadA false 1 t50 σ_10)) fun t51_1 =>
 Do (aGuard t43 true (aBin Tryz.prog .eql 9 t49_1 t51_1)) fun t52_1 =>
 Do (aPick t43 t52_1 (.val (.bool false))) fun t53_1 =>
 j [s1_2, s5_2, s8_1, s9, s10, t53_1] σ_10)) (Do (aGuard t43 true (loadA false 1 t50 σ_10)) fun t51_2 =>
 GEff t43 true (aCall Tryz.prog 69 [t47] σ_10 (fun t48_1 σ_14 =>
 Do (aGuard t43 true (aField 0 false 1 t48_1)) fun t49_2 =>
 Do (aGuard t43 true (aBin Tryz.prog .eql 9 t49_2 t51_2)) fun t52_2 =>
 Do (aPick t43 t52_2 (.val (.bool false))) fun t53_2 =>
 j [s1_2, s5_2, s8_1, s9, s10, t53_2] σ_14) (fun e_1 σ_15 => Q (.pan e_1) σ_15))
 (Do (aGuard t43 true (aField 0 false 1 (.val Go.undef))) fun t49_3 =>
 Do (aGuard t43 true (aBin Tryz.prog .eql 9 t49_3 t51_2)) fun t52_3 =>
 Do (aPick t43 t52_3 (.val (.bool false))) fun t53_3 =>
 j [s1_2, s5_2, s8_1, s9, s10, t53_3] σ_10))) (Do (aGuard t43 true (loadA false 1 t50 σ_10)) fun t51_3 =>
 Do (aGuard t43 true (loadA false 1 s5_2 σ_10)) fun t45_1 =>
 Do (aGuard t43 true (aIndexAddr .slice 1 t45_1 (.val (.int .i64 0)))) fun t46_1 =>
 Do (aGuard t43 true (loadA false 1 t46_1 σ_10)) fun t47_1 =>
 GEff t43 true (aCall Tryz.prog 69 [t47_1] σ_10 (fun t48_2 σ_16 =>
 Do (aGuard t43 true (aField 0 false 1 t48_2)) fun t49_4 =>
 Do (aGuard t43 true (aBin Tryz.prog .eql 9 t49_4 t51_3)) fun t52_4 =>
 Do (aPick t43 t52_4 (.val (.bool false))) fun t53_4 =>
 j [s1_2, s5_2, s8_1, s9, s10, t53_4] σ_16) (fun e_2 σ_17 => Q (.pan e_2) σ_17))
 (Do (aGuard t43 true (aField 0 false 1 (.val Go.undef))) fun t49_5 =>
 Do (aGuard t43 true (aBin Tryz.prog .eql 9 t49_5 t51_3)) fun t52_5 =>
 Do (aPick t43 t52_5 (.val (.bool false))) fun t53_5 =>
 j [s1_2, s5_2, s8_1, s9, s10, t53_5] σ_10))) fun vs_3 σ_11 =>
 At vs_3 0 fun s1_3 => At vs_3 1 fun s5_3 => At vs_3 2 fun s8_2 => At vs_3 3 fun s9_1 => At vs_3 4 fun s10_1 => At vs_3 5 fun s53 => aCond s53
 (aCall Tryz.prog 70 [(.ifc 108 s5_3)] σ_11 (fun t56 σ_18 =>
 Do (aAssert Tryz.prog 104 false t56) fun t57 =>
 Do (aSlLit (mkE [.val (.pointer none)]) 1 1 [(0, t57)]) fun t58 =>
 aAppend 104 1 8 s10_1 t58 σ_18 (subK fun t59 σ_19 =>
 go_2 [s1_3, s5_3, s8_2, s9_1, t59] σ_19)) (fun e_3 σ_20 => Q (.pan e_3) σ_20))
 (aJoin (fun j_1 =>
 Do (aUn Tryz.prog .not s1_3) fun t61 =>
 Do (aGuard t61 false (aFieldAddr 2 1 s9_1)) fun t63 =>
 Do (aGuard t61 false (loadA false 1 t63 σ_11)) fun t64 =>
 Do (aGuard t61 false (aUn Tryz.prog .not t64)) fun t65 =>
 Do (aPick t61 (.val (.bool true)) t65) fun t66 =>
 aCond t66
 (Do (loadA true 4 s9_1 σ_11) fun t68 =>
 Do (aSlLit (mkE [.val (.string ⟨#[]⟩), .val (.string ⟨#[]⟩), .val (.bool false), .val (.int .i64 0)]) 4 1 [(0, t68)]) fun t69 =>
 aAppend 50 4 48 s8_2 t69 σ_11 (subK fun t70 σ_22 =>
 j_1 [s1_3, s5_3, t70, s10_1] σ_22))
 (j_1 [s1_3, s5_3, s8_2, s10_1] σ_11)) fun vs_4 σ_21 =>
 At vs_4 0 fun s1_4 => At vs_4 1 fun s5_4 => At vs_4 2 fun s8_3 => At vs_4 3 fun s10_2 => Do (aBuiltin Tryz.prog .len #[102] [s10_2]) fun t72 =>
 aLoop (fun go_3 vs_5 σ_23 =>
 At vs_5 0 fun s1_5 => At vs_5 1 fun s5_5 => At vs_5 2 fun s8_4 => At vs_5 3 fun s71 => At vs_5 4 fun s72 => At vs_5 5 fun s73 => Do (aBin Tryz.prog .lss 3 s73 s72) fun t74 =>
 aCond t74
 (Do (aIndexAddr .slice 1 s71 s73) fun t75 =>
 Do (loadA false 1 t75 σ_23) fun t76 =>
 aCallV Tryz.prog (.fn (.func 71) [t76] []) [] σ_23 (fun t80 σ_24 =>
 aCond t80
 (aCall Tryz.prog 72 [(.ifc 108 s5_5), (.ifc 104 t76)] σ_24 (fun t84 σ_25 =>
 Do (aBin Tryz.prog .add 3 s73 (.val (.int .i64 1))) fun t85 =>
 go_3 [s1_5, s5_5, s8_4, s71, s72, t85] σ_25) (fun e_4 σ_26 => Q (.pan e_4) σ_26))
 (Do (aBin Tryz.prog .add 3 s73 (.val (.int .i64 1))) fun t85_1 =>
 go_3 [s1_5, s5_5, s8_4, s71, s72, t85_1] σ_24)) (fun e_5 σ_27 => Q (.pan e_5) σ_27))
 (go_1 [s1_5, s5_5, s8_4] σ_23))
 [s1_4, s5_4, s8_3, s10_2, t72, (.val (.int .i64 0))] σ_21))
 [s1_1, s5_1, s8, t9, (.val (.slice none 0 0))] σ_9) (fun e_6 σ_28 => Q (.pan e_6) σ_28))
 (Q (.ret s8) σ_6))
 [s1, s5, (.val (.slice none 0 0))] σ_5) (fun e_7 σ_29 => Q (.pan e_7) σ_29)))
 [a1, t5, a0, t15, (.val (.int .i64 0))] σ
theorem merge_Merge.eq (a0 a1 : AV) (σ : Store) (Q : AEnd → Store → Prop) : vc (semOf Tryz.prog merge_Merge.mark) Tryz.f35.ntmps merge_Merge.ann (bodyOf Tryz.f35) (endK [.tmp 4] Q) (argFr [a0, a1]) σ = merge_Merge.sh a0 a1 σ Q := by kernel_rfl
theorem merge_Merge.go {a0 a1 : AV} {σ : Store} {Q : AEnd → Store → Prop} (h : merge_Merge.sh a0 a1 σ Q) : ACalls Tryz.prog 35 [a0, a1] σ Q :=
 acalls_of_eq [.tmp 4] Tryz.func35 (by kernel_rfl) (by kernel_rfl) (by kernel_rfl) (by kernel_rfl) (merge_Merge.eq a0 a1 σ Q) h
structure Made (ls : List (List En)) (i : Nat) (C : List Cur) : Prop where
 le : C.length ≤ i
 ok : ∀ c ∈ C, c.at_ = 0 ∧ c.no < i ∧ ls[c.no]? = some c.l ∧ 0 < c.l.length
 one : (C.map Cur.no).Nodup
 all : ∀ (j : Nat) (x : En) (s : List En), j < i → ls[j]? = some (x :: s) → ∃ c ∈ C, c.no = j
theorem made_rel {ls : List (List En)} {C : List Cur} (h : Made ls ls.length C) : Rel C ls :=
 ⟨fun c hc => by
  have := h.ok c hc
  rw [this.1]
  exact ⟨this.2.2.2, this.2.2.1⟩, h.one, fun i x s hi => h.all i x s (by
   obtain ⟨h1, _⟩ := List.getElem?_eq_some_iff.1 hi
   exact h1) hi⟩
theorem made_zero (ls : List (List En)) : Made ls 0 [] := ⟨Nat.le_refl _, fun c hc => (by cases hc), List.nodup_nil, fun j x s h => by omega⟩
theorem made_skip {ls : List (List En)} {i : Nat} {C : List Cur} (h : Made ls i C) (hi : ls[i]? = some []) : Made ls (i + 1) C :=
 ⟨by have := h.le; omega, fun c hc => ⟨(h.ok c hc).1, by have := (h.ok c hc).2.1; omega, (h.ok c hc).2.2⟩, h.one, fun j x s hj hx => by
  by_cases e : j = i
  ·subst e; rw [hi] at hx; cases hx
  ·exact h.all j x s (by omega) hx⟩
theorem made_more {ls : List (List En)} {i b : Nat} {C : List Cur} {l : List En} (h : Made ls i C) (hi : ls[i]? = some l) (hl : 0 < l.length) : Made ls (i + 1) (C ++ [⟨b, l, 0, i⟩]) := by
 refine ⟨by have := h.le; rw [List.length_append, List.length_singleton]; omega, fun c hc => ?_, ?_, fun j x s hj hx => ?_⟩
 ·rcases List.mem_append.1 hc with hc | hc
  ·exact ⟨(h.ok c hc).1, by have := (h.ok c hc).2.1; omega, (h.ok c hc).2.2⟩
  ·rw [List.mem_singleton.1 hc]; exact ⟨rfl, Nat.lt_succ_self _, hi, hl⟩
 ·rw [List.map_append, List.nodup_append]
  refine ⟨h.one, List.nodup_cons.2 ⟨by simp, List.nodup_nil⟩, fun a ha b' hb => ?_⟩
  obtain ⟨c, hc, e⟩ := List.mem_map.1 ha
  have h1 := (h.ok c hc).2.1
  have h2 : b' = i := List.mem_singleton.1 hb
  omega
 ·by_cases e : j = i
  ·exact ⟨_, List.mem_append_right _ List.mem_cons_self, e.symm⟩
  ·obtain ⟨c, hc, hn⟩ := h.all j x s (by omega) hx
   exact ⟨c, List.mem_append_left _ hc, hn⟩
end Go.Ab

namespace Go.Ab
open Go.Proofs
instance (l : List En) : IsL (enL l) En.av 4 l .ro := by
 first | exact ⟨rfl⟩ | exact ⟨⟨rfl⟩⟩ | (constructor; rfl) | (constructor; exact SubV.refl _)
theorem totL_le' {n : Nat} : ∀ {ls : List (List En)}, (∀ l ∈ ls, l.length ≤ n) → totL ls ≤ n * ls.length
 | [], _ => Nat.zero_le _
 | r :: ls, h => by
  have h1 := h r List.mem_cons_self
  have h2 := totL_le' (ls := ls) fun r hr => h r (List.mem_cons_of_mem _ hr)
  show r.length + totL ls ≤ n * (ls.length + 1)
  rw [Nat.mul_add]
  omega
theorem Merge_ok (ls : List (List En)) (b : Bool) (m : SM) (hl : ls.length ≤ 1000) (hs : ∀ l ∈ ls, l.length ≤ 1000) : aPure Tryz.prog 35 [.lst 1 (ls.map enL) m, B b] (.lst 4 ((mergeL b ls).map En.av) .ro) := by
  refine ACalls.fin (merge_Merge.go ?_)
  unfold merge_Merge.sh
  repeat' (with_reducible first|apply Stp.go|refine imp fun _=>?_|refine zq ?_|refine zt ?_|refine zf ?_|refine zg ?_|refine za ?_|refine altF ?_|refine all fun _=>?_|refine both ?_ ?_|refine zu ?_|refine zv ?_|refine cho (fun _=>?_) fun _=>?_|refine zw ?_)
  rename_i bh
  refine loopI (β := Nat × Value × List Cur) (fun x => x.1 ≤ ls.length ∧ Made ls x.1 x.2.2) (fun x => [B b, ptrAt bh 0, .lst 1 (ls.map enL) m, I .i64 (ls.length : Nat), I .i64 (x.1 : Nat)]) (fun x => hS bh x.2.1 x.2.2 (x.2.2.reverse.map curE)) (fun x => ls.length - x.1) (0, .slice none 0 0, []) ⟨Nat.zero_le _, made_zero ls⟩ (Sub.nilIn2 (pre := []) PtT (sz := 1) (by decide) _) ?_
  rintro ⟨i, v, C⟩ ⟨h1, h2⟩
  dsimp only at h1 h2 ⊢
  by_cases hi : i < ls.length
  · have hget : ls[i]? = some (ls.getD i default) := by
      rw [List.getD_eq_getElem?_getD, List.getElem?_eq_getElem hi]; rfl
    have hll : (ls.getD i default).length ≤ 1000 := hs _ (getD_memT hi)
    have hC := h2.le
    repeat' (with_reducible first|apply Stp.go|refine imp fun _=>?_|refine zq ?_|refine zt ?_|refine zf ?_|refine zg ?_|refine za ?_|refine altF ?_|refine all fun _=>?_|refine both ?_ ?_|refine zu ?_|refine zv ?_|refine cho (fun _=>?_) fun _=>?_|refine zw ?_)
    generalize ls.getD i default = l at *
    rw [show enL l = .lst 4 (l.map En.av) .ro from rfl]
    by_cases h0 : 0 < l.length
    · repeat' (with_reducible first|apply Stp.go|refine imp fun _=>?_|refine zq ?_|refine zt ?_|refine zf ?_|refine zg ?_|refine za ?_|refine altF ?_|refine all fun _=>?_|refine both ?_ ?_|refine zu ?_|refine zv ?_|refine cho (fun _=>?_) fun _=>?_|refine zw ?_)
      rename_i x
      rw [show ptrAt x 0 = cuP ⟨x, l, 0, i⟩ from rfl]
      repeat' (with_reducible first|apply Stp.go|refine imp fun _=>?_|refine zq ?_|refine zt ?_|refine zf ?_|refine zg ?_|refine za ?_|refine altF ?_|refine all fun _=>?_|refine both ?_ ?_|refine zu ?_|refine zv ?_|refine cho (fun _=>?_) fun _=>?_|refine zw ?_)
      rename_i w
      refine again (i + 1, w, C ++ [⟨x, l, 0, i⟩]) (by dsimp only; omega) ⟨by dsimp only; omega, made_more h2 hget h0⟩ ?_
      refine Sub.perm ?_ _
      dsimp only
      rw [List.reverse_append]
      exact (List.perm_middle (l₁ := [_, _])).symm
    · have hn : l = [] := List.length_eq_zero_iff.1 (by omega)
      subst hn
      repeat' (with_reducible first|apply Stp.go|refine imp fun _=>?_|refine zq ?_|refine zt ?_|refine zf ?_|refine zg ?_|refine za ?_|refine altF ?_|refine all fun _=>?_|refine both ?_ ?_|refine zu ?_|refine zv ?_|refine cho (fun _=>?_) fun _=>?_|refine zw ?_)
      all_goals exact again (i + 1, v, C) (by dsimp only; omega) ⟨by dsimp only; omega, made_skip h2 hget⟩ (Sub.refl _ _)
  · have e : i = ls.length := by omega
    subst e
    have hr := made_rel h2
    have hC := h2.le
    have hcl : ∀ c ∈ C, c.l.length ≤ 1000 := fun c hc => hs _ (List.mem_of_getElem? (h2.ok c hc).2.2.1)
    clear h2
    repeat' (with_reducible first|apply Stp.go|refine imp fun _=>?_|refine zq ?_|refine zt ?_|refine zf ?_|refine zg ?_|refine za ?_|refine altF ?_|refine all fun _=>?_|refine both ?_ ?_|refine zu ?_|refine zv ?_|refine cho (fun _=>?_) fun _=>?_|refine zw ?_)
    refine Or.inl ⟨_, _, Sub.refl _ _, (heapInit_ok bh v C (C.reverse.map curE) (by omega) (fun c hc => ⟨List.mem_map.2 ⟨c, List.mem_reverse.2 hc, rfl⟩, (hr.at_ c hc).1⟩)).mono ?_⟩
    rintro r τ ⟨e1, e2⟩
    rw [e1, e2]
    simp only [onEnd]
    have hG := init_perm C
    have hH : HeapFrom (initF C (C.length / 2)) (initF C (C.length / 2)).length 0 := by rw [hG.length_eq]; exact heap_init C
    replace hr := hr.perm hG
    have hCs : ∀ c ∈ initF C (C.length / 2), c ∈ C.reverse ∧ c.l.length ≤ 1000 := fun c hc => ⟨List.mem_reverse.2 (hG.mem_iff.1 hc), hcl c (hG.mem_iff.1 hc)⟩
    have hGl : (initF C (C.length / 2)).length ≤ 1000 := by rw [hG.length_eq]; omega
    clear e1 e2 hG hcl
    generalize initF C (C.length / 2) = G at *
    generalize C.reverse = Cs at *
    clear hC C
    refine loopI (β := Value × List Cur × List Cur × List (List En) × Value × List En)
      (fun x => HeapFrom x.2.1 x.2.1.length 0 ∧ Rel x.2.1 x.2.2.2.1 ∧ (∀ c ∈ x.2.1, c ∈ x.2.2.1 ∧ c.l.length ≤ 1000) ∧ x.2.1.length ≤ 1000 ∧ x.2.2.2.2.2 ++ mergeL b x.2.2.2.1 = mergeL b ls ∧ x.2.2.2.2.2.length + totL x.2.2.2.1 ≤ totL ls)
      (fun x => [B b, ptrAt bh 0, .own x.2.2.2.2.1 x.2.2.2.2.2.length])
      (fun x => hS bh x.1 x.2.1 (.row x.2.2.2.2.1 50 4 (x.2.2.2.2.2.map En.av) 0 :: x.2.2.1.map curE))
      (fun x => totL x.2.2.2.1) (v, G, Cs, ls, .slice none 0 0, []) ⟨hH, hr, hCs, hGl, rfl, by simp⟩ ?_ ?_
    · refine (Sub.nil_own 50 (sz := 4) (by decide) _ [_, _] []).trans (Sub.perm ?_ _)
      exact (List.perm_middle (l₁ := [_, _])).symm
    rintro ⟨v, H, Cs, lq, w, out⟩ ⟨g1, g2, g3, g4, g5, g6⟩
    dsimp only at g1 g2 g3 g4 g5 g6 ⊢
    by_cases h0 : 0 < H.length
    · have hd := g2.at_ _ (getD_memT h0)
      have hin := (g3 _ (getD_memT h0)).1
      have hlst := rel_least g2 g1 h0
      repeat' (with_reducible first|apply Stp.go|refine imp fun _=>?_|refine zq ?_|refine zt ?_|refine zf ?_|refine zg ?_|refine za ?_|refine altF ?_|refine all fun _=>?_|refine both ?_ ?_|refine zu ?_|refine zv ?_|refine cho (fun _=>?_) fun _=>?_|refine zw ?_)
      refine Or.inl ⟨_, _, Sub.refl _ _, (head_ok hd.1 (List.mem_cons_of_mem _ (List.mem_cons_of_mem _ (List.mem_cons_of_mem _ (List.mem_map.2 ⟨_, hin, rfl⟩))))).mono ?_⟩
      rintro r τ ⟨e1, e2⟩
      rw [e1, e2]
      simp only [onEnd]
      clear e1 e2
      generalize hE : hdC (H.getD 0 default) = E at *
      repeat' (with_reducible first|apply Stp.go|refine imp fun _=>?_|refine zq ?_|refine zt ?_|refine zf ?_|refine zg ?_|refine za ?_|refine altF ?_|refine all fun _=>?_|refine both ?_ ?_|refine zu ?_|refine zv ?_|refine cho (fun _=>?_) fun _=>?_|refine zw ?_)
      rename_i eb
      refine loopI (β := Value × List Cur × Value × List Cur)
        (fun x => Outs H x.2.1 x.2.2.2 E.key)
        (fun x => [B b, ptrAt bh 0, .own w out.length, ptrAt eb 0, .own x.2.2.1 x.2.2.2.length])
        (fun x => hS bh x.1 x.2.1 (.row x.2.2.1 PtT 1 (x.2.2.2.map cuP) 0 :: .var eb 50 E.cs :: .row w 50 4 (out.map En.av) 0 :: Cs.map curE))
        (fun x => x.2.1.length) (v, H, .slice none 0 0, []) (outs_start _ g1) ?_ ?_
      · refine (Sub.nil_own PtT (sz := 1) (by decide) _ [_, _, _, _] []).trans (Sub.perm ?_ _)
        exact (List.perm_append_comm (l₁ := [_, _]) (l₂ := [_, _])).append_right _
      rintro ⟨v2, H2, w2, rd⟩ o1
      dsimp only at o1 ⊢
      have hl2 : H2.length + rd.length = H.length := by rw [← o1.perm.length_eq, List.length_append]
      have hs2 : ∀ c ∈ H2, c ∈ Cs ∧ c.at_ < c.l.length := fun c hc => by
        have := o1.perm.mem_iff.1 (List.mem_append_left _ hc)
        exact ⟨(g3 c this).1, (g2.at_ c this).1⟩
      repeat' (with_reducible first|apply Stp.go|refine imp fun _=>?_|refine zq ?_|refine zt ?_|refine zf ?_|refine zg ?_|refine za ?_|refine altF ?_|refine all fun _=>?_|refine both ?_ ?_|refine zu ?_|refine zv ?_|refine cho (fun _=>?_) fun _=>?_|refine zw ?_)
      refine joinI (β := Unit) (fun _ => True) (fun _ => [B b, ptrAt bh 0, .own w out.length, ptrAt eb 0, .own w2 rd.length, B (decide (0 < H2.length ∧ (hdC (H2.getD 0 default)).key = E.key))])
        (fun _ => hS bh v2 H2 (.row w2 PtT 1 (rd.map cuP) 0 :: .var eb 50 E.cs :: .row w 50 4 (out.map En.av) 0 :: Cs.map curE)) ?_ ?_
      · by_cases h02 : 0 < H2.length
        · have hin2 := hs2 _ (getD_memT h02)
          have e2 : decide (0 < H2.length) = true := decide_eq_true h02
          repeat' (with_reducible first|apply Stp.go|refine imp fun _=>?_|refine zq ?_|refine zt ?_|refine zf ?_|refine zg ?_|refine za ?_|refine altF ?_|refine all fun _=>?_|refine both ?_ ?_|refine zu ?_|refine zv ?_|refine cho (fun _=>?_) fun _=>?_|refine zw ?_)
          all_goals
            refine Or.inl ⟨_, _, Sub.refl _ _, (head_ok hin2.2 (List.mem_cons_of_mem _ (List.mem_cons_of_mem _ (List.mem_cons_of_mem _ (List.mem_cons_of_mem _ (List.mem_cons_of_mem _ (List.mem_map.2 ⟨_, hin2.1, rfl⟩))))))).mono ?_⟩
            rintro r τ ⟨e1, e4⟩
            rw [e1, e4]
            simp only [onEnd]
            clear e1 e4
            generalize hdC (H2.getD 0 default) = E2
            have e3 : decide (0 < H2.length ∧ E2.key = E.key) = decide (E2.key = E.key) := by
              by_cases h : E2.key = E.key
              · rw [decide_eq_true h, decide_eq_true ⟨h02, h⟩]
              · rw [decide_eq_false h, decide_eq_false fun g => h g.2]
            rw [e3, e2]
            repeat' (with_reducible first|apply Stp.go|refine imp fun _=>?_|refine zq ?_|refine zt ?_|refine zf ?_|refine zg ?_|refine za ?_|refine altF ?_|refine all fun _=>?_|refine both ?_ ?_|refine zu ?_|refine zv ?_|refine cho (fun _=>?_) fun _=>?_|refine zw ?_)
            all_goals exact meet () trivial (Sub.refl _ _)
        · rw [decide_eq_false (fun h => h02 h.1)]
          repeat' (with_reducible first|apply Stp.go|refine imp fun _=>?_|refine zq ?_|refine zt ?_|refine zf ?_|refine zg ?_|refine za ?_|refine altF ?_|refine all fun _=>?_|refine both ?_ ?_|refine zu ?_|refine zv ?_|refine cho (fun _=>?_) fun _=>?_|refine zw ?_)
          all_goals exact meet () trivial (Sub.refl _ _)
      · rintro ⟨⟩ -
        by_cases hk : 0 < H2.length ∧ (hdC (H2.getD 0 default)).key = E.key
        · rw [decide_eq_true hk]
          repeat' (with_reducible first|apply Stp.go|refine imp fun _=>?_|refine zq ?_|refine zt ?_|refine zf ?_|refine zg ?_|refine za ?_|refine altF ?_|refine all fun _=>?_|refine both ?_ ?_|refine zu ?_|refine zv ?_|refine cho (fun _=>?_) fun _=>?_|refine zw ?_)
          have hpo := (pop_all hk.1 o1.heap).1
          refine Or.inl ⟨_, _, Sub.refl _ _, (heapPop_ok bh v2 H2 _ (by omega) hk.1 (fun c hc => ⟨List.mem_cons_of_mem _ (List.mem_cons_of_mem _ (List.mem_cons_of_mem _ (List.mem_map.2 ⟨_, (hs2 c hc).1, rfl⟩))), (hs2 c hc).2⟩)).mono ?_⟩
          rintro r τ ⟨e1, v3, e2⟩
          rw [e1, e2]
          simp only [onEnd]
          clear e1 e2
          rw [hpo]
          have hst := outs_step o1 hk.1 hk.2
          have hpl := pop_len (H := H2)
          generalize (popH H2).take (H2.length - 1) = H3 at *
          generalize H2.getD 0 default = c0 at *
          repeat' (with_reducible first|apply Stp.go|refine imp fun _=>?_|refine zq ?_|refine zt ?_|refine zf ?_|refine zg ?_|refine za ?_|refine altF ?_|refine all fun _=>?_|refine both ?_ ?_|refine zu ?_|refine zv ?_|refine cho (fun _=>?_) fun _=>?_|refine zw ?_)
          rename_i w3
          exact again (v3, H3, w3, rd ++ [c0]) (by dsimp only; omega) hst (Sub.refl _ _)
        · rw [decide_eq_false hk]
          have hle : ∀ c ∈ H, lt (hdC c).key E.key = false := fun c hc => by
            obtain ⟨p, hp, e1⟩ := List.getElem_of_mem hc
            have hl := heap_least g1 p p rfl hp
            rw [getD_sv hp, e1, leC_iff, hE] at hl
            rcases hl with g | ⟨g, _⟩
            · exact lt_asymm g
            · rw [← g]; exact lt_irrefl _
          have hne := outs_end o1 hle (fun h e => hk ⟨h, e⟩)
          have hhalf := half_start g2 o1.perm o1.key hne o1.heap
          have hms := mergeL_some (b := b) hlst
          have hlt : totL (passA E.key lq) < totL lq := by
            obtain ⟨l, a1, t, a2⟩ := leastH_mem hlst
            exact passA_lt ⟨l, a1, E, t, a2, rfl⟩
          have hrd : ∀ c ∈ rd, c ∈ Cs ∧ c.l.length ≤ 1000 := fun c hc => g3 c (o1.perm.mem_iff.1 (List.mem_append_right _ hc))
          have hH2 : ∀ c ∈ H2, c ∈ Cs ∧ c.l.length ≤ 1000 := fun c hc => g3 c (o1.perm.mem_iff.1 (List.mem_append_left _ hc))
          clear hk hle hne o1 hs2
          repeat' (with_reducible first|apply Stp.go|refine imp fun _=>?_|refine zq ?_|refine zt ?_|refine zf ?_|refine zg ?_|refine za ?_|refine altF ?_|refine all fun _=>?_|refine both ?_ ?_|refine zu ?_|refine zv ?_|refine cho (fun _=>?_) fun _=>?_|refine zw ?_)
          have hto : out.length + 1 ≤ 1000000 := by
            have := totL_le' hs
            have := Nat.mul_le_mul_left 1000 hl
            omega
          obtain ⟨pc, hpc⟩ : ∃ pc : List En, (if (b && E.del) = true then [] else [E]) = pc := ⟨_, rfl⟩
          rw [hpc] at hms
          have hpl : pc.length ≤ 1 := by rw [← hpc]; split <;> simp
          refine joinI (β := Value) (fun _ => True) (fun w' => [B b, ptrAt bh 0, .own w' (out ++ pc).length, .own w2 rd.length])
            (fun w' => hS bh v2 H2 (.row w2 PtT 1 (rd.map cuP) 0 :: .row w' 50 4 ((out ++ pc).map En.av) 0 :: Cs.map curE)) ?_ ?_
          · have hno : pc = [] → ∀ σ : Store, (out ++ pc).map En.av = out.map En.av ∧ (out ++ pc).length = out.length := fun h _ => by rw [h, List.append_nil]; exact ⟨rfl, rfl⟩
            cases b <;> cases hd2 : E.del <;> rw [hd2] at hpc <;> simp only [Bool.false_and, Bool.true_and, Bool.and_true, Bool.false_eq_true, if_true, if_false] at hpc <;> subst hpc
            all_goals
              repeat' (with_reducible first|apply Stp.go|refine imp fun _=>?_|refine zq ?_|refine zt ?_|refine zf ?_|refine zg ?_|refine za ?_|refine altF ?_|refine all fun _=>?_|refine both ?_ ?_|refine zu ?_|refine zv ?_|refine cho (fun _=>?_) fun _=>?_|refine zw ?_)
              all_goals first
              | (rw [List.append_nil]
                 exact meet w trivial (Sub.drop_ (.cons_cons _ (.cons_cons _ (.cons_cons _ (.cons _ (.refl _))))) _))
              | (rename_i w3
                 exact meet w3 trivial (Sub.drop_ (.cons_cons _ (.cons_cons _ (.cons_cons _ (.cons _ (.refl _))))) _))
              | (exfalso; contradiction)
          · intro w' _
            rw [hms, ← List.append_assoc] at g5
            have ho6 : (out ++ pc).length + totL (passA E.key lq) ≤ totL ls := by rw [List.length_append]; omega
            generalize out ++ pc = out2 at *
            clear hpc hms hpl hto g6
            generalize hlq : passA E.key lq = lq2 at *
            have hl3 : rd.length + H2.length ≤ 1000 := by omega
            repeat' (with_reducible first|apply Stp.go|refine imp fun _=>?_|refine zq ?_|refine zt ?_|refine zf ?_|refine zg ?_|refine za ?_|refine altF ?_|refine all fun _=>?_|refine both ?_ ?_|refine zu ?_|refine zv ?_|refine cho (fun _=>?_) fun _=>?_|refine zw ?_)
            refine loopI (β := Nat × Value × List Cur × List Cur)
              (fun x => x.1 ≤ rd.length ∧ Half x.2.2.1 (rd.drop x.1) lq E.key ∧ (∀ c ∈ x.2.2.1, c ∈ x.2.2.2 ∧ c.l.length ≤ 1000) ∧ (∀ c ∈ rd.drop x.1, c ∈ x.2.2.2 ∧ c.l.length ≤ 1000) ∧ (rd.drop x.1).length + x.2.2.1.length ≤ 1000)
              (fun x => [B b, ptrAt bh 0, .own w' out2.length, .own w2 rd.length, I .i64 (rd.length : Nat), I .i64 (x.1 : Nat)])
              (fun x => hS bh x.2.1 x.2.2.1 (.row w2 PtT 1 (rd.map cuP) 0 :: .row w' 50 4 (out2.map En.av) 0 :: x.2.2.2.map curE))
              (fun x => rd.length - x.1) (0, v2, H2, Cs) ⟨Nat.zero_le _, by dsimp only; rw [List.drop_zero]; exact hhalf, hH2, by dsimp only; rw [List.drop_zero]; exact hrd, by dsimp only; rw [List.drop_zero]; omega⟩ (Sub.refl _ _) ?_
            rintro ⟨j, v5, G5, C5⟩ ⟨k1, k2, k3, k4, k5⟩
            dsimp only at k1 k2 k3 k4 k5 ⊢
            by_cases hj : j < rd.length
            · have hdr : rd.drop j = rd.getD j default :: rd.drop (j + 1) := by
                rw [List.drop_eq_getElem_cons hj, List.getD_eq_getElem?_getD, List.getElem?_eq_getElem hj]; rfl
              rw [hdr] at k2 k4 k5
              generalize hc : rd.getD j default = c at *
              have kc := k4 c List.mem_cons_self
              have kat := (k2.out c List.mem_cons_self).1
              obtain ⟨s1, s2, hC⟩ := List.append_of_mem kc.1
              have kone := k2.one
              rw [List.map_append, List.map_cons] at kone
              have kne : ∀ d, (d ∈ G5 ∨ d ∈ rd.drop (j + 1)) → d ≠ c := fun d hd e => by
                subst e
                rw [List.nodup_append] at kone
                rcases hd with hd | hd
                · exact kone.2.2 _ (List.mem_map.2 ⟨_, hd, rfl⟩) _ List.mem_cons_self rfl
                · exact (List.nodup_cons.1 kone.2.1).1 (List.mem_map.2 ⟨_, hd, rfl⟩)
              have kin : ∀ d, d ∈ C5 → d ≠ c → d ∈ s1 ++ c.up :: s2 := fun d hd hn => by
                rw [hC] at hd
                rcases List.mem_append.1 hd with hd | hd
                · exact List.mem_append_left _ hd
                · rcases List.mem_cons.1 hd with hd | hd
                  · exact (hn hd).elim
                  · exact List.mem_append_right _ (List.mem_cons_of_mem _ hd)
              have hp5 : ∀ (c' : Cur) (v' : Value) (G' : List Cur) (A B' : Ent), (hS bh v' G' (A :: B' :: (s1 ++ c' :: s2).map curE)).Perm ([curE c'] ++ hS bh v' G' (A :: B' :: (s1 ++ s2).map curE)) := fun c' v' G' A B' => by
                rw [List.map_append, List.map_cons, List.map_append]
                exact List.perm_middle (l₁ := _ :: _ :: _ :: _ :: s1.map curE)
              repeat' (with_reducible first|apply Stp.go|refine imp fun _=>?_|refine zq ?_|refine zt ?_|refine zf ?_|refine zg ?_|refine za ?_|refine altF ?_|refine all fun _=>?_|refine both ?_ ?_|refine zu ?_|refine zv ?_|refine cho (fun _=>?_) fun _=>?_|refine zw ?_)
              rw [hc]
              subst hC
              refine Or.inl ⟨_, _, Sub.perm (hp5 _ _ _ _ _) _, ((pass_one c kat (by omega)).frame _).mono ?_⟩
              rintro r τ ⟨σ1, e1, _, e2, e3⟩
              rw [e2, e1, e3]
              simp only [onEnd]
              clear e1 e2 e3
              rw [show (⟨c.b, c.l, c.at_ + 1, c.no⟩ : Cur) = c.up from rfl]
              have kG : ∀ d ∈ G5, d ∈ s1 ++ c.up :: s2 ∧ d.l.length ≤ 1000 := fun d hd => ⟨kin d (k3 d hd).1 (kne d (.inl hd)), (k3 d hd).2⟩
              have kR : ∀ d ∈ rd.drop (j + 1), d ∈ s1 ++ c.up :: s2 ∧ d.l.length ≤ 1000 := fun d hd => ⟨kin d (k4 d (List.mem_cons_of_mem _ hd)).1 (kne d (.inr hd)), (k4 d (List.mem_cons_of_mem _ hd)).2⟩
              have kup : c.up ∈ s1 ++ c.up :: s2 := List.mem_append_right _ List.mem_cons_self
              rw [List.length_cons] at k5
              by_cases hup : c.at_ + 1 < c.l.length
              · rw [decide_eq_true hup]
                repeat' (with_reducible first|apply Stp.go|refine imp fun _=>?_|refine zq ?_|refine zt ?_|refine zf ?_|refine zg ?_|refine za ?_|refine altF ?_|refine all fun _=>?_|refine both ?_ ?_|refine zu ?_|refine zv ?_|refine cho (fun _=>?_) fun _=>?_|refine zw ?_)
                refine Or.inl ⟨_, _, Sub.perm (hp5 c.up _ _ _ _).symm _, (heapPush_ok bh v5 G5 c.up _ (by omega) (fun d hd => ⟨List.mem_cons_of_mem _ (List.mem_cons_of_mem _ (List.mem_map.2 ⟨d, (kG d hd).1, rfl⟩)), (k2.at_ d hd).1⟩) (List.mem_cons_of_mem _ (List.mem_cons_of_mem _ (List.mem_map.2 ⟨_, kup, rfl⟩))) hup).mono ?_⟩
                rintro r τ ⟨e1, v6, e2⟩
                rw [e1, e2]
                simp only [onEnd]
                clear e1 e2
                repeat' (with_reducible first|apply Stp.go|refine imp fun _=>?_|refine zq ?_|refine zt ?_|refine zf ?_|refine zg ?_|refine za ?_|refine altF ?_|refine all fun _=>?_|refine both ?_ ?_|refine zu ?_|refine zv ?_|refine cho (fun _=>?_) fun _=>?_|refine zw ?_)
                have hpl := push_len G5 c.up
                refine again (j + 1, v6, pushH G5 c.up, s1 ++ c.up :: s2) (by dsimp only; omega) ⟨by dsimp only; omega, half_push k2 hup, fun d hd => ?_, kR, by dsimp only; omega⟩ (Sub.refl _ _)
                rcases List.mem_append.1 ((push_perm G5 c.up).mem_iff.1 hd) with hd | hd
                · exact kG d hd
                · rw [List.mem_singleton.1 hd]
                  exact ⟨kup, kc.2⟩
              · rw [decide_eq_false hup]
                repeat' (with_reducible first|apply Stp.go|refine imp fun _=>?_|refine zq ?_|refine zt ?_|refine zf ?_|refine zg ?_|refine za ?_|refine altF ?_|refine all fun _=>?_|refine both ?_ ?_|refine zu ?_|refine zv ?_|refine cho (fun _=>?_) fun _=>?_|refine zw ?_)
                exact again (j + 1, v5, G5, s1 ++ c.up :: s2) (by dsimp only; omega) ⟨by dsimp only; omega, half_skip k2 hup, kG, kR, by dsimp only; omega⟩ (Sub.perm (hp5 c.up _ _ _ _).symm _)
            · have ej : j = rd.length := by omega
              subst ej
              rw [List.drop_length] at k2
              have k6 := half_end k2
              rw [hlq] at k6
              repeat' (with_reducible first|apply Stp.go|refine imp fun _=>?_|refine zq ?_|refine zt ?_|refine zf ?_|refine zg ?_|refine za ?_|refine altF ?_|refine all fun _=>?_|refine both ?_ ?_|refine zu ?_|refine zv ?_|refine cho (fun _=>?_) fun _=>?_|refine zw ?_)
              exact again (v5, G5, C5, lq2, w', out2) (by dsimp only; omega) ⟨k2.heap, k6, k3, by rw [List.drop_length] at k5; simpa using k5, g5, ho6⟩ (Sub.drop_ (.cons_cons _ (.cons_cons _ (.cons _ (.refl _)))) _)
    · have hn : H = [] := List.length_eq_zero_iff.1 (by omega)
      subst hn
      rw [mergeL_none (rel_nil g2), List.append_nil] at g5
      rw [← g5]
      repeat' (with_reducible first|apply Stp.go|refine imp fun _=>?_|refine zq ?_|refine zt ?_|refine zf ?_|refine zg ?_|refine za ?_|refine altF ?_|refine all fun _=>?_|refine both ?_ ?_|refine zu ?_|refine zv ?_|refine cho (fun _=>?_) fun _=>?_|refine zw ?_)
      unfold hS
      exact ⟨_, _, _, rfl, retOwn (Sub.drop_ (List.nil_sublist _) _), rfl, rfl⟩
end Go.Ab

namespace Go.Ab
def partN (n k : Nat) : Nat := n / k + if n % k = 0 then 0 else 1
def splitK {α : Type} : Nat → List α → List (List α)
 | 0, _ => []
 | k + 1, l => l.take (partN l.length (k + 1)) :: splitK k (l.drop (partN l.length (k + 1)))
def manyP (n : Nat) : Nat := (n + 63) / 64
def splitL {α : Type} (l : List α) : List (List α) := splitK (manyP l.length) l
theorem splitK_len {α : Type} : ∀ (k : Nat) (l : List α), (splitK k l).length = k
 | 0, _ => rfl
 | k + 1, l => by
  show (splitK k (l.drop _)).length + 1 = k + 1
  rw [splitK_len k]
theorem partN_step {n k : Nat} (h1 : k + 1 ≤ n) (h2 : n ≤ 64 * (k + 1)) : 1 ≤ partN n (k + 1) ∧ partN n (k + 1) ≤ 64 ∧ partN n (k + 1) ≤ n ∧ k ≤ n - partN n (k + 1) ∧ n - partN n (k + 1) ≤ 64 * k := by
 obtain ⟨q, hq⟩ : ∃ q, q = n / (k + 1) := ⟨_, rfl⟩
 obtain ⟨r, hr⟩ : ∃ r, r = n % (k + 1) := ⟨_, rfl⟩
 have hn : n = (k + 1) * q + r := by rw [hq, hr]; exact (Nat.div_add_mod n (k + 1)).symm
 have hrk : r < k + 1 := by rw [hr]; exact Nat.mod_lt _ (Nat.succ_pos _)
 unfold partN
 rw [← hq, ← hr]
 have hq1 : 1 ≤ q := by rw [hq]; exact Nat.div_pos h1 (Nat.succ_pos _)
 have hq2 : q ≤ 64 := by
  rw [hq]
  exact Nat.div_le_of_le_mul (by rw [Nat.mul_comm]; exact h2)
 have hkq : k ≤ k * q := Nat.le_mul_of_pos_right k hq1
 have hkq2 : k * q ≤ k * 64 := Nat.mul_le_mul_left k hq2
 have hd : (k + 1) * q = k * q + q := by rw [Nat.add_mul, Nat.one_mul]
 rw [hd] at hn
 split
 ·rename_i h0
  refine ⟨?_, ?_, ?_, ?_, ?_⟩ <;> omega
 ·rename_i h0
  have hq3 : q < 64 := by
   by_cases e : q = 64
   ·subst e; omega
   ·omega
  have hk1 : 1 ≤ k := by omega
  have hkq3 : k * q ≤ k * 63 := Nat.mul_le_mul_left k (by omega)
  refine ⟨?_, ?_, ?_, ?_, ?_⟩ <;> omega
theorem splitK_join {α : Type} : ∀ (k : Nat) (l : List α), k ≤ l.length → l.length ≤ 64 * k → (splitK k l).flatten = l ∧ ∀ p ∈ splitK k l, 1 ≤ p.length ∧ p.length ≤ 64
 | 0, l, _, h2 => by
  have : l = [] := List.length_eq_zero_iff.1 (by omega)
  subst this
  exact ⟨rfl, fun p hp => by cases hp⟩
 | k + 1, l, h1, h2 => by
  obtain ⟨a1, a2, a3, a4, a5⟩ := partN_step h1 h2
  have ih := splitK_join k (l.drop (partN l.length (k + 1))) (by rw [List.length_drop]; exact a4) (by rw [List.length_drop]; exact a5)
  refine ⟨?_, fun p hp => ?_⟩
  ·show l.take _ ++ (splitK k (l.drop _)).flatten = l
   rw [ih.1, List.take_append_drop]
  ·rcases List.mem_cons.1 hp with rfl | hp
   ·rw [List.length_take]; omega
   ·exact ih.2 p hp
theorem manyP_le (n : Nat) : manyP n ≤ n ∧ n ≤ 64 * manyP n := by unfold manyP; omega
theorem splitL_join {α : Type} (l : List α) : (splitL l).flatten = l ∧ ∀ p ∈ splitL l, 1 ≤ p.length ∧ p.length ≤ 64 :=
 splitK_join _ l (manyP_le _).1 (manyP_le _).2
theorem splitL_len {α : Type} (l : List α) : (splitL l).length = manyP l.length := splitK_len _ _
end Go.Ab

namespace Go.Ab
def Beh (x y : TabR) : Prop := x.lev < y.lev ∨ (x.lev = y.lev ∧ (x.lev = 0 ∨ lt x.lst y.fst = true))
theorem behT_iff (x y : TabR) : behT y x = true ↔ Beh x y := by
 unfold behT Beh
 by_cases h1 : x.lev < y.lev
 ·simp [h1]
 ·by_cases h2 : y.lev = x.lev
  ·by_cases h3 : x.lev = 0
   ·simp [h2, h3]
   ·simp [h2, h3]
  ·have : ¬ x.lev = y.lev := fun e => h2 e.symm
   simp [h1, h2, this]
theorem mayT_ends {x : TabR} (h : mayT x = true) : lt x.lst x.fst = false := by
 unfold mayT at h
 simp only [Bool.and_eq_true] at h
 have h2 := h.2
 split at h2
 ·rw [decide_eq_true_eq] at h2
  rw [h2, lt_irrefl]
 ·exact lt_asymm h2
theorem Beh.trans {x y z : TabR} (hy : mayT y = true) (h1 : Beh x y) (h2 : Beh y z) : Beh x z := by
 unfold Beh at *
 rcases h1 with h1 | ⟨h1, h1'⟩
 ·rcases h2 with h2 | ⟨h2, _⟩
  ·left; omega
  ·left; omega
 ·rcases h2 with h2 | ⟨h2, h2'⟩
  ·left; omega
  ·right
   refine ⟨by omega, ?_⟩
   rcases h1' with h1' | h1'
   ·exact .inl h1'
   ·rcases h2' with h2' | h2'
    ·exact .inl (by omega)
    ·right
     exact lt_trans' h1' (lt_of_ge (mayT_ends hy) h2')
theorem Beh.asymm {x y : TabR} (hx : mayT x = true) (hy : mayT y = true) (h0 : 0 < x.lev) (h1 : Beh x y) (h2 : Beh y x) : False := by
 have h := Beh.trans hy h1 h2
 unfold Beh at h
 rcases h with h | ⟨_, h | h⟩
 ·omega
 ·omega
 ·rw [mayT_ends hx] at h
  cases h
theorem okT_iff {l : List TabR} {i : Nat} : okT l i = true ↔ mayT (l.getD i default) = true ∧ (i = 0 ∨ Beh (l.getD (i - 1) default) (l.getD i default)) := by
 unfold okT
 rw [Bool.and_eq_true, Bool.or_eq_true, decide_eq_true_eq, behT_iff]
theorem getD_cons_s {α : Type} [Inhabited α] (x : α) (l : List α) (i : Nat) : (x :: l).getD (i + 1) default = l.getD i default := by
 simp [List.getD_eq_getElem?_getD]
theorem pair_of_ok : ∀ {l : List TabR}, (∀ i, i < l.length → okT l i = true) → (∀ x ∈ l, mayT x = true) ∧ l.Pairwise Beh
 | [], _ => ⟨fun x hx => (by cases hx), .nil⟩
 | x :: l, h => by
  have hx := (okT_iff.1 (h 0 (Nat.succ_pos _))).1
  have ih := pair_of_ok (l := l) fun i hi => by
   have := okT_iff.1 (h (i + 1) (Nat.succ_lt_succ hi))
   rw [getD_cons_s] at this
   refine okT_iff.2 ⟨this.1, ?_⟩
   cases i with
   | zero => exact .inl rfl
   | succ i =>
    right
    rcases this.2 with e | e
    ·cases e
    ·rw [show i + 1 + 1 - 1 = i + 1 by omega, getD_cons_s] at e
     exact e
  refine ⟨fun y hy => ?_, List.pairwise_cons.2 ⟨fun y hy => ?_, ih.2⟩⟩
  ·rcases List.mem_cons.1 hy with rfl | hy
   ·exact hx
   ·exact ih.1 y hy
  ·cases l with
   | nil => cases hy
   | cons z l =>
    have hz : Beh x z := by
     have := (okT_iff.1 (h 1 (by simp))).2
     rcases this with e | e
     ·cases e
     ·exact e
    rcases List.mem_cons.1 hy with rfl | hy
    ·exact hz
    ·exact hz.trans (ih.1 z List.mem_cons_self) ((List.pairwise_cons.1 ih.2).1 y hy)
theorem ok_of_pair {l : List TabR} (h1 : ∀ x ∈ l, mayT x = true) (h2 : l.Pairwise Beh) {i : Nat} (hi : i < l.length) : okT l i = true := by
 refine okT_iff.2 ⟨h1 _ (getD_memT hi), ?_⟩
 cases i with
 | zero => exact .inl rfl
 | succ i =>
  right
  have := List.pairwise_iff_getElem.1 h2 i (i + 1) (by omega) hi (by omega)
  rw [show i + 1 - 1 = i by omega, List.getD_eq_getElem?_getD, List.getD_eq_getElem?_getD, List.getElem?_eq_getElem hi, List.getElem?_eq_getElem (by omega)]
  exact this
theorem rightT_iff (l : List TabR) : rightT l = true ↔ (∀ x ∈ l, mayT x = true) ∧ l.Pairwise Beh ∧ l.length ≤ 512 := by
 unfold rightT
 rw [Bool.and_eq_true, decide_eq_true_eq, decide_eq_true_eq]
 constructor
 ·rintro ⟨h1, h2⟩
  exact ⟨(pair_of_ok h1).1, (pair_of_ok h1).2, h2⟩
 ·rintro ⟨h1, h2, h3⟩
  exact ⟨fun i hi => ok_of_pair h1 h2 hi, h3⟩
inductive Inter {α : Type} : List α → List α → List α → Prop
 | nil : Inter [] [] []
 | left {s t o : List α} (x : α) : Inter s t o → Inter (x :: s) t (x :: o)
 | right {s t o : List α} (x : α) : Inter s t o → Inter s (x :: t) (x :: o)
theorem Inter.left_all {α : Type} : ∀ (s : List α), Inter s [] s
 | [] => .nil
 | x :: s => .left x (Inter.left_all s)
theorem Inter.split {α : Type} : ∀ {p q s t : List α}, Inter s t (p ++ q) → ∃ s1 s2 t1 t2, s = s1 ++ s2 ∧ t = t1 ++ t2 ∧ Inter s1 t1 p ∧ Inter s2 t2 q
 | [], q, s, t, h => ⟨[], s, [], t, rfl, rfl, .nil, h⟩
 | x :: p, q, s, t, h => by
  cases h with
  | left _ h =>
   obtain ⟨s1, s2, t1, t2, e1, e2, h1, h2⟩ := Inter.split h
   exact ⟨x :: s1, s2, t1, t2, by rw [e1]; rfl, e2, .left x h1, h2⟩
  | right _ h =>
   obtain ⟨s1, s2, t1, t2, e1, e2, h1, h2⟩ := Inter.split h
   exact ⟨s1, s2, x :: t1, t2, e1, by rw [e2]; rfl, .right x h1, h2⟩
theorem Inter.join {α : Type} {s2 t2 q : List α} (h2 : Inter s2 t2 q) : ∀ {s1 t1 p : List α}, Inter s1 t1 p → Inter (s1 ++ s2) (t1 ++ t2) (p ++ q)
 | _, _, _, .nil => h2
 | _, _, _, .left x h => .left x (Inter.join h2 h)
 | _, _, _, .right x h => .right x (Inter.join h2 h)
theorem Inter.mem {α : Type} {z : α} : ∀ {s t o : List α}, Inter s t o → (z ∈ o ↔ z ∈ s ∨ z ∈ t)
 | _, _, _, .nil => by simp
 | _, _, _, .left x h => by rw [List.mem_cons, List.mem_cons, Inter.mem h, or_assoc]
 | _, _, _, .right x h => by
  rw [List.mem_cons, List.mem_cons, Inter.mem h]
  constructor
  ·rintro (h | h | h)
   ·exact .inr (.inl h)
   ·exact .inl h
   ·exact .inr (.inr h)
  ·rintro (h | h | h)
   ·exact .inr (.inl h)
   ·exact .inl h
   ·exact .inr (.inr h)
theorem Inter.perm {α : Type} : ∀ {s t o : List α}, Inter s t o → o.Perm (s ++ t)
 | _, _, _, .nil => .refl _
 | _, _, _, .left x h => (Inter.perm h).cons x
 | _, _, _, .right x h => ((Inter.perm h).cons x).trans List.perm_middle.symm
theorem ahead_of_beh {x y : TabR} (hx : mayT x = true) (h0 : 0 < y.lev) (h : Beh x y) : aheadT x y = true := by
 unfold aheadT
 rcases h with h | ⟨h, h' | h'⟩
 ·simp [h]
 ·omega
 ·rw [decide_eq_true h, lt_of_ge (mayT_ends hx) h']
  simp
theorem not_ahead_of_beh {x y : TabR} (hy : mayT y = true) (h0 : 0 < y.lev) (h : Beh y x) : aheadT x y = false := by
 unfold aheadT
 rcases h with h | ⟨h, h' | h'⟩
 ·rw [decide_eq_false (by omega), decide_eq_false (by omega)]; rfl
 ·omega
 ·rw [decide_eq_false (by omega), Bool.false_or, decide_eq_true h.symm, Bool.true_and]
  exact lt_asymm (lt_of_ge (mayT_ends hy) h')
theorem findIdx_lt_p {α : Type} [Inhabited α] {l : List α} {p : α → Bool} {j : Nat} (h : j < l.findIdx p) : p (l.getD j default) = false := by
 have hl := List.findIdx_le_length (xs := l) (p := p)
 have := List.not_of_lt_findIdx h
 rw [List.getD_eq_getElem?_getD, List.getElem?_eq_getElem (by omega)]
 simpa using this
theorem ins_parts {out : List TabR} {x : TabR} (ho : ∀ y ∈ out, mayT y = true) (hp : out.Pairwise Beh) (hx : mayT x = true) (h0 : 0 < x.lev) (hc : ∀ y ∈ out, Beh y x ∨ Beh x y) :
  (∀ y ∈ out.take (out.findIdx fun y => !aheadT y x), Beh y x) ∧ ∀ y ∈ out.drop (out.findIdx fun y => !aheadT y x), Beh x y := by
 have hl := List.findIdx_le_length (xs := out) (p := fun y => !aheadT y x)
 constructor
 ·intro y hy
  obtain ⟨j, hj, e⟩ := List.getElem_of_mem hy
  rw [List.length_take] at hj
  have hf := findIdx_lt_p (l := out) (p := fun y => !aheadT y x) (j := j) (by omega)
  have e2 : out.getD j default = y := by
   rw [← e, List.getElem_take, List.getD_eq_getElem?_getD, List.getElem?_eq_getElem (by omega)]; rfl
  rw [e2] at hf
  rcases hc y (List.mem_of_mem_take hy) with h | h
  ·exact h
  ·rw [not_ahead_of_beh hx h0 h] at hf
   cases hf
 ·generalize hk : out.findIdx (fun y => !aheadT y x) = k at *
  by_cases hlt : k < out.length
  ·have hk2 : (!aheadT (out.getD k default) x) = true := by
    have := List.findIdx_getElem (xs := out) (p := fun y => !aheadT y x) (w := by rw [hk]; exact hlt)
    rw [List.getD_eq_getElem?_getD, List.getElem?_eq_getElem hlt]
    simpa [hk] using this
   have hm := getD_memT hlt
   have h1 : Beh x (out.getD k default) := by
    rcases hc _ hm with h | h
    ·rw [ahead_of_beh (ho _ hm) h0 h] at hk2
     cases hk2
    ·exact h
   intro y hy
   rw [List.drop_eq_getElem_cons hlt] at hy
   have e : out.getD k default = out[k] := by rw [List.getD_eq_getElem?_getD, List.getElem?_eq_getElem hlt]; rfl
   rcases List.mem_cons.1 hy with rfl | hy
   ·rw [← e]; exact h1
   ·have hp2 := hp.sublist (List.drop_sublist k out)
    rw [List.drop_eq_getElem_cons hlt] at hp2
    rw [e] at h1 hm
    exact h1.trans (ho _ hm) ((List.pairwise_cons.1 hp2).1 y hy)
  ·intro y hy
   rw [List.drop_eq_nil_of_le (by omega)] at hy
   cases hy
theorem ins_right {out : List TabR} {x : TabR} (ho : ∀ y ∈ out, mayT y = true) (hp : out.Pairwise Beh) (hx : mayT x = true) (h0 : 0 < x.lev) (hc : ∀ y ∈ out, Beh y x ∨ Beh x y) :
  (∀ y ∈ insT out x, mayT y = true) ∧ (insT out x).Pairwise Beh := by
 obtain ⟨h1, h2⟩ := ins_parts ho hp hx h0 hc
 unfold insT
 generalize out.findIdx (fun y => !aheadT y x) = k at *
 constructor
 ·intro y hy
  rcases List.mem_append.1 hy with hy | hy
  ·exact ho y (List.mem_of_mem_take hy)
  ·rcases List.mem_cons.1 hy with rfl | hy
   ·exact hx
   ·exact ho y (List.mem_of_mem_drop hy)
 ·refine List.pairwise_append.2 ⟨hp.sublist (List.take_sublist _ _), List.pairwise_cons.2 ⟨h2, hp.sublist (List.drop_sublist _ _)⟩, fun y hy z hz => ?_⟩
  rcases List.mem_cons.1 hz with rfl | hz
  ·exact h1 y hy
  ·exact (h1 y hy).trans hx (h2 z hz)
theorem ins_inter {out s t : List TabR} {x : TabR} (ho : ∀ y ∈ out, mayT y = true) (hp : out.Pairwise Beh) (hx : mayT x = true) (h0 : 0 < x.lev) (hc : ∀ y ∈ out, Beh y x ∨ Beh x y) (hi : Inter s t out) (ht : ∀ y ∈ t, Beh y x ∧ 0 < y.lev) : Inter s (t ++ [x]) (insT out x) := by
 obtain ⟨_, h2⟩ := ins_parts ho hp hx h0 hc
 unfold insT
 generalize out.findIdx (fun y => !aheadT y x) = k at *
 rw [← List.take_append_drop k out] at hi
 obtain ⟨s1, s2, t1, t2, e1, e2, g1, g2⟩ := hi.split
 have e3 : t2 = [] := by
  cases t2 with
  | nil => rfl
  | cons z t2 =>
   have hz := ht z (by rw [e2]; exact List.mem_append_right _ List.mem_cons_self)
   have hd : z ∈ out.drop k := g2.mem.2 (.inr List.mem_cons_self)
   exact (Beh.asymm (ho z (List.mem_of_mem_drop hd)) hx hz.2 hz.1 (h2 z hd)).elim
 subst e3
 rw [List.append_nil] at e2
 rw [e1, e2]
 exact (Inter.right x g2).join g1
theorem place_right : ∀ {parts out s t : List TabR}, (∀ y ∈ out, mayT y = true) → out.Pairwise Beh → (∀ x ∈ parts, mayT x = true ∧ 0 < x.lev) → parts.Pairwise Beh → (∀ x ∈ parts, ∀ y ∈ s, Beh y x ∨ Beh x y) → (∀ x ∈ parts, ∀ y ∈ t, Beh y x) → (∀ y ∈ t, 0 < y.lev) → Inter s t out →
  (∀ y ∈ parts.foldl insT out, mayT y = true) ∧ (parts.foldl insT out).Pairwise Beh ∧ Inter s (t ++ parts) (parts.foldl insT out)
 | [], out, s, t, h1, h2, _, _, _, _, _, hi => by
  rw [List.append_nil]
  exact ⟨h1, h2, hi⟩
 | x :: parts, out, s, t, h1, h2, h3, h4, h5, h6, h7, hi => by
  have hx := h3 x List.mem_cons_self
  have hc : ∀ y ∈ out, Beh y x ∨ Beh x y := fun y hy => by
   rcases hi.mem.1 hy with h | h
   ·exact h5 x List.mem_cons_self y h
   ·exact .inl (h6 x List.mem_cons_self y h)
  have hr := ins_right h1 h2 hx.1 hx.2 hc
  have hi2 := ins_inter h1 h2 hx.1 hx.2 hc hi fun y hy => ⟨h6 x List.mem_cons_self y hy, h7 y hy⟩
  have h4' := List.pairwise_cons.1 h4
  have := place_right (parts := parts) (out := insT out x) (s := s) (t := t ++ [x]) hr.1 hr.2 (fun y hy => h3 y (List.mem_cons_of_mem _ hy)) h4'.2 (fun y hy => h5 y (List.mem_cons_of_mem _ hy)) (fun y hy z hz => by
   rcases List.mem_append.1 hz with hz | hz
   ·exact h6 y (List.mem_cons_of_mem _ hy) z hz
   ·rw [List.mem_singleton.1 hz]
    exact h4'.1 y hy) (fun y hy => by
   rcases List.mem_append.1 hy with hy | hy
   ·exact h7 y hy
   ·rw [List.mem_singleton.1 hy]
    exact hx.2) hi2
  rw [List.append_assoc] at this
  exact this
end Go.Ab

namespace Go.Ab
def firstK (k : List UInt8) : List (List En) → Option En
 | [] => none
 | l :: r => match getE k l with
  | some e => some e
  | none => firstK k r
theorem firstK_cons (k : List UInt8) (l : List En) (r : List (List En)) : firstK k (l :: r) = (getE k l).or (firstK k r) := by
 show (match getE k l with | some e => some e | none => firstK k r) = _
 cases getE k l <;> rfl
theorem firstK_mem {k : List UInt8} {e : En} : ∀ {ls : List (List En)}, firstK k ls = some e → (∃ l ∈ ls, e ∈ l) ∧ e.key = k
 | [], h => by cases h
 | l :: r, h => by
  rw [firstK_cons] at h
  cases hg : getE k l with
  | some x =>
   rw [hg] at h
   injection h with h
   subst h
   exact ⟨⟨l, List.mem_cons_self, (getE_mem hg).1⟩, (getE_mem hg).2⟩
  | none =>
   rw [hg] at h
   obtain ⟨⟨l', h1, h2⟩, h3⟩ := firstK_mem (ls := r) h
   exact ⟨⟨l', List.mem_cons_of_mem _ h1, h2⟩, h3⟩
theorem getE_nil (k : List UInt8) : getE k [] = none := rfl
theorem getE_cons (k : List UInt8) (x : En) (l : List En) : getE k (x :: l) = if x.key = k then some x else getE k l := by
 unfold getE
 rw [List.find?_cons]
 by_cases h : x.key = k
 ·simp [h]
 ·simp [h]
theorem getE_append (k : List UInt8) (a b : List En) : getE k (a ++ b) = (getE k a).or (getE k b) := by
 unfold getE
 rw [List.find?_append]
theorem getE_none {k : List UInt8} {l : List En} (h : ∀ x ∈ l, ¬ x.key = k) : getE k l = none := by
 unfold getE
 rw [List.find?_eq_none]
 intro x hx
 simpa using h x hx
theorem rises_head {x y : En} {s : List En} (h : Rises (x :: s)) (hy : y ∈ x :: s) : lt y.key x.key = false := by
 rcases List.mem_cons.1 hy with rfl | hy
 ·exact lt_irrefl _
 ·exact lt_asymm ((List.pairwise_cons.1 h).1 y hy)
theorem leastH_none : ∀ {ls : List (List En)}, leastH ls = none → ∀ l ∈ ls, l = []
 | [], _, l, hl => by cases hl
 | [] :: r, h, l, hl => by
  rcases List.mem_cons.1 hl with rfl | hl
  ·rfl
  ·exact leastH_none (ls := r) h l hl
 | (x :: s) :: r, h, l, hl => by
  unfold leastH at h
  cases hr : leastH r with
  | none => rw [hr] at h; cases h
  | some y =>
   rw [hr] at h
   dsimp only at h
   split at h <;> cases h
theorem leastH_le : ∀ {ls : List (List En)} {e : En}, (∀ l ∈ ls, Rises l) → leastH ls = some e → (∀ l ∈ ls, ∀ x ∈ l, lt x.key e.key = false) ∧ firstK e.key ls = some e
 | [], e, _, h => by cases h
 | [] :: r, e, hr, h => by
  have ih := leastH_le (ls := r) (fun l hl => hr l (List.mem_cons_of_mem _ hl)) h
  refine ⟨fun l hl x hx => ?_, ?_⟩
  ·rcases List.mem_cons.1 hl with rfl | hl
   ·cases hx
   ·exact ih.1 l hl x hx
  ·rw [firstK_cons, getE_nil]
   exact ih.2
 | (x :: s) :: r, e, hr, h => by
  have h1 := hr _ List.mem_cons_self
  unfold leastH at h
  cases hl : leastH r with
  | none =>
   rw [hl] at h
   injection h with h
   subst h
   refine ⟨fun l hl' y hy => ?_, ?_⟩
   ·rcases List.mem_cons.1 hl' with rfl | hl'
    ·exact rises_head h1 hy
    ·rw [leastH_none hl l hl'] at hy
     cases hy
   ·rw [firstK_cons, getE_cons, if_pos rfl]
    rfl
  | some y =>
   rw [hl] at h
   dsimp only at h
   have ih := leastH_le (ls := r) (fun l hl => hr l (List.mem_cons_of_mem _ hl)) hl
   split at h
   ·rename_i hyx
    injection h with h
    subst h
    refine ⟨fun l hl' z hz => ?_, ?_⟩
    ·rcases List.mem_cons.1 hl' with rfl | hl'
     ·have := rises_head h1 hz
      exact lt_asymm (by
       cases hc : lt y.key z.key with
       | true => rfl
       | false =>
        have e1 : lt x.key z.key = false := by
         cases hc2 : lt x.key z.key with
         | false => rfl
         | true =>
          have := lt_trans' hyx hc2
          rw [hc] at this; cases this
        have e2 := lt_tri this e1
        rw [e2] at hc
        rw [hc] at hyx; cases hyx)
     ·exact ih.1 l hl' z hz
    ·rw [firstK_cons, getE_none, ih.2]
     ·rfl
     ·intro z hz e
      have := rises_head h1 hz
      rw [e, hyx] at this
      cases this
   ·rename_i hyx
    injection h with h
    subst h
    refine ⟨fun l hl' z hz => ?_, ?_⟩
    ·rcases List.mem_cons.1 hl' with rfl | hl'
     ·exact rises_head h1 hz
     ·have h2 := ih.1 l hl' z hz
      cases hc : lt z.key x.key with
      | false => rfl
      | true =>
       exfalso
       exact hyx (lt_of_ge h2 hc)
    ·rw [firstK_cons, getE_cons, if_pos rfl]
     rfl
theorem passK_rises {k : List UInt8} {l : List En} (h : Rises l) : Rises (passK k l) := by
 cases l with
 | nil => exact h
 | cons x s =>
  rw [passK_cons]
  split
  ·exact (List.pairwise_cons.1 h).2
  ·exact h
theorem passK_mem {k : List UInt8} {l : List En} {x : En} (h : x ∈ passK k l) : x ∈ l := by
 cases l with
 | nil => exact h
 | cons y s =>
  rw [passK_cons] at h
  split at h
  ·exact List.mem_cons_of_mem _ h
  ·exact h
theorem passK_gt {k : List UInt8} {l : List En} (hr : Rises l) (hk : ∀ x ∈ l, lt x.key k = false) {x : En} (h : x ∈ passK k l) : lt k x.key = true := by
 cases l with
 | nil => cases h
 | cons y s =>
  have hy : lt k y.key = true ∨ y.key = k := by
   cases hc : lt k y.key with
   | true => exact .inl rfl
   | false => exact .inr (lt_tri (hk y List.mem_cons_self) hc)
  rw [passK_cons] at h
  split at h
  ·rename_i e
   rw [← e]
   exact (List.pairwise_cons.1 hr).1 x h
  ·rename_i e
   rcases hy with hy | hy
   ·rcases List.mem_cons.1 h with rfl | h
    ·exact hy
    ·exact lt_trans' hy ((List.pairwise_cons.1 hr).1 x h)
   ·exact (e hy).elim
theorem passK_get {k k' : List UInt8} {l : List En} (hk : ¬ k' = k) : getE k' (passK k l) = getE k' l := by
 cases l with
 | nil => rfl
 | cons x s =>
  rw [passK_cons]
  split
  ·rename_i e
   rw [getE_cons, if_neg (by rw [e]; exact fun h => hk h.symm)]
  ·rfl
theorem passA_first {k k' : List UInt8} (hk : ¬ k' = k) : ∀ ls : List (List En), firstK k' (passA k ls) = firstK k' ls
 | [] => rfl
 | l :: r => by
  show firstK k' (passK k l :: passA k r) = _
  rw [firstK_cons, firstK_cons, passK_get hk, passA_first hk r]
theorem firstK_none {k : List UInt8} : ∀ {ls : List (List En)}, (∀ l ∈ ls, ∀ x ∈ l, ¬ x.key = k) → firstK k ls = none
 | [], _ => rfl
 | l :: r, h => by
  rw [firstK_cons, getE_none (h l List.mem_cons_self), firstK_none (ls := r) fun l' hl => h l' (List.mem_cons_of_mem _ hl)]
  rfl
theorem passA_mem {k : List UInt8} {ls : List (List En)} {l : List En} (h : l ∈ passA k ls) : ∃ l' ∈ ls, l = passK k l' := by
 obtain ⟨l', h1, h2⟩ := List.mem_map.1 h
 exact ⟨l', h1, h2.symm⟩
theorem merge_all (b : Bool) : ∀ (n : Nat) (ls : List (List En)), totL ls = n → (∀ l ∈ ls, Rises l) →
  Rises (mergeL b ls) ∧ (∀ x ∈ mergeL b ls, ∃ l ∈ ls, x ∈ l) ∧ ∀ k, getE k (mergeL b ls) = (firstK k ls).filter fun e => !(b && e.del) := by
 intro n
 induction n using Nat.strongRecOn with
 | _ n ih =>
  intro ls hn hr
  cases hl : leastH ls with
  | none =>
   rw [mergeL_none hl]
   refine ⟨.nil, fun x hx => (by cases hx), fun k => ?_⟩
   rw [getE_nil, firstK_none]
   ·rfl
   ·intro l h x hx
    rw [leastH_none hl l h] at hx
    cases hx
  | some e =>
   obtain ⟨h1, h2⟩ := leastH_le hr hl
   have hlt : totL (passA e.key ls) < n := by
    rw [← hn]
    obtain ⟨l, a1, t, a2⟩ := leastH_mem hl
    exact passA_lt ⟨l, a1, e, t, a2, rfl⟩
   have hgt : ∀ l ∈ passA e.key ls, ∀ x ∈ l, lt e.key x.key = true := fun l hl x hx => by
    obtain ⟨l', g1, rfl⟩ := passA_mem hl
    exact passK_gt (hr l' g1) (h1 l' g1) hx
   obtain ⟨i1, i2, i3⟩ := ih _ hlt (passA e.key ls) rfl fun l hl => by
    obtain ⟨l', g1, rfl⟩ := passA_mem hl
    exact passK_rises (hr l' g1)
   rw [mergeL_some hl]
   refine ⟨?_, fun x hx => ?_, fun k => ?_⟩
   ·split
    ·exact i1
    ·refine List.pairwise_cons.2 ⟨fun x hx => ?_, i1⟩
     obtain ⟨l, g1, g2⟩ := i2 x hx
     exact hgt l g1 x g2
   ·rcases List.mem_append.1 hx with hx | hx
    ·split at hx
     ·cases hx
     ·rw [List.mem_singleton.1 hx]
      exact (firstK_mem h2).1
    ·obtain ⟨l, g1, g2⟩ := i2 x hx
     obtain ⟨l', g3, rfl⟩ := passA_mem g1
     exact ⟨l', g3, passK_mem g2⟩
   ·rw [getE_append, i3]
    by_cases hk : k = e.key
    ·subst hk
     rw [firstK_none (ls := passA e.key ls) (fun l hl x hx he => (by
      have := hgt l hl x hx
      rw [he, lt_irrefl] at this
      cases this)), h2]
     have e3 : (some e).filter (fun e => !(b && e.del)) = if (b && e.del) = true then none else some e := by
      cases b <;> cases hd : e.del <;> simp [Option.filter, hd]
     rw [e3]
     by_cases hbe : (b && e.del) = true
     ·rw [if_pos hbe, if_pos hbe]; rfl
     ·rw [if_neg hbe, if_neg hbe, getE_cons, if_pos rfl]; rfl
    ·rw [passA_first hk]
     have : getE k (if (b && e.del) = true then [] else [e]) = none := by
      split
      ·rfl
      ·rw [getE_cons, if_neg (fun h => hk h.symm)]; rfl
     rw [this]
     rfl
theorem merge_rises {b : Bool} {ls : List (List En)} (h : ∀ l ∈ ls, Rises l) : Rises (mergeL b ls) := (merge_all b _ ls rfl h).1
theorem merge_mem {b : Bool} {ls : List (List En)} (h : ∀ l ∈ ls, Rises l) {x : En} (hx : x ∈ mergeL b ls) : ∃ l ∈ ls, x ∈ l := (merge_all b _ ls rfl h).2.1 x hx
theorem merge_le (b : Bool) : ∀ (n : Nat) (ls : List (List En)), totL ls = n → (mergeL b ls).length ≤ totL ls := by
 intro n
 induction n using Nat.strongRecOn with
 | _ n ih =>
  intro ls hn
  cases hl : leastH ls with
  | none => rw [mergeL_none hl]; exact Nat.zero_le _
  | some e =>
   have hlt : totL (passA e.key ls) < totL ls := by
    obtain ⟨l, a1, t, a2⟩ := leastH_mem hl
    exact passA_lt ⟨l, a1, e, t, a2, rfl⟩
   have := ih _ (by omega) (passA e.key ls) rfl
   rw [mergeL_some hl, List.length_append]
   split
   ·simp only [List.length_nil]; omega
   ·simp only [List.length_singleton]; omega
end Go.Ab

namespace Go.Ab
def ownP (l : List TabR) (k : Nat) : List Nat := (List.range l.length).filter fun i => onP (k : Nat) (l.getD i default)
def ownK (l : List TabR) (k : Nat) : List Nat := if k = 0 then ownP l k else (ownP l k).take 1
def lowS (a b : List UInt8) : List UInt8 := if lt b a = true then b else a
def highS (a b : List UInt8) : List UInt8 := if lt a b = true then b else a
def headT (l : List TabR) (k : Nat) : TabR := l.getD ((ownK l k).getD 0 default) default
def fromK (l : List TabR) (k : Nat) : List UInt8 := (ownK l k).foldl (fun s i => lowS s (l.getD i default).fst) (headT l k).fst
def toK (l : List TabR) (k : Nat) : List UInt8 := (ownK l k).foldl (fun s i => highS s (l.getD i default).lst) (headT l k).lst
def overP (k : Int) (f t : List UInt8) (x : TabR) : Bool := onP k x && (!lt t x.fst && !lt x.lst f)
def inP (l : List TabR) (k i : Nat) : Bool := decide (i ∈ ownK l k) || overP ((k : Int) + 1) (fromK l k) (toK l k) (l.getD i default)
def inK (l : List TabR) (k : Nat) : List Nat := (List.range l.length).filter (inP l k)
def hot (l : List TabR) (k : Nat) : Bool := decide (capT k < (ownP l k).length)
def lvlT (l : List TabR) : Nat := if hot l 0 = true then 0 else if hot l 1 = true then 1 else if hot l 2 = true then 2 else 3
theorem ownP_mem {l : List TabR} {k i : Nat} : i ∈ ownP l k ↔ i < l.length ∧ (l.getD i default).lev = (k : Nat) := by
 unfold ownP onP
 rw [List.mem_filter, List.mem_range, decide_eq_true_eq]
theorem ownK_sub {l : List TabR} {k i : Nat} (h : i ∈ ownK l k) : i ∈ ownP l k := by
 unfold ownK at h
 split at h
 ·exact h
 ·exact List.mem_of_mem_take h
theorem ownK_mem {l : List TabR} {k i : Nat} (h : i ∈ ownK l k) : i < l.length ∧ (l.getD i default).lev = (k : Nat) := ownP_mem.1 (ownK_sub h)
theorem ownK_pos {l : List TabR} {k : Nat} (h : hot l k = true) : 0 < (ownK l k).length := by
 unfold hot at h
 rw [decide_eq_true_eq] at h
 unfold ownK
 split
 ·omega
 ·rw [List.length_take]; omega
theorem lowS_le (a b : List UInt8) : lt a (lowS a b) = false ∧ lt b (lowS a b) = false ∧ (lowS a b = a ∨ lowS a b = b) := by
 unfold lowS
 split
 ·rename_i h; exact ⟨lt_asymm h, lt_irrefl _, .inr rfl⟩
 ·rename_i h; exact ⟨lt_irrefl _, Bool.eq_false_iff.2 h, .inl rfl⟩
theorem highS_le (a b : List UInt8) : lt (highS a b) a = false ∧ lt (highS a b) b = false ∧ (highS a b = a ∨ highS a b = b) := by
 unfold highS
 split
 ·rename_i h; exact ⟨lt_asymm h, lt_irrefl _, .inr rfl⟩
 ·rename_i h; exact ⟨lt_irrefl _, Bool.eq_false_iff.2 h, .inl rfl⟩
theorem le_trans' {a b c : List UInt8} (h1 : lt b a = false) (h2 : lt c b = false) : lt c a = false := by
 cases h : lt c a with
 | false => rfl
 | true => rw [lt_of_ge h2 h] at h1; cases h1
theorem lt_of_lt {a b c : List UInt8} (h : lt a b = true) (k : lt c b = false) : lt a c = true := by
 cases h2 : lt a c with
 | true => rfl
 | false => rw [lt_of_ge h2 h] at k; cases k
theorem fold_low (g : Nat → List UInt8) : ∀ (o : List Nat) (s : List UInt8), lt s (o.foldl (fun s i => lowS s (g i)) s) = false ∧ (∀ i ∈ o, lt (g i) (o.foldl (fun s i => lowS s (g i)) s) = false) ∧ (o.foldl (fun s i => lowS s (g i)) s = s ∨ ∃ i ∈ o, o.foldl (fun s i => lowS s (g i)) s = g i)
 | [], s => ⟨lt_irrefl _, fun i hi => (by cases hi), .inl rfl⟩
 | x :: o, s => by
  obtain ⟨h1, h2, h3⟩ := fold_low g o (lowS s (g x))
  obtain ⟨g1, g2, g3⟩ := lowS_le s (g x)
  rw [List.foldl_cons]
  refine ⟨le_trans' h1 g1, fun i hi => ?_, ?_⟩
  ·rcases List.mem_cons.1 hi with rfl | hi
   ·exact le_trans' h1 g2
   ·exact h2 i hi
  ·rcases h3 with h3 | ⟨i, hi, h3⟩
   ·rw [h3]
    rcases g3 with g3 | g3
    ·exact .inl g3
    ·exact .inr ⟨x, List.mem_cons_self, g3⟩
   ·exact .inr ⟨i, List.mem_cons_of_mem _ hi, h3⟩
theorem fold_high (g : Nat → List UInt8) : ∀ (o : List Nat) (s : List UInt8), lt (o.foldl (fun s i => highS s (g i)) s) s = false ∧ (∀ i ∈ o, lt (o.foldl (fun s i => highS s (g i)) s) (g i) = false) ∧ (o.foldl (fun s i => highS s (g i)) s = s ∨ ∃ i ∈ o, o.foldl (fun s i => highS s (g i)) s = g i)
 | [], s => ⟨lt_irrefl _, fun i hi => (by cases hi), .inl rfl⟩
 | x :: o, s => by
  obtain ⟨h1, h2, h3⟩ := fold_high g o (highS s (g x))
  obtain ⟨g1, g2, g3⟩ := highS_le s (g x)
  rw [List.foldl_cons]
  refine ⟨le_trans' g1 h1, fun i hi => ?_, ?_⟩
  ·rcases List.mem_cons.1 hi with rfl | hi
   ·exact le_trans' g2 h1
   ·exact h2 i hi
  ·rcases h3 with h3 | ⟨i, hi, h3⟩
   ·rw [h3]
    rcases g3 with g3 | g3
    ·exact .inl g3
    ·exact .inr ⟨x, List.mem_cons_self, g3⟩
   ·exact .inr ⟨i, List.mem_cons_of_mem _ hi, h3⟩
theorem fromK_le {l : List TabR} {k i : Nat} (h : i ∈ ownK l k) : lt (l.getD i default).fst (fromK l k) = false := (fold_low (fun i => (l.getD i default).fst) (ownK l k) _).2.1 i h
theorem toK_ge {l : List TabR} {k i : Nat} (h : i ∈ ownK l k) : lt (toK l k) (l.getD i default).lst = false := (fold_high (fun i => (l.getD i default).lst) (ownK l k) _).2.1 i h
theorem inK_mem {l : List TabR} {k i : Nat} : i ∈ inK l k ↔ i < l.length ∧ inP l k i = true := by
 unfold inK; rw [List.mem_filter, List.mem_range]
theorem overP_iff {k : Int} {f t : List UInt8} {x : TabR} : overP k f t x = true ↔ x.lev = k ∧ lt t x.fst = false ∧ lt x.lst f = false := by
 unfold overP onP
 rw [Bool.and_eq_true, Bool.and_eq_true, decide_eq_true_eq, Bool.not_eq_true', Bool.not_eq_true']
theorem in_cases {l : List TabR} {k i : Nat} (h : i ∈ inK l k) : i < l.length ∧ (i ∈ ownK l k ∨ ((l.getD i default).lev = (k : Int) + 1 ∧ lt (toK l k) (l.getD i default).fst = false ∧ lt (l.getD i default).lst (fromK l k) = false)) := by
 obtain ⟨h1, h2⟩ := inK_mem.1 h
 refine ⟨h1, ?_⟩
 unfold inP at h2
 rw [Bool.or_eq_true, decide_eq_true_eq, overP_iff] at h2
 exact h2
theorem getD_beh {l : List TabR} (hp : l.Pairwise Beh) {i j : Nat} (hi : i < j) (hj : j < l.length) : Beh (l.getD i default) (l.getD j default) := by
 have := List.pairwise_iff_getElem.1 hp i j (by omega) hj hi
 rw [List.getD_eq_getElem?_getD, List.getD_eq_getElem?_getD, List.getElem?_eq_getElem hj, List.getElem?_eq_getElem (show i < l.length by omega)]
 exact this
theorem beh_same {x y : TabR} (h : Beh x y) (e : x.lev = y.lev) (h0 : 0 < x.lev) : lt x.lst y.fst = true := by
 rcases h with h | ⟨_, h | h⟩
 ·omega
 ·omega
 ·exact h
theorem stay_apart {l : List TabR} {k i : Nat} (hm : ∀ x ∈ l, mayT x = true) (hp : l.Pairwise Beh) (hi : i < l.length) (hn : i ∉ inK l k) (hl : (l.getD i default).lev = (k : Int) + 1) :
  (∀ j ∈ inK l k, lt (l.getD i default).lst (l.getD j default).fst = true) ∨ ∀ j ∈ inK l k, lt (l.getD j default).lst (l.getD i default).fst = true := by
 have ho : overP ((k : Int) + 1) (fromK l k) (toK l k) (l.getD i default) = false := by
  cases h : overP ((k : Int) + 1) (fromK l k) (toK l k) (l.getD i default) with
  | false => rfl
  | true => exact (hn (inK_mem.2 ⟨hi, by unfold inP; rw [h, Bool.or_true]⟩)).elim
 have hmi := mayT_ends (hm _ (getD_memT hi))
 have hc : lt (toK l k) (l.getD i default).fst = true ∨ lt (l.getD i default).lst (fromK l k) = true := by
  cases h1 : lt (toK l k) (l.getD i default).fst with
  | true => exact .inl rfl
  | false =>
   cases h2 : lt (l.getD i default).lst (fromK l k) with
   | true => exact .inr rfl
   | false => rw [overP_iff.2 ⟨hl, h1, h2⟩] at ho; cases ho
 rcases hc with hc | hc
 ·right
  intro j hj
  obtain ⟨hjl, hj2⟩ := in_cases hj
  rcases hj2 with hj2 | ⟨g1, g2, g3⟩
  ·exact lt_of_ge (toK_ge hj2) hc
  ·have hne : j ≠ i := fun e => hn (e ▸ hj)
   rcases Nat.lt_or_gt_of_ne hne with h | h
   ·exact beh_same (getD_beh hp h hi) (by omega) (by omega)
   ·have := beh_same (getD_beh hp h hjl) (by omega) (by omega)
    have h3 := lt_trans' hc (lt_of_ge hmi this)
    rw [h3] at g2
    cases g2
 ·left
  intro j hj
  obtain ⟨hjl, hj2⟩ := in_cases hj
  rcases hj2 with hj2 | ⟨g1, g2, g3⟩
  ·have h1 := fromK_le hj2
   cases h2 : lt (l.getD i default).lst (l.getD j default).fst with
   | true => rfl
   | false =>
    have := le_trans' h1 h2
    rw [hc] at this
    cases this
  ·have hne : j ≠ i := fun e => hn (e ▸ hj)
   have hmj := mayT_ends (hm _ (getD_memT hjl))
   rcases Nat.lt_or_gt_of_ne hne with h | h
   ·have := beh_same (getD_beh hp h hi) (by omega) (by omega)
    have h3 : lt (l.getD j default).lst (fromK l k) = true := lt_trans' (lt_of_lt this hmi) hc
    rw [h3] at g3
    cases g3
   ·exact beh_same (getD_beh hp h hjl) (by omega) (by omega)
end Go.Ab

namespace Go.Ab
structure OkRow (b : Int) (x : TabR) (row : List En) : Prop where
 fit : Ab.fit row = true
 lo : 0 ≤ x.lev
 hi : x.lev < 4
 eq : newT b x.lev.toNat row = x
theorem fit_rises {l : List En} (h : fit l = true) : Rises l := (sorted_iff l).1 (fit_right h).2.2.1
theorem fit_mem {l : List En} (h : fit l = true) {e : En} (he : e ∈ l) : right e = true := by
 obtain ⟨i, hi, rfl⟩ := List.getElem_of_mem he
 have := (fit_right h).2.2.2 i hi
 rwa [List.getD_eq_getElem?_getD, List.getElem?_eq_getElem hi] at this
theorem fit_of {l : List En} (h1 : 0 < l.length) (h2 : l.length ≤ 64) (h3 : Rises l) (h4 : ∀ e ∈ l, right e = true) : fit l = true := by
 unfold fit
 rw [decide_eq_true h1, decide_eq_true h2, (sorted_iff l).2 h3]
 simpa using h4
theorem row_ends {l : List En} (h : Rises l) {e : En} (he : e ∈ l) : lt e.key (l.getD 0 default).key = false ∧ lt (l.getD (l.length - 1) default).key e.key = false := by
 obtain ⟨i, hi, rfl⟩ := List.getElem_of_mem he
 have hp := List.pairwise_iff_getElem.1 h
 constructor
 ·rw [List.getD_eq_getElem?_getD, List.getElem?_eq_getElem (show 0 < l.length by omega)]
  by_cases h0 : i = 0
  ·subst h0; exact lt_irrefl _
  ·exact lt_asymm (hp 0 i (by omega) hi (by omega))
 ·rw [List.getD_eq_getElem?_getD, List.getElem?_eq_getElem (show l.length - 1 < l.length by omega)]
  by_cases h0 : i = l.length - 1
  ·subst h0; exact lt_irrefl _
  ·exact lt_asymm (hp i (l.length - 1) hi (by omega) (by omega))
theorem OkRow.fst {b : Int} {x : TabR} {row : List En} (h : OkRow b x row) : x.fst = (row.getD 0 default).key := by rw [← h.eq]; rfl
theorem OkRow.lst {b : Int} {x : TabR} {row : List En} (h : OkRow b x row) : x.lst = (row.getD (row.length - 1) default).key := by rw [← h.eq]; rfl
theorem OkRow.cnt {b : Int} {x : TabR} {row : List En} (h : OkRow b x row) : x.cnt = (row.length : Nat) := by rw [← h.eq]; rfl
theorem OkRow.ends {b : Int} {x : TabR} {row : List En} (h : OkRow b x row) {e : En} (he : e ∈ row) : lt e.key x.fst = false ∧ lt x.lst e.key = false := by
 rw [h.fst, h.lst]
 exact row_ends (fit_rises h.fit) he
theorem newT_ok {b : Int} {k : Nat} {p : List En} (hp : fit p = true) (hk : k < 4) : OkRow b (newT b k p) p := ⟨hp, by show (0 : Int) ≤ (k : Nat); omega, by show ((k : Nat) : Int) < 4; omega, by
 show newT b (((k : Nat) : Int)).toNat p = _
 rw [Int.toNat_natCast]⟩
theorem keyT_right {e : En} (h : right e = true) : keyT e.key = true := by
 have := right_bounds h
 unfold keyT
 rw [decide_eq_true this.1, decide_eq_true this.2.1]; rfl
theorem mayT_new {b : Int} {k : Nat} {p : List En} (hp : fit p = true) (hk : k < 4) : mayT (newT b k p) = true := by
 obtain ⟨h1, h2, h3, h4⟩ := fit_right hp
 have hr := List.pairwise_iff_getElem.1 (fit_rises hp)
 unfold mayT
 rw [Bool.and_eq_true, Bool.and_eq_true, decide_eq_true_eq, Bool.and_eq_true]
 refine ⟨⟨⟨?_, ?_, ?_, ?_⟩, keyT_right (h4 0 h2), keyT_right (h4 _ (by omega))⟩, ?_⟩
 ·show (0 : Int) ≤ (k : Nat); omega
 ·show ((k : Nat) : Int) < 4; omega
 ·show (1 : Int) ≤ (p.length : Nat); omega
 ·show ((p.length : Nat) : Int) ≤ 64; omega
 ·show (if ((p.length : Nat) : Int) = 1 then decide ((p.getD 0 default).key = (p.getD (p.length - 1) default).key) else lt (p.getD 0 default).key (p.getD (p.length - 1) default).key) = true
  split
  ·rename_i e
   have e2 : p.length = 1 := by omega
   rw [e2]; simp
  ·rename_i e
   rw [List.getD_eq_getElem?_getD, List.getD_eq_getElem?_getD, List.getElem?_eq_getElem h2, List.getElem?_eq_getElem (show p.length - 1 < p.length by omega)]
   exact hr 0 (p.length - 1) h2 (by omega) (by omega)
def partsT (k : Nat) (RS : List (List En)) : List (List En) := splitL (mergeL (decide (k + 1 = 3)) RS)
theorem parts_rises {k : Nat} {RS : List (List En)} (h : ∀ r ∈ RS, fit r = true) : (∀ p ∈ partsT k RS, Rises p) ∧ (partsT k RS).Pairwise fun p q => ∀ x ∈ p, ∀ y ∈ q, lt x.key y.key = true := by
 have h1 := merge_rises (b := decide (k + 1 = 3)) (ls := RS) fun l hl => fit_rises (h l hl)
 rw [← (splitL_join (mergeL (decide (k + 1 = 3)) RS)).1] at h1
 exact List.pairwise_flatten.1 h1
theorem parts_mem {k : Nat} {RS : List (List En)} (h : ∀ r ∈ RS, fit r = true) {p : List En} (hp : p ∈ partsT k RS) {e : En} (he : e ∈ p) : ∃ r ∈ RS, e ∈ r := by
 have h1 : e ∈ (partsT k RS).flatten := List.mem_flatten.2 ⟨p, hp, he⟩
 unfold partsT at h1
 rw [(splitL_join _).1] at h1
 exact merge_mem (fun l hl => fit_rises (h l hl)) h1
theorem parts_fit {k : Nat} {RS : List (List En)} (h : ∀ r ∈ RS, fit r = true) {p : List En} (hp : p ∈ partsT k RS) : fit p = true := by
 have hl := (splitL_join (mergeL (decide (k + 1 = 3)) RS)).2 p hp
 refine fit_of (by omega) hl.2 ((parts_rises h).1 p hp) fun e he => ?_
 obtain ⟨r, h1, h2⟩ := parts_mem h hp he
 exact fit_mem (h r h1) h2
theorem fit_ends_mem {p : List En} (h : fit p = true) : p.getD 0 default ∈ p ∧ p.getD (p.length - 1) default ∈ p :=
 ⟨getD_memT (fit_right h).2.1, getD_memT (by have := (fit_right h).2.1; omega)⟩
theorem tabs_beh {b : Int} {k : Nat} {RS : List (List En)} (h : ∀ r ∈ RS, fit r = true) : ((partsT k RS).map (newT b (k + 1))).Pairwise Beh := by
 rw [List.pairwise_map]
 refine (List.pairwise_iff_forall_sublist.2 fun {p q} hpq => ?_)
 have hs := List.pairwise_iff_forall_sublist.1 (parts_rises (k := k) h).2 hpq
 have hp := parts_fit h (hpq.subset (List.mem_cons_self ..))
 have hq := parts_fit h (hpq.subset (List.mem_cons_of_mem _ (List.mem_cons_self ..)))
 exact .inr ⟨rfl, .inr (hs _ (fit_ends_mem hp).2 _ (fit_ends_mem hq).1)⟩
theorem totL_le : ∀ {RS : List (List En)}, (∀ r ∈ RS, r.length ≤ 64) → totL RS ≤ 64 * RS.length
 | [], _ => Nat.le_refl _
 | r :: RS, h => by
  have h1 := h r List.mem_cons_self
  have h2 := totL_le (RS := RS) fun r hr => h r (List.mem_cons_of_mem _ hr)
  show r.length + totL RS ≤ 64 * (RS.length + 1)
  omega
theorem parts_len17 {k : Nat} {RS : List (List En)} (h : ∀ r ∈ RS, fit r = true) : (partsT k RS).length ≤ RS.length := by
 unfold partsT
 rw [splitL_len]
 have h1 := merge_le (decide (k + 1 = 3)) _ RS rfl
 have h2 := totL_le (RS := RS) fun r hr => (fit_right (h r hr)).1
 unfold manyP
 omega
theorem mem_map_nat {i : Nat} {s : List Nat} : ((i : Nat) : Int) ∈ s.map Int.ofNat ↔ i ∈ s := by
 rw [List.mem_map]
 constructor
 ·rintro ⟨j, h1, h2⟩
  have : j = i := by
   have : ((j : Nat) : Int) = (i : Nat) := h2
   omega
  exact this ▸ h1
 ·intro h; exact ⟨i, h, rfl⟩
theorem mem_stay {l : List TabR} {k : Nat} {y : TabR} (h : y ∈ stayT l ((inK l k).map Int.ofNat) l.length) : ∃ i, i < l.length ∧ i ∉ inK l k ∧ y = l.getD i default := by
 unfold stayT at h
 obtain ⟨i, h1, h2⟩ := List.mem_map.1 h
 obtain ⟨h3, h4⟩ := List.mem_filter.1 h1
 refine ⟨i, List.mem_range.1 h3, fun h5 => ?_, h2.symm⟩
 rw [decide_eq_true (mem_map_nat.2 h5)] at h4
 cases h4
theorem stay_sub (l : List TabR) (ins : List Int) : ∀ k, k ≤ l.length → (stayT l ins k).Sublist (l.take k)
 | 0, _ => by unfold stayT; exact List.nil_sublist _
 | k + 1, h => by
  rw [stayT_succ, take_succ_d (by omega)]
  refine (stay_sub l ins k (by omega)).append ?_
  split
  ·exact List.nil_sublist _
  ·exact List.Sublist.refl _
theorem stay_len (l : List TabR) (k : Nat) : ∀ n, n ≤ l.length → (stayT l ((inK l k).map Int.ofNat) n).length + ((List.range n).filter (inP l k)).length = n
 | 0, _ => rfl
 | n + 1, h => by
  have ih := stay_len l k n (by omega)
  rw [stayT_succ, List.range_succ, List.filter_append, List.length_append, List.length_append]
  have hm : ((n : Nat) : Int) ∈ (inK l k).map Int.ofNat ↔ inP l k n = true := by
   rw [mem_map_nat, inK_mem]
   exact ⟨fun h => h.2, fun h2 => ⟨by omega, h2⟩⟩
  by_cases hn : inP l k n = true
  ·rw [if_pos (hm.2 hn), List.filter_cons_of_pos hn]
   simp only [List.length_nil, List.length_cons, List.filter_nil]
   omega
  ·rw [if_neg (fun h => hn (hm.1 h)), List.filter_cons_of_neg hn]
   simp only [List.length_nil, List.length_cons, List.filter_nil]
   omega
def nextT (b : Int) (l : List TabR) (k : Nat) (RS : List (List En)) : List TabR := placeT l ((inK l k).map Int.ofNat) ((partsT k RS).map (newT b (k + 1)))
def RowsOf (b : Int) (l : List TabR) (ins : List Nat) (RS : List (List En)) : Prop := RS.length = ins.length ∧ ∀ j, j < ins.length → OkRow b (l.getD (ins.getD j default) default) (RS.getD j default)
theorem RowsOf.mem {b : Int} {l : List TabR} {ins : List Nat} {RS : List (List En)} (h : RowsOf b l ins RS) {r : List En} (hr : r ∈ RS) : ∃ i ∈ ins, OkRow b (l.getD i default) r := by
 obtain ⟨j, hj, rfl⟩ := List.getElem_of_mem hr
 have := h.2 j (by rw [← h.1]; exact hj)
 rw [List.getD_eq_getElem?_getD (l := RS), List.getElem?_eq_getElem hj] at this
 exact ⟨_, getD_memT (by rw [← h.1]; exact hj), this⟩
theorem RowsOf.fit {b : Int} {l : List TabR} {ins : List Nat} {RS : List (List En)} (h : RowsOf b l ins RS) {r : List En} (hr : r ∈ RS) : Ab.fit r = true := by
 obtain ⟨i, _, h2⟩ := h.mem hr
 exact h2.fit
theorem tabs_apart {b : Int} {l : List TabR} {k : Nat} {RS : List (List En)} (hm : ∀ x ∈ l, mayT x = true) (hp : l.Pairwise Beh) (hR : RowsOf b l (inK l k) RS) {x y : TabR} (hx : x ∈ (partsT k RS).map (newT b (k + 1))) (hy : y ∈ stayT l ((inK l k).map Int.ofNat) l.length) : Beh y x ∨ Beh x y := by
 obtain ⟨p, hpm, rfl⟩ := List.mem_map.1 hx
 obtain ⟨i, hi, hn, rfl⟩ := mem_stay hy
 have hf : ∀ r ∈ RS, fit r = true := fun r hr => hR.fit hr
 have hpf := parts_fit hf hpm
 obtain ⟨m1, m2⟩ := fit_ends_mem hpf
 by_cases h1 : (l.getD i default).lev < (k : Int) + 1
 ·exact .inl (.inl (by show (l.getD i default).lev < ((k + 1 : Nat) : Int); omega))
 ·by_cases h2 : (k : Int) + 1 < (l.getD i default).lev
  ·exact .inr (.inl (by show ((k + 1 : Nat) : Int) < (l.getD i default).lev; omega))
  ·have hl : (l.getD i default).lev = (k : Int) + 1 := by omega
   rcases stay_apart hm hp hi hn hl with h | h
   ·left
    refine .inr ⟨by show (l.getD i default).lev = ((k + 1 : Nat) : Int); omega, .inr ?_⟩
    obtain ⟨r, hr, he⟩ := parts_mem hf hpm m1
    obtain ⟨j, hj, ho⟩ := hR.mem hr
    exact lt_of_lt (h j hj) (ho.ends he).1
   ·right
    refine .inr ⟨by show ((k + 1 : Nat) : Int) = (l.getD i default).lev; omega, .inr ?_⟩
    obtain ⟨r, hr, he⟩ := parts_mem hf hpm m2
    obtain ⟨j, hj, ho⟩ := hR.mem hr
    exact lt_of_ge (ho.ends he).2 (h j hj)
theorem next_all {b : Int} {l : List TabR} {k : Nat} {RS : List (List En)} (hr : rightT l = true) (hk : k < 3) (hR : RowsOf b l (inK l k) RS) :
  rightT (nextT b l k RS) = true ∧ (nextT b l k RS).length ≤ l.length ∧ Inter (stayT l ((inK l k).map Int.ofNat) l.length) ((partsT k RS).map (newT b (k + 1))) (nextT b l k RS) := by
 obtain ⟨hm, hp, h5⟩ := (rightT_iff l).1 hr
 have hf : ∀ r ∈ RS, fit r = true := fun r hr => hR.fit hr
 have hsub := stay_sub l ((inK l k).map Int.ofNat) l.length (Nat.le_refl _)
 rw [List.take_length] at hsub
 obtain ⟨g1, g2, g3⟩ := place_right (parts := (partsT k RS).map (newT b (k + 1))) (out := stayT l ((inK l k).map Int.ofNat) l.length) (s := stayT l ((inK l k).map Int.ofNat) l.length) (t := [])
  (fun y hy => hm y (hsub.subset hy)) (hp.sublist hsub) (fun x hx => by
   obtain ⟨p, hpm, rfl⟩ := List.mem_map.1 hx
   exact ⟨mayT_new (parts_fit hf hpm) (by omega), by show (0 : Int) < ((k + 1 : Nat) : Int); omega⟩) (tabs_beh hf) (fun x hx y hy => tabs_apart hm hp hR hx hy) (fun x _ y hy => by cases hy) (fun y hy => by cases hy) (Inter.left_all _)
 rw [List.nil_append] at g3
 have hlen : (nextT b l k RS).length ≤ l.length := by
  have e1 := g3.perm.length_eq
  have e2 := stay_len l k l.length (Nat.le_refl _)
  have e3 := parts_len17 (k := k) hf
  have e4 := hR.1
  rw [List.length_append, List.length_map] at e1
  have e5 : ((List.range l.length).filter (inP l k)).length = (inK l k).length := rfl
  show (((partsT k RS).map (newT b (k + 1))).foldl insT _).length ≤ _
  omega
 exact ⟨(rightT_iff _).2 ⟨g1, g2, by omega⟩, hlen, g3⟩
end Go.Ab

namespace Go.Ab
def isPart (to : Int) (x : TabR) (T : List TabR) (P : List (List En)) : Bool :=
 decide (0 < P.length) && (decide (x.lev = to) && (decide (0 < (P.getD 0 default).length) && (decide (x.fst = ((P.getD 0 default).getD 0 default).key) && (decide (T.length = 0) || !decide (x = T.getD 0 default)))))
def placedF (to : Int) : List TabR → List TabR → List (List En) → List (List En) → List (List En)
 | [], _, _, _ => []
 | x :: nx, T, S, P =>
  if isPart to x T P = true then P.getD 0 default :: placedF to nx T S (P.drop 1)
  else if 0 < S.length then S.getD 0 default :: placedF to nx (T.drop 1) (S.drop 1) P
  else placedF to nx T S P
def stayR (rows : List (List En)) (ins : List Int) (k : Nat) : List (List En) := ((List.range k).filter fun i => !decide (((i : Nat) : Int) ∈ ins)).map fun i : Nat => rows.getD i default
theorem stayR_succ (l : List (List En)) (ins : List Int) (k : Nat) : stayR l ins (k + 1) = stayR l ins k ++ if (k : Int) ∈ ins then [] else [l.getD k default] := by
 unfold stayR
 rw [List.range_succ, List.filter_append, List.map_append]
 congr 1
 by_cases h : (k : Int) ∈ ins
 ·rw [if_pos h]; simp only [List.filter_cons, h, decide_true, Bool.not_true, Bool.false_eq_true, if_false, List.filter_nil]; rfl
 ·rw [if_neg h]; simp only [List.filter_cons, h, decide_false, Bool.not_false, if_true, List.filter_nil]; rfl
theorem stayR_len (l : List TabR) (rows : List (List En)) (ins : List Int) (k : Nat) : (stayR rows ins k).length = (stayT l ins k).length := by
 unfold stayR stayT
 rw [List.length_map, List.length_map]
inductive Tells (b : Int) : List TabR → List (List En) → Prop
 | nil : Tells b [] []
 | cons {x : TabR} {r : List En} {l : List TabR} {rows : List (List En)} : OkRow b x r → Tells b l rows → Tells b (x :: l) (r :: rows)
theorem Tells.len {b : Int} : ∀ {l : List TabR} {rows : List (List En)}, Tells b l rows → rows.length = l.length
 | _, _, .nil => rfl
 | _, _, .cons _ h => by rw [List.length_cons, List.length_cons, Tells.len h]
theorem Tells.at_ {b : Int} : ∀ {l : List TabR} {rows : List (List En)}, Tells b l rows → ∀ i, i < l.length → OkRow b (l.getD i default) (rows.getD i default)
 | _, _, .nil, i, h => by cases h
 | _, _, .cons h _, 0, _ => h
 | _, _, .cons _ h, i + 1, hi => by
  rw [getD_cons_s, getD_cons_s]
  exact Tells.at_ h i (Nat.lt_of_succ_lt_succ hi)
theorem Tells.append {b : Int} {l' : List TabR} {rows' : List (List En)} (h' : Tells b l' rows') : ∀ {l : List TabR} {rows : List (List En)}, Tells b l rows → Tells b (l ++ l') (rows ++ rows')
 | _, _, .nil => h'
 | _, _, .cons h h2 => .cons h (Tells.append h' h2)
theorem placed_inter {b : Int} {k : Nat} (hk : k < 4) : ∀ {T nx : List TabR} {S P : List (List En)}, Inter T (P.map (newT b k)) nx → Tells b T S → (∀ p ∈ P, fit p = true) → (∀ t ∈ T, ∀ p ∈ P, t ≠ newT b k p) →
  Inter S P (placedF (k : Nat) nx T S P) ∧ Tells b nx (placedF (k : Nat) nx T S P) := by
 intro T nx S P hi
 generalize hQ : P.map (newT b k) = Q at hi
 induction hi generalizing S P with
 | nil =>
  intro hT hP hd
  cases hT
  have : P = [] := List.map_eq_nil_iff.1 hQ
  subst this
  exact ⟨.nil, .nil⟩
 | @left s t o x h ih =>
  intro hT hP hd
  cases hT with
  | @cons _ r _ rows hx hT =>
   obtain ⟨i1, i2⟩ := ih hQ hT hP fun t ht p hp => hd t (List.mem_cons_of_mem _ ht) p hp
   have hc : isPart (k : Nat) x (x :: s) P = false := by
    unfold isPart
    simp
   have e : placedF (k : Nat) (x :: o) (x :: s) (r :: rows) P = r :: placedF (k : Nat) o s rows P := by
    show (if isPart (k : Nat) x (x :: s) P = true then _ else if 0 < (r :: rows).length then _ else _) = _
    rw [if_neg (by rw [hc]; decide), if_pos (show 0 < (r :: rows).length from Nat.succ_pos _)]
    rfl
   rw [e]
   exact ⟨.left r i1, .cons hx i2⟩
 | @right s t o x h ih =>
  intro hT hP hd
  cases P with
  | nil => cases hQ
  | cons p P =>
   rw [List.map_cons] at hQ
   injection hQ with e1 e2
   obtain ⟨i1, i2⟩ := ih e2 hT (fun q hq => hP q (List.mem_cons_of_mem _ hq)) fun t ht q hq => hd t ht q (List.mem_cons_of_mem _ hq)
   have hpf := hP p List.mem_cons_self
   have hp0 := (fit_right hpf).2.1
   have hc : isPart (k : Nat) x s (p :: P) = true := by
    unfold isPart
    rw [← e1]
    have a1 : (p :: P).getD 0 default = p := rfl
    rw [a1, decide_eq_true (show 0 < (p :: P).length from Nat.succ_pos _), decide_eq_true (show (newT b k p).lev = ((k : Nat) : Int) from rfl), decide_eq_true hp0, decide_eq_true (show (newT b k p).fst = (p.getD 0 default).key from rfl)]
    cases s with
    | nil => rfl
    | cons y s =>
     rw [decide_eq_false (show ¬ newT b k p = (y :: s).getD 0 default from fun e => hd y List.mem_cons_self p List.mem_cons_self e.symm)]
     simp
   have e : placedF (k : Nat) (x :: o) s S (p :: P) = p :: placedF (k : Nat) o s S P := by
    show (if isPart (k : Nat) x s (p :: P) = true then _ else _) = _
    rw [if_pos hc]
    rfl
   rw [e, ← e1]
   exact ⟨.right p i1, .cons (newT_ok hpf hk) i2⟩
structure StoreOk (b : Int) (l : List TabR) (rows : List (List En)) : Prop where
 right : rightT l = true
 tells : Tells b l rows
def rowsIn (l : List TabR) (k : Nat) (rows : List (List En)) : List (List En) := (inK l k).map fun i => rows.getD i default
theorem rowsIn_ok {b : Int} {l : List TabR} {k : Nat} {rows : List (List En)} (h : StoreOk b l rows) : RowsOf b l (inK l k) (rowsIn l k rows) := by
 refine ⟨by unfold rowsIn; rw [List.length_map], fun j hj => ?_⟩
 have hm := (inK_mem.1 (getD_memT hj)).1
 have := h.tells.at_ _ hm
 unfold rowsIn
 rw [List.getD_eq_getElem?_getD (l := (inK l k).map _), List.getElem?_map, List.getElem?_eq_getElem hj]
 rw [List.getD_eq_getElem?_getD (l := inK l k), List.getElem?_eq_getElem hj] at this ⊢
 exact this
theorem stay_tells {b : Int} {l : List TabR} {rows : List (List En)} (h : Tells b l rows) (ins : List Int) : ∀ k, k ≤ l.length → Tells b (stayT l ins k) (stayR rows ins k)
 | 0, _ => .nil
 | k + 1, hk => by
  rw [stayT_succ, stayR_succ]
  refine Tells.append ?_ (stay_tells h ins k (by omega))
  split
  ·exact .nil
  ·exact .cons (h.at_ k (by omega)) .nil
def mergedT (b : Int) (l : List TabR) (rows : List (List En)) : List TabR × List (List En) :=
 (nextT b l (lvlT l) (rowsIn l (lvlT l) rows),
  placedF ((lvlT l + 1 : Nat) : Int) (nextT b l (lvlT l) (rowsIn l (lvlT l) rows)) (stayT l ((inK l (lvlT l)).map Int.ofNat) l.length) (stayR rows ((inK l (lvlT l)).map Int.ofNat) l.length) (partsT (lvlT l) (rowsIn l (lvlT l) rows)))
theorem merged_all {b : Int} {l : List TabR} {rows : List (List En)} (h : StoreOk b l rows) (hk : lvlT l < 3) :
  StoreOk b (mergedT b l rows).1 (mergedT b l rows).2 ∧ (mergedT b l rows).1.length ≤ l.length ∧
  Inter (stayR rows ((inK l (lvlT l)).map Int.ofNat) l.length) (partsT (lvlT l) (rowsIn l (lvlT l) rows)) (mergedT b l rows).2 := by
 have hR := rowsIn_ok (k := lvlT l) h
 obtain ⟨h1, h2, h3⟩ := next_all h.right hk hR
 obtain ⟨hm, hp, _⟩ := (rightT_iff l).1 h.right
 have hf : ∀ r ∈ rowsIn l (lvlT l) rows, fit r = true := fun r hr => hR.fit hr
 have hs := stay_tells h.tells ((inK l (lvlT l)).map Int.ofNat) l.length (Nat.le_refl _)
 have hd : ∀ t ∈ stayT l ((inK l (lvlT l)).map Int.ofNat) l.length, ∀ p ∈ partsT (lvlT l) (rowsIn l (lvlT l) rows), t ≠ newT b (lvlT l + 1) p := fun t ht p hp' e => by
  have hx : newT b (lvlT l + 1) p ∈ (partsT (lvlT l) (rowsIn l (lvlT l) rows)).map (newT b (lvlT l + 1)) := List.mem_map.2 ⟨p, hp', rfl⟩
  have hmay := mayT_new (b := b) (k := lvlT l + 1) (parts_fit hf hp') (by omega)
  have h0 : 0 < (newT b (lvlT l + 1) p).lev := by show (0 : Int) < ((lvlT l + 1 : Nat) : Int); omega
  rcases tabs_apart hm hp hR hx ht with g | g
  ·rw [e] at g; exact Beh.asymm hmay hmay h0 g g
  ·rw [e] at g; exact Beh.asymm hmay hmay h0 g g
 obtain ⟨g1, g2⟩ := placed_inter (b := b) (k := lvlT l + 1) (by omega) h3 hs (fun p hp => parts_fit hf hp) hd
 exact ⟨⟨h1, g2⟩, h2, g1⟩
theorem flush_all {b : Int} {l : List TabR} {rows : List (List En)} (h : StoreOk b l rows) {p : List En} (hp : fit p = true) (hl : l.length < 512) : StoreOk b (newT b 0 p :: l) (p :: rows) := by
 obtain ⟨hm, hpw, _⟩ := (rightT_iff l).1 h.right
 refine ⟨(rightT_iff _).2 ⟨fun x hx => ?_, List.pairwise_cons.2 ⟨fun y hy => ?_, hpw⟩, by rw [List.length_cons]; omega⟩, .cons (newT_ok hp (by decide)) h.tells⟩
 ·rcases List.mem_cons.1 hx with rfl | hx
  ·exact mayT_new hp (by decide)
  ·exact hm x hx
 ·have hlo := (mayT_lev (hm y hy)).1
  by_cases h0 : y.lev = 0
  ·exact .inr ⟨h0.symm, .inl rfl⟩
  ·exact .inl (by show (0 : Int) < y.lev; omega)
end Go.Ab

namespace Go.Ab
open Go.Proofs
theorem Sub.cut {n sz : Nat} {E : TypeId} {v : Value} {l : List AV} {σ : Store} (h0 : 0 < l.length) (hn : n ≤ l.length) (pre post : List AV) : Sub (.row v E sz l 0 :: σ) (pre ++ .sub v sz 0 n :: post) (.row (reV v n) E sz (l.take n) 0 :: σ) (pre ++ .own (reV v n) n :: post) := by
 intro R w vs hv hs
 obtain ⟨ws, hr, hone, hown, hz0, hsz, hcc⟩ := row_cells hs (v := v) (E := E) (sz := sz) (l := l) (fl := 0) List.mem_cons_self
 have hrow := hs.ents (.row v E sz l 0) List.mem_cons_self
 rcases hown.2 with ⟨rfl, h00⟩ | ⟨g, cap, cur, rfl, hb0, ⟨fz, hfz, hh⟩, hle, hcm, hcs, htk⟩
 ·omega
 refine ⟨R, ⟨?_, fun j u x hu hx => ?_⟩, ⟨hs.ro, fun e he => ?_, ?_⟩, ?_⟩
 ·rw [hv.1]; simp
 ·rcases Nat.lt_trichotomy j pre.length with h | h | h
  ·exact hv.2 j u x (by rw [List.getElem?_append_left h] at hu ⊢; exact hu) hx
  ·subst h
   simp at hu
   subst hu
   have hy := (hv.2 pre.length (.sub (.slice (some ⟨g, 0, none⟩) l.length cap) sz 0 n) x (by simp) hx).sub_inv
   rcases hy with ⟨h1, _⟩ | ⟨g', n0, cap', p, h1, h2, hp, rfl⟩
   ·cases h1
   ·simp only [Value.slice.injEq, Option.some.injEq, Addr.mk.injEq, and_true, true_and] at h1
    obtain ⟨rfl, rfl, rfl⟩ := h1
    have e : p = ⟨g, 0, none⟩ := by rw [hp (by omega)]; simp
    subst e
    exact .own (.inr ⟨g, cap, rfl, by omega⟩)
  ·refine hv.2 j u x ?_ hx
   rw [List.getElem?_append_right (by omega)] at hu ⊢
   cases hn : j - pre.length with
   | zero => omega
   | succ n => rw [hn] at hu; simpa using hu
 ·rcases List.mem_cons.1 he with rfl | he
  ·obtain ⟨a1, a2, ⟨vs2, a3, a4, a5⟩, a6, a7⟩ := hrow
   have hlt : (l.take n).length = n := by rw [List.length_take]; omega
   refine ⟨a1, fun e he => a2 e (List.mem_of_mem_take he), ⟨ws.take (n * sz), ⟨?_, .inr ⟨g, cap, cur, by rw [hlt]; rfl, Nat.zero_le _, ⟨fz, hfz, hh⟩, by omega, hcm, hcs, ?_⟩⟩, ?_, fun x hx => hone x (List.mem_of_mem_take hx)⟩, by omega, fun a x ha hb => ?_⟩
   ·rw [hlt, List.length_take, hown.1]
    have := Nat.mul_le_mul_right sz hn
    omega
   ·rw [hlt, ← htk, List.take_take, Nat.min_eq_left (Nat.mul_le_mul_right _ hn)]
   ·rw [flat_take hsz]
    exact hr.take _
   ·have := (a7 a x ha hb).1
    omega
  ·exact hs.ents e (List.mem_cons_of_mem _ he)
 ·have := hs.apart
  rw [List.pairwise_cons] at this ⊢
  exact ⟨fun e he k hk => this.1 e he k hk, this.2⟩
 ·exact ⟨fun _ _ h => h, rfl, rfl, rfl, Nat.le_refl _, fun _ _ _ => rfl, fun k hk => .inl hk, fun a v h => .inl h⟩
theorem lowS_if (a b : List UInt8) : lowS a b = if (lt a b || decide (a = b)) = true then a else b := by
 unfold lowS
 by_cases h : lt b a = true
 ·rw [if_pos h, lt_asymm h, decide_eq_false (lt_ne h).symm]; rfl
 ·rw [if_neg h]
  by_cases h2 : lt a b = true
  ·rw [h2]; rfl
  ·rw [lt_tri (Bool.eq_false_iff.2 h2) (Bool.eq_false_iff.2 h), decide_eq_true rfl]; simp
theorem highS_if (a b : List UInt8) : highS a b = if (!lt a b) = true then a else b := by
 unfold highS
 cases lt a b <;> rfl
section mm
variable {P : Program} {t t' : TypeId} {K : AV → Prop}
theorem r_minS {a b : List UInt8} {u : AV} : aBuiltin P .min #[t, t'] [.val (.string ⟨a.toArray⟩), .val (.string ⟨b.toArray⟩)] u ↔ u = .val (.string ⟨(lowS a b).toArray⟩) :=
 aBuiltin_vals (vs := [_, _]) trivial fun ty cs w => by
  rw [lowS_if]
  by_cases h : (lt a b || decide (a = b)) = true
  ·rw [if_pos h]
   simp only [Bool.or_eq_true, decide_eq_true_eq] at h
   simp [builtin, Builtin.min_, Builtin.min2, Op.stringOp, asBool, h]
  ·rw [if_neg h]
   simp only [Bool.or_eq_true, decide_eq_true_eq, not_or] at h
   simp [builtin, Builtin.min_, Builtin.min2, Op.stringOp, asBool, h]
theorem r_maxS {a b : List UInt8} {u : AV} : aBuiltin P .max #[t, t'] [.val (.string ⟨a.toArray⟩), .val (.string ⟨b.toArray⟩)] u ↔ u = .val (.string ⟨(highS a b).toArray⟩) :=
 aBuiltin_vals (vs := [_, _]) trivial fun ty cs w => by
  rw [highS_if]
  cases h : lt a b
  ·simp [builtin, Builtin.max_, Builtin.max2, Op.stringOp, asBool, h]
  ·simp [builtin, Builtin.max_, Builtin.max2, Op.stringOp, asBool, h]
instance minS (a b : List UInt8) : Stp (Do (aBuiltin P .min #[t, t'] [.val (.string ⟨a.toArray⟩), .val (.string ⟨b.toArray⟩)]) K) (K (S (lowS a b))) := ⟨fun hK => ⟨_, r_minS.2 rfl, hK⟩⟩
instance maxS (a b : List UInt8) : Stp (Do (aBuiltin P .max #[t, t'] [.val (.string ⟨a.toArray⟩), .val (.string ⟨b.toArray⟩)]) K) (K (S (highS a b))) := ⟨fun hK => ⟨_, r_maxS.2 rfl, hK⟩⟩
end mm
namespace Fc
instance part3 {a b c : AV} : Part [a, b, c] 0 3 [a, b, c] := ⟨rfl, Nat.le_refl _, by decide⟩
end Fc
def pick_span_over.mark : Mark := ⟨fun t => Nat.beq t 7, fun t => false, fun t => Nat.beq t 2 || Nat.beq t 3, fun t => Nat.beq t 5 || Nat.beq t 6 || Nat.beq t 10 || Nat.beq t 12 || Nat.beq t 17 || Nat.beq t 19, fun t => false⟩
def pick_span_over.ann : Ann := ⟨fun n => [], fun n => none, fun n => none⟩
def pick_span_over.sh (a0 a1 : AV) (σ : Store) (Q : AEnd → Store → Prop) : Prop :=
 Do (aFreeze ((a0 : AV)).cells) fun t2 =>
 Do (aFreeze ((a1 : AV)).cells) fun t3 =>
 Do (loadF true 3 t2) fun t5 =>
 Do (loadF true 36 t3) fun t6 =>
 Do (aPureC Tryz.prog 61 [t5, t6]) fun t7 =>
 Do (aGuard t7 true (aFieldAddr 34 1 t3)) fun t9 =>
 Do (aGuard t7 true (loadF false 1 t9)) fun t10 =>
 Do (aGuard t7 true (aFieldAddr 2 1 t2)) fun t11 =>
 Do (aGuard t7 true (loadF false 1 t11)) fun t12 =>
 Do (aGuard t7 true (aBin Tryz.prog .leq 9 t10 t12)) fun t13 =>
 Do (aPick t7 t13 (.val (.bool false))) fun t14 =>
 Do (aGuard t14 true (aFieldAddr 35 1 t3)) fun t16 =>
 Do (aGuard t14 true (loadF false 1 t16)) fun t17 =>
 Do (aGuard t14 true (aFieldAddr 1 1 t2)) fun t18 =>
 Do (aGuard t14 true (loadF false 1 t18)) fun t19 =>
 Do (aGuard t14 true (aBin Tryz.prog .geq 9 t17 t19)) fun t20 =>
 Do (aPick t14 t20 (.val (.bool false))) fun t21 =>
 Q (.ret t21) σ
theorem pick_span_over.eq (a0 a1 : AV) (σ : Store) (Q : AEnd → Store → Prop) : vc (semOf Tryz.prog pick_span_over.mark) Tryz.f63.ntmps pick_span_over.ann (bodyOf Tryz.f63) (endK [.tmp 4] Q) (argFr [a0, a1]) σ = pick_span_over.sh a0 a1 σ Q := by kernel_rfl
theorem pick_span_over.go {a0 a1 : AV} {σ : Store} {Q : AEnd → Store → Prop} (h : pick_span_over.sh a0 a1 σ Q) : ACalls Tryz.prog 63 [a0, a1] σ Q :=
 acalls_of_eq [.tmp 4] Tryz.func63 (by kernel_rfl) (by kernel_rfl) (by kernel_rfl) (by kernel_rfl) (pick_span_over.eq a0 a1 σ Q) h
theorem over_ok (k : Int) (f g : List UInt8) (x : TabR) : aPure Tryz.prog 63 [.agg [I .i64 k, S f, S g], tbF x] (B (overP k f g x)) := by
 have iO : PC Tryz.prog 61 [.agg [I .i64 k, S f, S g], tbF x] True (B (onP k x)) := ⟨fun _ => PC.of (on_ok k f g x)⟩
 refine pick_span_over.go ?_
 unfold pick_span_over.sh
 unfold overP
 cases h1 : onP k x
 ·repeat' (with_reducible first|apply Stp.go|refine imp fun _=>?_|refine zq ?_|refine zt ?_|refine zf ?_|refine zg ?_|refine za ?_|refine altF ?_|refine all fun _=>?_|refine both ?_ ?_|refine zu ?_|refine zv ?_|refine cho (fun _=>?_) fun _=>?_|refine zw ?_)
  exact ⟨rfl, rfl⟩
 ·have e := lt_flip2 g x.fst
  by_cases h2 : (lt x.fst g || decide (x.fst = g)) = true
  ·rw [h2] at e
   repeat' (with_reducible first|apply Stp.go|refine imp fun _=>?_|refine zq ?_|refine zt ?_|refine zf ?_|refine zg ?_|refine za ?_|refine altF ?_|refine all fun _=>?_|refine both ?_ ?_|refine zu ?_|refine zv ?_|refine cho (fun _=>?_) fun _=>?_|refine zw ?_)
   rw [e]
   exact ⟨rfl, rfl⟩
  ·rw [Bool.eq_false_iff.2 h2] at e
   repeat' (with_reducible first|apply Stp.go|refine imp fun _=>?_|refine zq ?_|refine zt ?_|refine zf ?_|refine zg ?_|refine za ?_|refine altF ?_|refine all fun _=>?_|refine both ?_ ?_|refine zu ?_|refine zv ?_|refine cho (fun _=>?_) fun _=>?_|refine zw ?_)
   rw [e]
   exact ⟨rfl, rfl⟩
theorem places_own (l : List TabR) (m : SM) (g : FuncId) (r : AV) (p : TabR → Bool) (hl : l.length ≤ 1000000) (hg : ∀ x : TabR, aPure Tryz.prog g [r, tbF x] (B (p x))) : ACalls Tryz.prog 60 [.lst 36 (l.map tbF) m, .fn (.func g) [r] []] [] (fun x σ' => ∃ v, x = .ret (.own v (posT p l l.length).length) ∧ σ' = [.row v InT 1 ((posT p l l.length).map it) 0]) := by
 refine ACalls.fin (pick_places.go ?_)
 unfold pick_places.sh
 repeat' (with_reducible first|apply Stp.go|refine imp fun _=>?_|refine zq ?_|refine zt ?_|refine zf ?_|refine zg ?_|refine za ?_|refine altF ?_|refine all fun _=>?_|refine both ?_ ?_|refine zu ?_|refine zv ?_|refine cho (fun _=>?_) fun _=>?_|refine zw ?_)
 refine loopI (β := Nat × Value) (fun x => x.1 ≤ l.length) (fun x => [.fn (.func g) [r] [], .own x.2 (posT p l x.1).length, .lst 36 (l.map tbF) m, I .i64 (l.length : Nat), I .i64 (x.1 : Nat)]) (fun x => [.row x.2 InT 1 ((posT p l x.1).map it) 0]) (fun x => l.length - x.1) (0, .slice none 0 0) (Nat.zero_le _) (Sub.nil_own InT (sz := 1) (by decide) _ [_] [_, _, _]) ?_
 rintro ⟨i, v⟩ h1
 dsimp only at h1 ⊢
 have hpl := posT_len p l i
 by_cases hi : i < l.length
 ·have hs := posT_succ p l i
  have hpc : ∀ x : TabR, PC Tryz.prog g ([r] ++ [tbF x] ++ []) True (B (p x)) := fun x => ⟨fun _ => PC.of (hg x)⟩
  have hpi := hpc (l.getD i default)
  by_cases hp : p (l.getD i default) = true
  ·rw [if_pos hp] at hs
   repeat' (with_reducible first|apply Stp.go|refine imp fun _=>?_|refine zq ?_|refine zt ?_|refine zf ?_|refine zg ?_|refine za ?_|refine altF ?_|refine all fun _=>?_|refine both ?_ ?_|refine zu ?_|refine zv ?_|refine cho (fun _=>?_) fun _=>?_|refine zw ?_)
   rename_i w
   exact again (i + 1, w) (by dsimp only; omega) (by dsimp only; omega) (by dsimp only; rw [hs]; exact Sub.drop_ (.cons _ (.cons_cons _ .slnil)) _)
  ·rw [if_neg hp, List.append_nil] at hs
   repeat' (with_reducible first|apply Stp.go|refine imp fun _=>?_|refine zq ?_|refine zt ?_|refine zf ?_|refine zg ?_|refine za ?_|refine altF ?_|refine all fun _=>?_|refine both ?_ ?_|refine zu ?_|refine zv ?_|refine cho (fun _=>?_) fun _=>?_|refine zw ?_)
   exact again (i + 1, v) (by dsimp only; omega) (by dsimp only; omega) (by dsimp only; rw [hs]; exact Sub.drop_ (.cons _ (.cons_cons _ .slnil)) _)
 ·have e : i = l.length := by omega
  subst e
  repeat' (with_reducible first|apply Stp.go|refine imp fun _=>?_|refine zq ?_|refine zt ?_|refine zf ?_|refine zg ?_|refine za ?_|refine altF ?_|refine all fun _=>?_|refine both ?_ ?_|refine zu ?_|refine zv ?_|refine cho (fun _=>?_) fun _=>?_|refine zw ?_)
  exact ⟨_, _, _, rfl, Sub.refl _ _, _, rfl, rfl⟩
end Go.Ab

namespace Go.Ab
open Go.Proofs
abbrev itN (n : Nat) : AV := .val (.int .i64 (n : Nat))
instance : Enc itN 1 := ⟨fun n => ⟨rfl, fun c hc => by
 have hc : c ∈ [itN n] := hc
 rw [List.mem_singleton.1 hc]; rfl⟩, by decide, fun _ => rfl⟩
instance : ElemF [.val (.int .i64 0)] Nat itN := ⟨trivial⟩
instance (n : Nat) : AsF itN (.val (.int .i64 (n : Nat))) n := ⟨rfl⟩
instance (n : Nat) : Cells (itN n) [itN n] := ⟨rfl⟩
instance (n : Nat) : One (itN n) := ⟨rfl⟩
abbrev bV (b : Bool) : AV := B b
instance : ZeroV bV (.bool false) false := ⟨rfl⟩
instance (b : Bool) : AsF bV (.val (.bool b)) b := ⟨rfl⟩
abbrev MbT : TypeId := 99
instance : MapT Tryz.prog MbT (.int .i64) (.bool false) := ⟨by kernel_rfl⟩
abbrev SpT : TypeId := 97
theorem map_itN (o : List Nat) : (o.map Int.ofNat).map it = o.map itN := by rw [List.map_map]; rfl
theorem posT_nat (p : TabR → Bool) (l : List TabR) (k : Nat) : (posT p l k).map it = ((List.range k).filter fun i => p (l.getD i default)).map itN := map_itN _
def pickR (l : List TabR) : AV := if lvlT l < 3 then .tuple [.lst 1 (((inK l (lvlT l)).map Int.ofNat).map it) .ro, I .i64 ((lvlT l + 1 : Nat) : Nat), B true] else .tuple [.lst 1 (([] : List Int).map it) .ro, I .i64 0, B false]
theorem lvlT_of {l : List TabR} {k : Nat} (hk : k < 3) (h : hot l k = true) (h2 : ∀ j, j < k → hot l j = false) : lvlT l = k := by
 unfold lvlT
 match k, hk with
 | 0, _ => rw [if_pos h]
 | 1, _ => rw [h2 0 (by decide), if_neg (by decide), if_pos h]
 | 2, _ => rw [h2 0 (by decide), if_neg (by decide), h2 1 (by decide), if_neg (by decide), if_pos h]
theorem lvlT_none {l : List TabR} (h2 : ∀ j, j < 3 → hot l j = false) : lvlT l = 3 := by
 unfold lvlT
 rw [h2 0 (by decide), if_neg (by decide), h2 1 (by decide), if_neg (by decide), h2 2 (by decide), if_neg (by decide)]
theorem foldl_take_succ {α β : Type} [Inhabited α] (f : β → α → β) (b : β) {o : List α} {i : Nat} (h : i < o.length) : (o.take (i + 1)).foldl f b = f ((o.take i).foldl f b) (o.getD i default) := by
 rw [take_succ_d h, List.foldl_append]; rfl
theorem ownP_len (l : List TabR) (k : Nat) : (ownP l k).length ≤ l.length := by
 unfold ownP
 exact Nat.le_trans (List.length_filter_le _ _) (by rw [List.length_range]; exact Nat.le_refl _)
instance {a : AV} {l : List TabR} {m : SM} {k : Nat} {x : Int} {f g : List UInt8} {σ : Store} [h : IsL a tbF 36 l m] [hx : NatOf x k] : EC Tryz.prog 60 [a, .fn (.func 61) [.agg [.val (.int .i64 x), S f, S g]] []] σ (l.length ≤ 1000000) Value (fun v => .own v (ownP l k).length) (fun v => .row v InT 1 ((ownP l k).map itN) 0 :: σ) := ⟨fun hl => by
 have e := hx.eq
 subst e
 refine (((places_own l m _ _ _ hl (on_ok (k : Nat) f g)).subV (args := [a, .fn (.func 61) [.agg [.val (.int .i64 (k : Nat)), S f, S g]] []]) ⟨h.sub, SubV.refl _, trivial⟩).frame σ).mono ?_
 rintro x τ ⟨σ1, e1, _, v, e2, e3⟩
 refine ⟨v, ?_, ?_⟩
 ·rw [e2]
  unfold posT ownP
  rw [List.length_map]
 ·rw [e1, e3, posT_nat]
  rfl⟩
theorem overK_len (p : TabR → Bool) (l : List TabR) : ((List.range l.length).filter fun i => p (l.getD i default)).length ≤ l.length :=
 Nat.le_trans (List.length_filter_le _ _) (by rw [List.length_range]; exact Nat.le_refl _)
instance {a : AV} {l : List TabR} {m : SM} {x : Int} {f g : List UInt8} {σ : Store} [h : IsL a tbF 36 l m] : EC Tryz.prog 60 [a, .fn (.func 63) [.agg [.val (.int .i64 x), S f, S g]] []] σ (l.length ≤ 1000000) Value (fun v => .own v ((List.range l.length).filter fun i => overP x f g (l.getD i default)).length) (fun v => .row v InT 1 (((List.range l.length).filter fun i => overP x f g (l.getD i default)).map itN) 0 :: σ) := ⟨fun hl => by
 refine (((places_own l m _ _ _ hl (over_ok x f g)).subV (args := [a, .fn (.func 63) [.agg [.val (.int .i64 x), S f, S g]] []]) ⟨h.sub, SubV.refl _, trivial⟩).frame σ).mono ?_
 rintro x τ ⟨σ1, e1, _, v, e2, e3⟩
 refine ⟨v, ?_, ?_⟩
 ·rw [e2]
  unfold posT
  rw [List.length_map]
 ·rw [e1, e3, posT_nat]
  rfl⟩
def pick_Pick.mark : Mark := ⟨fun t => Nat.beq t 26, fun t => false, fun t => false, fun t => Nat.beq t 40 || Nat.beq t 47 || Nat.beq t 61 || Nat.beq t 69, fun t => false⟩
def pick_Pick.ann : Ann := ⟨fun n => bif Nat.beq n 2 then [0, 15] else bif Nat.beq n 10 then [0, 5, 6, 7, 49, 50, 51] else bif Nat.beq n 16 then [0, 5, 10, 80, 81, 82] else bif Nat.beq n 22 then [5, 10, 13, 90, 91] else [], fun n => bif Nat.beq n 8 then some [0, 5, 6] else none, fun n => bif Nat.beq n 8 then some [0, 5, 6, 7] else none⟩
def pick_Pick.sh (a0 : AV) (σ : Store) (Q : AEnd → Store → Prop) : Prop :=
 aLoop (fun go vs σ =>
 At vs 0 fun s0 => At vs 1 fun s15 => Do (aBin Tryz.prog .lss 3 s15 (.val (.int .i64 3))) fun t16 =>
 aCond t16
 (Do (aLit [.val (.int .i64 0), .val (.string ⟨#[]⟩), .val (.string ⟨#[]⟩)] [(0, 1), (1, 1), (2, 1)] [(0, s15)]) fun t20 =>
 aCall Tryz.prog 60 [s0, (.fn (.func 61) [t20] [])] σ (fun t22 σ_1 =>
 Do (aBuiltin Tryz.prog .len #[23] [t22]) fun t24 =>
 Do (aPureC Tryz.prog 62 [s15]) fun t26 =>
 Do (aBin Tryz.prog .leq 3 t24 t26) fun t27 =>
 aCond t27
 (Do (aBin Tryz.prog .add 3 s15 (.val (.int .i64 1))) fun t105 =>
 go [s0, t105] σ_1)
 (aJoin (fun j =>
 Do (aBin Tryz.prog .gtr 3 s15 (.val (.int .i64 0))) fun t29 =>
 aCond t29
 (Do (aSlice .slice 1 t22 none (some (.val (.int .i64 1))) none) fun t31 =>
 j [s0, s15, t31] σ_1)
 (j [s0, s15, t22] σ_1)) fun vs_1 σ_2 =>
 At vs_1 0 fun s0_1 => At vs_1 1 fun s5 => At vs_1 2 fun s6 => aJoin (fun j_1 =>
 Do (aBin Tryz.prog .add 3 s5 (.val (.int .i64 1))) fun t33 =>
 Do (aIndexAddr .slice 1 s6 (.val (.int .i64 0))) fun t36 =>
 Do (aIndexAddr .slice 1 s6 (.val (.int .i64 0))) fun t43 =>
 Both (Do (loadA false 1 t36 σ_2) fun t37 =>
 Do (aIndexAddr .slice 36 s0_1 t37) fun t38 =>
 Do (aFieldAddr 34 1 t38) fun t39 =>
 Do (loadF false 1 t39) fun t40 =>
 Both (Do (loadA false 1 t43 σ_2) fun t44 =>
 Do (aIndexAddr .slice 36 s0_1 t44) fun t45 =>
 Do (aFieldAddr 35 1 t45) fun t46 =>
 Do (loadF false 1 t46) fun t47 =>
 Do (aLit [.val (.int .i64 0), .val (.string ⟨#[]⟩), .val (.string ⟨#[]⟩)] [(0, 1), (1, 1), (2, 1)] [(0, t33), (1, t40), (2, t47)]) fun t48 =>
 aNewVar 97 [.val (.int .i64 0), .val (.string ⟨#[]⟩), .val (.string ⟨#[]⟩)] σ_2 fun t7 σ_4 =>
 storeA 3 t7 t48 σ_4 fun u σ_5 =>
 j_1 [s0_1, s5, s6, t7] σ_5) (aNewVar 97 [.val (.int .i64 0), .val (.string ⟨#[]⟩), .val (.string ⟨#[]⟩)] σ_2 fun t7_1 σ_6 =>
 Do (loadA false 1 t43 σ_6) fun t44_1 =>
 Do (aIndexAddr .slice 36 s0_1 t44_1) fun t45_1 =>
 Do (aFieldAddr 35 1 t45_1) fun t46_1 =>
 Do (loadF false 1 t46_1) fun t47_1 =>
 Do (aLit [.val (.int .i64 0), .val (.string ⟨#[]⟩), .val (.string ⟨#[]⟩)] [(0, 1), (1, 1), (2, 1)] [(0, t33), (1, t40), (2, t47_1)]) fun t48_1 =>
 storeA 3 t7_1 t48_1 σ_6 fun u_1 σ_7 =>
 j_1 [s0_1, s5, s6, t7_1] σ_7)) (Both (Do (loadA false 1 t43 σ_2) fun t44_2 =>
 Do (aIndexAddr .slice 36 s0_1 t44_2) fun t45_2 =>
 Do (aFieldAddr 35 1 t45_2) fun t46_2 =>
 Do (loadF false 1 t46_2) fun t47_2 =>
 Both (Do (loadA false 1 t36 σ_2) fun t37_1 =>
 Do (aIndexAddr .slice 36 s0_1 t37_1) fun t38_1 =>
 Do (aFieldAddr 34 1 t38_1) fun t39_1 =>
 Do (loadF false 1 t39_1) fun t40_1 =>
 Do (aLit [.val (.int .i64 0), .val (.string ⟨#[]⟩), .val (.string ⟨#[]⟩)] [(0, 1), (1, 1), (2, 1)] [(0, t33), (1, t40_1), (2, t47_2)]) fun t48_2 =>
 aNewVar 97 [.val (.int .i64 0), .val (.string ⟨#[]⟩), .val (.string ⟨#[]⟩)] σ_2 fun t7_2 σ_8 =>
 storeA 3 t7_2 t48_2 σ_8 fun u_2 σ_9 =>
 j_1 [s0_1, s5, s6, t7_2] σ_9) (aNewVar 97 [.val (.int .i64 0), .val (.string ⟨#[]⟩), .val (.string ⟨#[]⟩)] σ_2 fun t7_3 σ_10 =>
 Do (loadA false 1 t36 σ_10) fun t37_2 =>
 Do (aIndexAddr .slice 36 s0_1 t37_2) fun t38_2 =>
 Do (aFieldAddr 34 1 t38_2) fun t39_2 =>
 Do (loadF false 1 t39_2) fun t40_2 =>
 Do (aLit [.val (.int .i64 0), .val (.string ⟨#[]⟩), .val (.string ⟨#[]⟩)] [(0, 1), (1, 1), (2, 1)] [(0, t33), (1, t40_2), (2, t47_2)]) fun t48_3 =>
 storeA 3 t7_3 t48_3 σ_10 fun u_3 σ_11 =>
 j_1 [s0_1, s5, s6, t7_3] σ_11)) (aNewVar 97 [.val (.int .i64 0), .val (.string ⟨#[]⟩), .val (.string ⟨#[]⟩)] σ_2 fun t7_4 σ_12 =>
 Do (loadA false 1 t36 σ_12) fun t37_3 =>
 Do (aIndexAddr .slice 36 s0_1 t37_3) fun t38_3 =>
 Do (aFieldAddr 34 1 t38_3) fun t39_3 =>
 Do (loadF false 1 t39_3) fun t40_3 =>
 Do (loadA false 1 t43 σ_12) fun t44_3 =>
 Do (aIndexAddr .slice 36 s0_1 t44_3) fun t45_3 =>
 Do (aFieldAddr 35 1 t45_3) fun t46_3 =>
 Do (loadF false 1 t46_3) fun t47_3 =>
 Do (aLit [.val (.int .i64 0), .val (.string ⟨#[]⟩), .val (.string ⟨#[]⟩)] [(0, 1), (1, 1), (2, 1)] [(0, t33), (1, t40_3), (2, t47_3)]) fun t48_4 =>
 storeA 3 t7_4 t48_4 σ_12 fun u_4 σ_13 =>
 j_1 [s0_1, s5, s6, t7_4] σ_13))) fun vs_2 σ_3 =>
 At vs_2 0 fun s0_2 => At vs_2 1 fun s5_1 => At vs_2 2 fun s6_1 => At vs_2 3 fun s7 => Do (aBuiltin Tryz.prog .len #[23] [s6_1]) fun t50 =>
 aLoop (fun go_1 vs_3 σ_14 =>
 At vs_3 0 fun s0_3 => At vs_3 1 fun s5_2 => At vs_3 2 fun s6_2 => At vs_3 3 fun s7_1 => At vs_3 4 fun s49 => At vs_3 5 fun s50 => At vs_3 6 fun s51 => Do (aBin Tryz.prog .lss 3 s51 s50) fun t52 =>
 aCond t52
 (Do (aIndexAddr .slice 1 s49 s51) fun t53 =>
 Do (loadA false 1 t53 σ_14) fun t54 =>
 Do (aFieldAddr 1 1 s7_1) fun t55 =>
 Do (loadA false 1 t55 σ_14) fun t56 =>
 Do (aIndexAddr .slice 36 s0_3 t54) fun t59 =>
 Do (aFieldAddr 34 1 t59) fun t60 =>
 Do (loadF false 1 t60) fun t61 =>
 Do (aBuiltin Tryz.prog .min #[9, 9] [t56, t61]) fun t62 =>
 Do (aFieldAddr 2 1 s7_1) fun t63 =>
 Do (loadA false 1 t63 σ_14) fun t64 =>
 Do (aIndexAddr .slice 36 s0_3 t54) fun t67 =>
 Do (aFieldAddr 35 1 t67) fun t68 =>
 Do (loadF false 1 t68) fun t69 =>
 Do (aBuiltin Tryz.prog .max #[9, 9] [t64, t69]) fun t70 =>
 Do (aFieldAddr 1 1 s7_1) fun t71 =>
 storeA 1 t71 t62 σ_14 fun u_5 σ_15 =>
 Do (aFieldAddr 2 1 s7_1) fun t72 =>
 storeA 1 t72 t70 σ_15 fun u_6 σ_16 =>
 Do (aBin Tryz.prog .add 3 s51 (.val (.int .i64 1))) fun t73 =>
 go_1 [s0_3, s5_2, s6_2, s7_1, s49, s50, t73] σ_16)
 (aHook (eMakeMap σ_14) fun t74 σ_17 =>
 Do (loadA true 3 s7_1 σ_17) fun t77 =>
 aCall Tryz.prog 60 [s0_3, (.fn (.func 63) [t77] [])] σ_17 (fun t79 σ_18 =>
 aAppend 3 1 8 s6_2 t79 σ_18 (subF fun t80 σ_19 =>
 Do (aBuiltin Tryz.prog .len #[23] [t80]) fun t81 =>
 aLoop (fun go_2 vs_4 σ_20 =>
 At vs_4 0 fun s0_4 => At vs_4 1 fun s5_3 => At vs_4 2 fun s10 => At vs_4 3 fun s80 => At vs_4 4 fun s81 => At vs_4 5 fun s82 => Do (aBin Tryz.prog .lss 3 s82 s81) fun t83 =>
 aCond t83
 (Do (aIndexAddr .slice 1 s80 s82) fun t84 =>
 Do (loadA false 1 t84 σ_20) fun t85 =>
 aHook (eMapUpd Tryz.prog 99 s10 t85 (.val (.bool true)) σ_20) fun u_7 σ_21 =>
 Do (aBin Tryz.prog .add 3 s82 (.val (.int .i64 1))) fun t88 =>
 go_2 [s0_4, s5_3, s10, s80, s81, t88] σ_21)
 (Do (aBuiltin Tryz.prog .len #[24] [s0_4]) fun t90 =>
 aLoop (fun go_3 vs_5 σ_22 =>
 At vs_5 0 fun s5_4 => At vs_5 1 fun s10_1 => At vs_5 2 fun s13 => At vs_5 3 fun s90 => At vs_5 4 fun s91 => Do (aBin Tryz.prog .lss 3 s91 s90) fun t92 =>
 aCond t92
 (Do (lookA Tryz.prog 99 false s10_1 s91 σ_22) fun t96 =>
 aCond t96
 (Do (aSlLit (mkE [.val (.int .i64 0)]) 1 1 [(0, s91)]) fun t99 =>
 aAppend 3 1 8 s13 t99 σ_22 (subK fun t100 σ_23 =>
 Do (aBin Tryz.prog .add 3 s91 (.val (.int .i64 1))) fun t101 =>
 go_3 [s5_4, s10_1, t100, s90, t101] σ_23))
 (Do (aBin Tryz.prog .add 3 s91 (.val (.int .i64 1))) fun t101_1 =>
 go_3 [s5_4, s10_1, s13, s90, t101_1] σ_22))
 (Do (aBin Tryz.prog .add 3 s5_4 (.val (.int .i64 1))) fun t104 =>
 Q (.ret (.tuple [s13, t104, (.val (.bool true))])) σ_22))
 [s5_3, s10, (.val (.slice none 0 0)), t90, (.val (.int .i64 0))] σ_20))
 [s0_3, s5_2, t74, t80, t81, (.val (.int .i64 0))] σ_19)) (fun e σ_24 => Q (.pan e) σ_24)))
 [s0_2, s5_1, s6_1, s7, s6_1, t50, (.val (.int .i64 0))] σ_3)) (fun e_1 σ_25 => Q (.pan e_1) σ_25))
 (Q (.ret (.tuple [(.val (.slice none 0 0)), (.val (.int .i64 0)), (.val (.bool false))])) σ))
 [a0, (.val (.int .i64 0))] σ
theorem pick_Pick.eq (a0 : AV) (σ : Store) (Q : AEnd → Store → Prop) : vc (semOf Tryz.prog pick_Pick.mark) Tryz.f31.ntmps pick_Pick.ann (bodyOf Tryz.f31) (endK [.tmp 2, .tmp 3, .tmp 4] Q) (argFr [a0]) σ = pick_Pick.sh a0 σ Q := by kernel_rfl
theorem pick_Pick.go {a0 : AV} {σ : Store} {Q : AEnd → Store → Prop} (h : pick_Pick.sh a0 σ Q) : ACalls Tryz.prog 31 [a0] σ Q :=
 acalls_of_eq [.tmp 2, .tmp 3, .tmp 4] Tryz.func31 (by kernel_rfl) (by kernel_rfl) (by kernel_rfl) (by kernel_rfl) (pick_Pick.eq a0 σ Q) h
theorem Pick_ok (l : List TabR) (m : SM) (hl : l.length ≤ 1000000) : aPure Tryz.prog 31 [.lst 36 (l.map tbF) m] (pickR l) := by
  refine ACalls.fin (pick_Pick.go ?_)
  unfold pick_Pick.sh
  repeat' (with_reducible first|apply Stp.go|refine imp fun _=>?_|refine zq ?_|refine zt ?_|refine zf ?_|refine zg ?_|refine za ?_|refine altF ?_|refine all fun _=>?_|refine both ?_ ?_|refine zu ?_|refine zv ?_|refine cho (fun _=>?_) fun _=>?_|refine zw ?_)
  refine loopI (β := Nat) (fun k => k ≤ 3 ∧ ∀ j, j < k → hot l j = false) (fun k => [.lst 36 (l.map tbF) m, I .i64 (k : Nat)]) (fun _ => []) (fun k => 3 - k) 0 ⟨Nat.zero_le _, fun j h => absurd h (Nat.not_lt_zero _)⟩ (Sub.refl _ _) ?_
  rintro k ⟨hk, hn⟩
  dsimp only at hk hn ⊢
  by_cases h3 : k < 3
  · have hcap : capT k ≤ 32 := by unfold capT; split <;> decide
    have hpl := ownP_len l k
    by_cases hh : hot l k = true
    · have hh2 : capT k < (ownP l k).length := by unfold hot at hh; exact of_decide_eq_true hh
      have hlv := lvlT_of h3 hh hn
      have hop := ownK_pos hh
      unfold pickR
      rw [hlv, if_pos h3]
      have hol : (ownK l k).length ≤ l.length := by
        unfold ownK
        split
        · exact hpl
        · rw [List.length_take]; omega
      have hom : ∀ i, i < (ownK l k).length → (ownK l k).getD i default < l.length := fun i hi => (ownK_mem (getD_memT hi)).1
      repeat' (with_reducible first|apply Stp.go|refine imp fun _=>?_|refine zq ?_|refine zt ?_|refine zf ?_|refine zg ?_|refine za ?_|refine altF ?_|refine all fun _=>?_|refine both ?_ ?_|refine zu ?_|refine zv ?_|refine cho (fun _=>?_) fun _=>?_|refine zw ?_)
      rename_i v
      refine joinI (β := Value) (fun _ => True) (fun v => [.lst 36 (l.map tbF) m, I .i64 (k : Nat), .own v (ownK l k).length]) (fun v => [.row v InT 1 ((ownK l k).map itN) 0]) ?_ ?_
      · by_cases hk0 : k = 0
        · subst hk0
          have e : ownK l 0 = ownP l 0 := by unfold ownK; rw [if_pos rfl]
          rw [e]
          repeat' (with_reducible first|apply Stp.go|refine imp fun _=>?_|refine zq ?_|refine zt ?_|refine zf ?_|refine zg ?_|refine za ?_|refine altF ?_|refine all fun _=>?_|refine both ?_ ?_|refine zu ?_|refine zv ?_|refine cho (fun _=>?_) fun _=>?_|refine zw ?_)
          all_goals exact meet v trivial (Sub.refl _ _)
        · have e : ownK l k = (ownP l k).take 1 := by unfold ownK; rw [if_neg hk0]
          have e1 : ((ownP l k).take 1).length = 1 := by rw [List.length_take]; omega
          have h1 : 1 ≤ (ownP l k).length := by omega
          rw [e, e1, List.map_take]
          repeat' (with_reducible first|apply Stp.go|refine imp fun _=>?_|refine zq ?_|refine zt ?_|refine zf ?_|refine zg ?_|refine za ?_|refine altF ?_|refine all fun _=>?_|refine both ?_ ?_|refine zu ?_|refine zv ?_|refine cho (fun _=>?_) fun _=>?_|refine zw ?_)
          all_goals exact meet (reV v 1) trivial (Sub.cut (by rw [List.length_map]; omega) (by rw [List.length_map]; omega) [_, _] [])
      · intro v' _
        clear v
        generalize hO : ownK l k = O at *
        have hfr : fromK l k = O.foldl (fun s i => lowS s (l.getD i default).fst) (l.getD (O.getD 0 default) default).fst := by unfold fromK headT; rw [hO]
        have hto : toK l k = O.foldl (fun s i => highS s (l.getD i default).lst) (l.getD (O.getD 0 default) default).lst := by unfold toK headT; rw [hO]
        have h00 := hom 0 hop
        repeat' (with_reducible first|apply Stp.go|refine imp fun _=>?_|refine zq ?_|refine zt ?_|refine zf ?_|refine zg ?_|refine za ?_|refine altF ?_|refine all fun _=>?_|refine both ?_ ?_|refine zu ?_|refine zv ?_|refine cho (fun _=>?_) fun _=>?_|refine zw ?_)
        refine joinI (β := Nat) (fun _ => True) (fun b => [.lst 36 (l.map tbF) m, I .i64 (k : Nat), .own v' O.length, ptrAt b 0]) (fun b => [.var b SpT [I .i64 ((k + 1 : Nat) : Int), S (l.getD (O.getD 0 default) default).fst, S (l.getD (O.getD 0 default) default).lst], .row v' InT 1 (O.map itN) 0]) ?_ ?_
        · repeat' (with_reducible first|apply Stp.go|refine imp fun _=>?_|refine zq ?_|refine zt ?_|refine zf ?_|refine zg ?_|refine za ?_|refine altF ?_|refine all fun _=>?_|refine both ?_ ?_|refine zu ?_|refine zv ?_|refine cho (fun _=>?_) fun _=>?_|refine zw ?_)
          all_goals
            rename_i bx
            exact meet bx trivial (Sub.refl _ _)
        · intro b _
          repeat' (with_reducible first|apply Stp.go|refine imp fun _=>?_|refine zq ?_|refine zt ?_|refine zf ?_|refine zg ?_|refine za ?_|refine altF ?_|refine all fun _=>?_|refine both ?_ ?_|refine zu ?_|refine zv ?_|refine cho (fun _=>?_) fun _=>?_|refine zw ?_)
          refine loopI (β := Nat) (fun i => i ≤ O.length) (fun i => [.lst 36 (l.map tbF) m, I .i64 (k : Nat), .own v' O.length, ptrAt b 0, .own v' O.length, I .i64 (O.length : Nat), I .i64 (i : Nat)])
            (fun i => [.var b SpT [I .i64 ((k + 1 : Nat) : Int), S ((O.take i).foldl (fun s i => lowS s (l.getD i default).fst) (l.getD (O.getD 0 default) default).fst), S ((O.take i).foldl (fun s i => highS s (l.getD i default).lst) (l.getD (O.getD 0 default) default).lst)], .row v' InT 1 (O.map itN) 0])
            (fun i => O.length - i) 0 (Nat.zero_le _) (Sub.refl _ _) ?_
          intro i hi
          by_cases hlt : i < O.length
          · have hix := hom i hlt
            have s1 := foldl_take_succ (fun s i => lowS s (l.getD i default).fst) (l.getD (O.getD 0 default) default).fst hlt
            have s2 := foldl_take_succ (fun s i => highS s (l.getD i default).lst) (l.getD (O.getD 0 default) default).lst hlt
            repeat' (with_reducible first|apply Stp.go|refine imp fun _=>?_|refine zq ?_|refine zt ?_|refine zf ?_|refine zg ?_|refine za ?_|refine altF ?_|refine all fun _=>?_|refine both ?_ ?_|refine zu ?_|refine zv ?_|refine cho (fun _=>?_) fun _=>?_|refine zw ?_)
            exact again (i + 1) (by omega) (by omega) (by rw [s1, s2]; exact Sub.refl _ _)
          · have ei : i = O.length := by omega
            subst ei
            rw [List.take_length, ← hfr, ← hto]
            have hVl := overK_len (overP ((k + 1 : Nat) : Int) (fromK l k) (toK l k)) l
            have hin : ∀ i, i < l.length → (i ∈ O ++ ((List.range l.length).filter fun i => overP ((k + 1 : Nat) : Int) (fromK l k) (toK l k) (l.getD i default)) ↔ inP l k i = true) := fun i hi => by
              unfold inP
              rw [hO, Bool.or_eq_true, decide_eq_true_eq, List.mem_append, List.mem_filter, List.mem_range]
              constructor
              · rintro (h | ⟨_, h⟩)
                · exact .inl h
                · exact .inr h
              · rintro (h | h)
                · exact .inl h
                · exact .inr ⟨hi, h⟩
            repeat' (with_reducible first|apply Stp.go|refine imp fun _=>?_|refine zq ?_|refine zt ?_|refine zf ?_|refine zg ?_|refine za ?_|refine altF ?_|refine all fun _=>?_|refine both ?_ ?_|refine zu ?_|refine zv ?_|refine cho (fun _=>?_) fun _=>?_|refine zw ?_)
            generalize hA : O ++ ((List.range l.length).filter fun i => overP ((k + 1 : Nat) : Int) (fromK l k) (toK l k) (l.getD i default)) = A at *
            have hAl : A.length ≤ 2000000 := by rw [← hA, List.length_append]; omega
            clear hA
            repeat' (with_reducible first|apply Stp.go|refine imp fun _=>?_|refine zq ?_|refine zt ?_|refine zf ?_|refine zg ?_|refine za ?_|refine altF ?_|refine all fun _=>?_|refine both ?_ ?_|refine zu ?_|refine zv ?_|refine cho (fun _=>?_) fun _=>?_|refine zw ?_)
            rename_i mb v2
            refine loopI (β := Nat × List (Nat × Int × Bool) × Nat) (fun x => x.1 ≤ A.length ∧ ∀ q : Int, findT q x.2.1 = if q ∈ (A.take x.1).map Int.ofNat then some true else none)
              (fun x => [.lst 36 (l.map tbF) m, I .i64 (k : Nat), .val (.map (some mb)), .lst 1 (A.map itN) .ro, I .i64 (A.length : Nat), I .i64 (x.1 : Nat)])
              (fun x => [.map mb (mkM keyI bV x.2.1) x.2.2]) (fun x => A.length - x.1) (0, [], 0) ⟨Nat.zero_le _, fun q => rfl⟩ (Sub.drop_ (.cons _ (.cons_cons _ (List.nil_sublist _))) _) ?_
            rintro ⟨i, L, ck⟩ ⟨q1, q2⟩
            dsimp only at q1 q2 ⊢
            by_cases hia : i < A.length
            · repeat' (with_reducible first|apply Stp.go|refine imp fun _=>?_|refine zq ?_|refine zt ?_|refine zf ?_|refine zg ?_|refine za ?_|refine altF ?_|refine all fun _=>?_|refine both ?_ ?_|refine zu ?_|refine zv ?_|refine cho (fun _=>?_) fun _=>?_|refine zw ?_)
              refine again (i + 1, setT ((A.getD i default : Nat) : Int) true ck L, bif hasT ((A.getD i default : Nat) : Int) L then ck else ck + 1) (by dsimp only; omega) ⟨by dsimp only; omega, fun q => ?_⟩ (Sub.refl _ _)
              dsimp only
              rw [findT_set, q2, take_succ_d hia, List.map_append]
              by_cases e : q = ((A.getD i default : Nat) : Int)
              · rw [if_pos e, if_pos (List.mem_append_right _ (by rw [e]; exact List.mem_cons_self))]
              · rw [if_neg e]
                by_cases e2 : q ∈ (A.take i).map Int.ofNat
                · rw [if_pos e2, if_pos (List.mem_append_left _ e2)]
                · rw [if_neg e2, if_neg]
                  intro h
                  rcases List.mem_append.1 h with h | h
                  · exact e2 h
                  · exact e (List.mem_singleton.1 h)
            · have ei : i = A.length := by omega
              subst ei
              rw [List.take_length] at q2
              repeat' (with_reducible first|apply Stp.go|refine imp fun _=>?_|refine zq ?_|refine zt ?_|refine zf ?_|refine zg ?_|refine za ?_|refine altF ?_|refine all fun _=>?_|refine both ?_ ?_|refine zu ?_|refine zv ?_|refine cho (fun _=>?_) fun _=>?_|refine zw ?_)
              refine loopI (β := Nat × Value) (fun x => x.1 ≤ l.length) (fun x => [I .i64 (k : Nat), .val (.map (some mb)), .own x.2 ((List.range x.1).filter (inP l k)).length, I .i64 (l.length : Nat), I .i64 (x.1 : Nat)])
                (fun x => [.row x.2 InT 1 (((List.range x.1).filter (inP l k)).map itN) 0, .map mb (mkM keyI bV L) ck]) (fun x => l.length - x.1) (0, .slice none 0 0) (Nat.zero_le _) (Sub.nil_own InT (sz := 1) (by decide) _ [_, _] [_, _]) ?_
              rintro ⟨i, w⟩ p1
              dsimp only at p1 ⊢
              by_cases hil : i < l.length
              · have hff : (findT ((i : Nat) : Int) L).getD false = inP l k i := by
                  rw [q2]
                  by_cases h : ((i : Nat) : Int) ∈ A.map Int.ofNat
                  · rw [if_pos h, (hin i hil).1 (mem_map_nat.1 h)]; rfl
                  · rw [if_neg h, Bool.eq_false_iff.2 fun h2 => h (mem_map_nat.2 ((hin i hil).2 h2))]; rfl
                have hfl : ((List.range i).filter (inP l k)).length ≤ i := Nat.le_trans (List.length_filter_le _ _) (by rw [List.length_range]; exact Nat.le_refl _)
                have hs : (List.range (i + 1)).filter (inP l k) = (List.range i).filter (inP l k) ++ if inP l k i = true then [i] else [] := by
                  rw [List.range_succ, List.filter_append]
                  congr 1
                  by_cases h : inP l k i = true
                  · rw [if_pos h, List.filter_cons_of_pos h]; rfl
                  · rw [if_neg h, List.filter_cons_of_neg h]; rfl
                by_cases hp : inP l k i = true
                · rw [hp] at hff
                  rw [if_pos hp] at hs
                  repeat' (with_reducible first|apply Stp.go|refine imp fun _=>?_|refine zq ?_|refine zt ?_|refine zf ?_|refine zg ?_|refine za ?_|refine altF ?_|refine all fun _=>?_|refine both ?_ ?_|refine zu ?_|refine zv ?_|refine cho (fun _=>?_) fun _=>?_|refine zw ?_)
                  all_goals first
                  | (exfalso; simp_all; done)
                  | (rename_i w2
                     exact again (i + 1, w2) (by dsimp only; omega) (by dsimp only; omega) (by dsimp only; rw [hs]; exact Sub.refl _ _))
                · rw [Bool.eq_false_iff.2 hp] at hff
                  rw [if_neg hp, List.append_nil] at hs
                  repeat' (with_reducible first|apply Stp.go|refine imp fun _=>?_|refine zq ?_|refine zt ?_|refine zf ?_|refine zg ?_|refine za ?_|refine altF ?_|refine all fun _=>?_|refine both ?_ ?_|refine zu ?_|refine zv ?_|refine cho (fun _=>?_) fun _=>?_|refine zw ?_)
                  all_goals first
                  | exact again (i + 1, w) (by dsimp only; omega) (by dsimp only; omega) (by dsimp only; rw [hs]; exact Sub.refl _ _)
                  | (exfalso; simp_all; done)
              · have ei : i = l.length := by omega
                subst ei
                rw [map_itN, show ((List.range l.length).filter (inP l k)) = inK l k from rfl]
                repeat' (with_reducible first|apply Stp.go|refine imp fun _=>?_|refine zq ?_|refine zt ?_|refine zf ?_|refine zg ?_|refine za ?_|refine altF ?_|refine all fun _=>?_|refine both ?_ ?_|refine zu ?_|refine zv ?_|refine cho (fun _=>?_) fun _=>?_|refine zw ?_)
                exact ⟨_, _, _, rfl, Sub.tuple (retOwn (Sub.app_nil _)), rfl, rfl⟩
    · have hh2 : ¬ capT k < (ownP l k).length := by unfold hot at hh; exact fun h => hh (decide_eq_true h)
      repeat' (with_reducible first|apply Stp.go|refine imp fun _=>?_|refine zq ?_|refine zt ?_|refine zf ?_|refine zg ?_|refine za ?_|refine altF ?_|refine all fun _=>?_|refine both ?_ ?_|refine zu ?_|refine zv ?_|refine cho (fun _=>?_) fun _=>?_|refine zw ?_)
      refine again (k + 1) (by omega) ⟨by omega, fun j hj => ?_⟩ (Sub.app_nil _)
      by_cases e : j = k
      · subst e; exact Bool.eq_false_iff.2 hh
      · exact hn j (by omega)
  · have e : k = 3 := by omega
    subst e
    unfold pickR
    rw [lvlT_none hn]
    repeat' (with_reducible first|apply Stp.go|refine imp fun _=>?_|refine zq ?_|refine zt ?_|refine zf ?_|refine zg ?_|refine za ?_|refine altF ?_|refine all fun _=>?_|refine both ?_ ?_|refine zu ?_|refine zv ?_|refine cho (fun _=>?_) fun _=>?_|refine zw ?_)
    exact ⟨_, _, _, rfl, Sub.tuple (retNil it (sz := 1) (by decide) (Sub.app_nil _)), rfl, rfl⟩
end Go.Ab
