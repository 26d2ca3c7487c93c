/- Steps (part 13): arrays, in variables and in memory that turns no more; slices of a variable; rotations. No program in sight. -/
import Derived.Test.YtobhbepiaibceaaB4
set_option linter.unusedVariables false
set_option linter.unusedSimpArgs false
namespace Go.Ab
variable {P : Program}
def wrd (w : UInt32) : AV := .val (.int .u32 w.toNat)
instance (w : UInt32) : Cells (wrd w) [W32 w] := ⟨rfl⟩
theorem told_wrd : Told wrd 1 := fun e => ⟨rfl, fun c hc => by
  have : c = wrd e := by simpa [wrd, AV.cells] using hc
  rw [this]; rfl⟩
instance : Enc wrd 1 := ⟨told_wrd, by decide, fun _ => rfl⟩
instance (n : Int) (w : UInt32) [h : U32Of n w] : AsF wrd (.val (.int .u32 n)) w := ⟨by rw [h.eq]; rfl⟩
instance (w : UInt32) : One (wrd w) := ⟨rfl⟩
instance (w : UInt32) : Ground (wrd w) := ⟨fun R R' x h => by rw [show x = _ from h.val_inv]; exact .val _⟩
instance (l : List UInt32) : Ones (l.map wrd) := ⟨by
  intro c hc
  obtain ⟨b, _, rfl⟩ := List.mem_map.1 hc
  rfl⟩
instance (l : List UInt32) : Grounds (l.map wrd) := ⟨fun x hx => by
  obtain ⟨b, _, rfl⟩ := List.mem_map.1 hx
  exact inferInstance⟩
instance : ElemF [.val (.int .u32 0)] UInt32 wrd := ⟨trivial⟩
instance : ZeroE [.int .u32 0] UInt32 wrd 0 := ⟨rfl, by simp [Value.oneCell']⟩
instance : GroundF wrd := ⟨fun b => (inferInstance : Grounds [wrd b])⟩
instance (n : Nat) (c : AV) [h : One c] : Ones (List.replicate n c) := ⟨fun x hx => by rw [(List.mem_replicate.1 hx).2]; exact h.one⟩
/-- Each is one cell. -/
class EncOne {α : Type} (f : α → AV) : Prop where
  cells : ∀ a, (f a).cells = [f a]
  one : ∀ a, (f a).one = true
instance : EncOne wrd := ⟨fun _ => rfl, fun _ => rfl⟩
instance : EncOne byt := ⟨fun _ => rfl, fun _ => rfl⟩
section arr
variable {α : Type} {f : α → AV} {s sz n m a o b fl : Nat} {l l' : List α} {t : TypeId} {cs cs' : List AV} {σ rest : Store} {put : Ent → Store} {K : AV → Prop} {k : AV → Store → Prop} {u x : AV} {z : Int} {kk : IntKind} {cond : Prop}
/-! where an element stands -/
instance (priority := 1100) ixA0 [h : NatOf z a] : Stp (Do (aIndexAddr (.array n) 1 (ptrAt b 0) (.val (.int kk z))) K) (Need (a < n) (K (ptrAt b a))) := ⟨fun ⟨h1, hK⟩ => by
  refine ⟨_, ⟨by rw [h.eq]; omega, by rw [h.eq]; omega, rfl⟩, ?_⟩
  rw [h.eq, Int.toNat_natCast, addr_lit_add, Nat.mul_one, Nat.zero_add]
  exact hK⟩
instance ixA [h : NatOf z a] : Stp (Do (aIndexAddr (.array n) 1 (ptrAt b o) (.val (.int kk z))) K) (Need (a < n) (K (ptrAt b (o + a)))) := ⟨fun ⟨h1, hK⟩ => by
  refine ⟨_, ⟨by rw [h.eq]; omega, by rw [h.eq]; omega, rfl⟩, ?_⟩
  rw [h.eq, Int.toNat_natCast, addr_lit_add, Nat.mul_one]
  exact hK⟩
instance ixV [h : NatOf z a] : Stp (Do (aIndexAddr .slice 1 (.val (.slice (some ⟨b, o, none⟩) n m)) (.val (.int kk z))) K) (Need (a < n) (K (ptrAt b (o + a)))) := ⟨fun ⟨h1, hK⟩ => by
  refine ⟨_, ⟨by rw [h.eq]; omega, by rw [h.eq]; omega, rfl⟩, ?_⟩
  rw [h.eq, Int.toNat_natCast, addr_lit_add, Nat.mul_one]
  exact hK⟩
theorem drop_one [Inhabited α] (hf : EncOne f) {l : List α} {a : Nat} (h : a < l.length) : ((l.map f).drop a).take 1 = [f (l.getD a default)] := by
  have e : l.drop a = l.getD a default :: l.drop (a + 1) := by
    rw [List.drop_eq_getElem_cons h, List.getD_eq_getElem?_getD, List.getElem?_eq_getElem h]
    rfl
  rw [← List.map_drop, e]
  simp
instance ixAR [Inhabited α] [hf : EncOne f] [h : NatOf z a] : Stp (Do (aIndexAddr (.array n) 1 (.rptr (l.map f)) (.val (.int kk z))) K) (Need (a < n ∧ a < l.length) (K (.rptr [f (l.getD a default)]))) := ⟨fun ⟨h1, hK⟩ => by
  refine ⟨_, ⟨by rw [h.eq]; omega, by rw [h.eq]; omega, ?_, rfl⟩, ?_⟩
  · rw [h.eq, Int.toNat_natCast, List.length_map]; omega
  · rw [h.eq, Int.toNat_natCast, Nat.mul_one, drop_one hf h1.2]
    exact hK⟩
instance ixG [Inhabited α] [hf : EncOne f] [h : NatOf z a] [hc : Cells (f (l.getD a default)) [u]] : Stp (Do (aIndex (.array n) false 1 (.agg (l.map f)) (.val (.int kk z))) K) (Need (a < n ∧ a < l.length) (K u)) := ⟨fun ⟨h1, hK⟩ => by
  refine ⟨_, ⟨by rw [h.eq]; omega, by rw [h.eq]; omega, ?_, fun _ => rfl, rfl⟩, ?_⟩
  · rw [h.eq, Int.toNat_natCast, List.length_map]; omega
  · rw [h.eq, Int.toNat_natCast, Nat.mul_one, drop_one hf h1.2]
    have e := hc.eq
    rw [hf.cells] at e
    have e2 : f (l.getD a default) = u := by simpa using e
    rw [e2]
    exact hK⟩
/-! a variable's element -/
class ElemAt (cs : List AV) (o : Nat) (cond : outParam Prop) (u : outParam AV) : Prop where
  get : cond → o < cs.length ∧ (cs.drop o).take 1 = [u]
class SetAt (cs : List AV) (o : Nat) (x : AV) (cond : outParam Prop) (cs' : outParam (List AV)) : Prop where
  set : cond → o < cs.length ∧ splice cs o [x] = cs'
  plain : x.cells = [x] ∧ x.one = true
instance elM [Inhabited α] [hf : EncOne f] [hc : Cells (f (l.getD o default)) [u]] : ElemAt (l.map f) o (o < l.length) u := ⟨fun h => ⟨by simpa using h, by
  rw [drop_one hf h]
  have e := hc.eq
  rw [hf.cells] at e
  exact e⟩⟩
theorem splice_map {l : List α} {o : Nat} (h : o < l.length) (y : α) : splice (l.map f) o [f y] = (l.set o y).map f := by
  unfold splice
  rw [← List.map_take, ← List.map_drop, List.set_eq_take_append_cons_drop, if_pos h]
  simp
instance setMap {y : α} [hf : EncOne f] [ha : AsF f x y] : SetAt (l.map f) o x (o < l.length) ((l.set o y).map f) := ⟨fun h => ⟨by simpa using h, by rw [ha.eq]; exact splice_map h y⟩, by rw [ha.eq]; exact ⟨hf.cells y, hf.one y⟩⟩
instance (priority := 70) ldEl [hv : VarAt b σ t cs put rest] [h : ElemAt cs o cond u] : Stp (Do (loadA false 1 (ptrAt b o) σ) K) (Need cond (K u)) := ⟨fun ⟨h1, hK⟩ => by
  obtain ⟨g1, g2⟩ := h.get h1
  obtain ⟨σ1, σ2, e, _⟩ := hv.at_
  exact ⟨u, ⟨by decide, fun _ => rfl, rfl, t, cs, by rw [e]; simp, by show o + 1 ≤ _; omega, by show u = mkV false ((cs.drop o).take 1); rw [g2]; rfl⟩, hK⟩⟩
instance (priority := 70) stEl [hv : VarAt b σ t cs put rest] [h : SetAt cs o x cond cs'] : Stp (storeA 1 (ptrAt b o) x σ k) (Need cond (k .undef (put (.var b t cs')))) := ⟨fun ⟨h1, hK⟩ => by
  obtain ⟨g1, g2⟩ := h.set h1
  obtain ⟨σ1, σ2, e, e2, _⟩ := hv.at_
  refine ⟨by rw [h.plain.1]; rfl, by rw [h.plain.1]; intro c hc; rw [List.mem_singleton.1 hc]; exact h.plain.2, rfl, σ1, σ2, t, cs, e, by show o + 1 ≤ _; omega, ?_⟩
  rw [e2] at hK
  rw [h.plain.1, g2]
  exact hK⟩
/-! a variable that is an array, whole -/
instance (priority := 60) ldAll [hf : EncOne f] [hv : VarAt b σ t (l.map f) put rest] : Stp (Do (loadA true s (ptrAt b 0) σ) K) (Need (l.length = s ∧ 0 < s) (K (.agg (l.map f)))) := ⟨fun ⟨h1, hK⟩ => by
  obtain ⟨σ1, σ2, e, _⟩ := hv.at_
  refine ⟨_, ⟨h1.2, fun h => by (cases h), rfl, t, l.map f, by rw [e]; simp, by simp [h1.1], ?_⟩, hK⟩
  rw [List.drop_zero, List.take_of_length_le (by simp [h1.1])]
  rfl⟩
instance (priority := 60) stAll [hf : EncOne f] [hv : VarAt b σ t (l.map f) put rest] : Stp (storeA s (ptrAt b 0) (.agg (l'.map f)) σ k) (Need (l.length = s ∧ l'.length = s) (k .undef (put (.var b t (l'.map f))))) := ⟨fun ⟨h1, hK⟩ => by
  obtain ⟨σ1, σ2, e, e2, _⟩ := hv.at_
  refine ⟨by simp [AV.cells, h1.2], fun c hc => ?_, rfl, σ1, σ2, t, l.map f, e, by simp [h1.1], ?_⟩
  · obtain ⟨y, _, rfl⟩ := List.mem_map.1 (show c ∈ l'.map f from hc)
    exact hf.one y
  · rw [e2] at hK
    have : splice (l.map f) 0 (AV.cells (.agg (l'.map f))) = l'.map f := by
      show splice (l.map f) 0 (l'.map f) = _
      unfold splice
      rw [List.take_zero, List.nil_append, Nat.zero_add, List.drop_of_length_le (by simp; omega), List.append_nil]
    rw [this]
    exact hK⟩
/-! a slice of a variable; of an array that turns no more -/
instance slA [h : NatOf z a] : Stp (Do (aSlice (.array n) 1 (ptrAt b o) (some (.val (.int kk z))) none none) K) (Need (a < n) (K (.val (.slice (some ⟨b, o + a, none⟩) (n - a) (n - a))))) := ⟨fun ⟨h1, hK⟩ => by
  have e := h.eq
  subst e
  refine ⟨_, ⟨by omega, by omega, Int.le_refl _, rfl⟩, ?_⟩
  rw [Int.toNat_natCast, if_neg (by omega), addr_lit_add, Nat.mul_one, show ((n : Int) - (a : Int)).toNat = n - a by omega]
  exact hK⟩
instance slA0 : Stp (Do (aSlice (.array n) 1 (ptrAt b o) none none none) K) (K (.val (.slice (some ⟨b, o, none⟩) n n))) := ⟨fun hK => by
  refine ⟨_, ⟨Int.le_refl _, by omega, Int.le_refl _, rfl⟩, ?_⟩
  have e1 : ((n : Int) - 0).toNat = n := by omega
  have e2 : (if n = Int.toNat 0 then (⟨b, o, none⟩ : Addr) else (⟨b, o, none⟩ : Addr).add (Int.toNat 0 * 1)) = ⟨b, o, none⟩ := by
    split
    · rfl
    · rw [addr_lit_add]; rfl
  rw [e1, e2]
  exact hK⟩
instance slR [hf : EncOne f] : Stp (Do (aSlice (.array n) 1 (.rptr (l.map f)) none none none) K) (Need (n = l.length ∧ n ≤ maxLen) (K (.lst 1 (l.map f) .ro))) := ⟨fun ⟨h1, hK⟩ => by
  refine ⟨_, ⟨rfl, Int.le_refl _, by omega, Int.le_refl _, by simp [h1.1], h1.2, fun c hc => ?_, fun c hc => ?_, rfl⟩, ?_⟩
  · obtain ⟨y, _, rfl⟩ := List.mem_map.1 hc; exact hf.cells y
  · obtain ⟨y, _, rfl⟩ := List.mem_map.1 hc; exact hf.one y
  · rw [Int.toNat_natCast, List.take_of_length_le (by simp [h1.1])]
    exact hK⟩
instance (priority := 70) srcV [Inhabited α] [hf : EncOne f] [hv : VarAt b σ t (l.map f) put rest] [he : Enc f 1] : SrcI 1 σ (.val (.slice (some ⟨b, 0, none⟩) l.length m)) α f l := ⟨⟨⟨rfl, rfl, t, l.map f, by
    obtain ⟨σ1, σ2, e, _⟩ := hv.at_
    rw [e]; simp, by simp, fun c hc => by obtain ⟨y, _, rfl⟩ := List.mem_map.1 hc; rw [hf.cells]; rfl, by rw [List.drop_zero, List.take_of_length_le (by simp)]⟩, fun _ c hc => by obtain ⟨y, _, rfl⟩ := List.mem_map.1 hc; rw [hf.cells]; rfl⟩⟩
/-! literals of arrays -/
class ArrZ (zs : List AV) (α : outParam Type) (f : outParam (α → AV)) : Prop where
  some : True
instance (r : List AV) : ArrZ (.val (.int .u32 0) :: r) UInt32 wrd := ⟨trivial⟩
instance (r : List AV) : ArrZ (.val (.int .u8 0) :: r) UInt8 byt := ⟨trivial⟩
instance (priority := 60) litA {zs : List AV} {offs : List (Nat × Nat)} {parts : List (Nat × AV)} {ys : List α} [hz : ArrZ zs α f] [hf : EncOne f] [hp : Parts f parts 0 ys] : Stp (Do (aLit zs offs parts) K) (Fact (fillA (offs[·]?) zs parts = some (ys.map f)) (K (.agg (ys.map f)))) := ⟨fun ⟨h, hK⟩ => ⟨_, ⟨fun p hpm c hc => by
  rw [hp.eq] at hpm
  obtain ⟨q, hq, rfl⟩ := List.mem_map.1 hpm
  have h2 := List.mem_zipIdx hq |>.2
  have : q.1 ∈ ys.map f := by
    rw [h2.2]
    exact List.getElem_mem _
  obtain ⟨y, _, e⟩ := List.mem_map.1 this
  rw [← e, hf.cells] at hc
  rw [List.mem_singleton.1 hc]
  exact hf.one y, _, h, rfl⟩, hK⟩⟩
end arr
end Go.Ab
