/- A mem: what it holds; a new one; a place; what is looked up in it. -/
import Derived.Test.YtcpbjmhhhdoafaaF24a
import Derived.Test.YtcpbjmhhhdoafaaF31
import Derived.Test.YtcpbjmhhhdoafaaF33
set_option linter.unusedVariables false
set_option linter.unusedSimpArgs false
namespace Go.Ab
class Len32 (c : List UInt8) : Prop where
  len : c.length = 32
instance (l : List UInt8) : Len32 (sha l) := ⟨sha_length l⟩
abbrev memCs (u : AV) (s : Int) (c : List UInt8) : List AV := u :: I .i64 s :: c.map byt
abbrev MT : TypeId := 58
abbrev EnT_ : TypeId := 29
/-- A mem's memory. -/
abbrev memS (b : Nat) (v : Value) (l : List En) (s : Int) (c : List UInt8) : Store := [.var b MT (memCs (.own v l.length) s c), .row v EnT_ 4 (l.map En.av) 0]
theorem one_len {u : AV} (h : u.one = true) : u.cells.length = 1 := by
  cases u <;> first | rfl | cases h
section steps
variable {P : Program} {b : Nat} {t : TypeId} {u x : AV} {c c' : List UInt8} {σ rest : Store} {put : Ent → Store} {K : AV → Prop} {k : AV → Store → Prop}
instance (priority := 75) ldChain [hc : Len32 c] [hv : VarAt b σ t (u :: x :: c.map byt) put rest] : Stp (Do (loadA true 32 (ptrAt b 2) σ) K) (K (.agg (c.map byt))) := ⟨fun hK => by
  obtain ⟨σ1, σ2, e, _⟩ := hv.at_
  have hl := hc.len
  refine ⟨_, ⟨by decide, fun h => by (cases h), rfl, t, u :: x :: c.map byt, by rw [e]; simp, by simp [hl], ?_⟩, hK⟩
  show _ = mkV true ((c.map byt).take 32)
  rw [List.take_of_length_le (by simp [hl])]
  rfl⟩
instance (priority := 75) stChain [hc : Len32 c] [hc' : Len32 c'] [hv : VarAt b σ t (u :: x :: c.map byt) put rest] : Stp (storeA 32 (ptrAt b 2) (.agg (c'.map byt)) σ k) (k .undef (put (.var b t (u :: x :: c'.map byt)))) := ⟨fun hK => by
  obtain ⟨σ1, σ2, e, e2, _⟩ := hv.at_
  have hl := hc.len
  have hl' := hc'.len
  refine ⟨by simp [AV.cells, hl'], fun y hy => ?_, rfl, σ1, σ2, t, u :: x :: c.map byt, e, by simp [hl], ?_⟩
  · obtain ⟨y, _, rfl⟩ := List.mem_map.1 (show y ∈ c'.map byt from hy)
    rfl
  · rw [e2] at hK
    have : splice (u :: x :: c.map byt) 2 (AV.cells (.agg (c'.map byt))) = u :: x :: c'.map byt := by
      show splice (u :: x :: c.map byt) 2 (c'.map byt) = _
      simp [splice, hl, hl']
    rw [this]
    exact hK⟩
instance (priority := 75) srcChain [hc : Len32 c] [hv : VarAt b σ t (u :: x :: c.map byt) put rest] [hu : One u] [hx : One x] : SrcI 1 σ (.val (.slice (some ⟨b, 2, none⟩) 32 32)) UInt8 byt c := ⟨⟨⟨rfl, rfl, t, u :: x :: c.map byt, by
    obtain ⟨σ1, σ2, e, _⟩ := hv.at_
    rw [e]; simp, by simp [hc.len], fun y hy => by
      simp only [List.mem_cons, List.mem_map] at hy
      rcases hy with rfl | rfl | ⟨z, _, rfl⟩
      · exact one_len hu.one
      · exact one_len hx.one
      · rfl, by rw [show (u :: x :: c.map byt).drop 2 = c.map byt from rfl, List.take_of_length_le (by simp [hc.len])]⟩, fun _ y hy => by obtain ⟨z, _, rfl⟩ := List.mem_map.1 hy; rfl⟩⟩
theorem litMem {zs : List AV} {offs : List (Nat × Nat)} [hc : Len32 c] (h1 : zs.take 2 = [u, x]) (h2 : zs.length = 34) (h3 : offs[2]? = some (2, 32)) (hK : K (.agg (u :: x :: c.map byt))) : Do (aLit zs offs [(2, .agg (c.map byt))]) K := by
  have hl := hc.len
  refine ⟨_, ⟨?_, u :: x :: c.map byt, ?_, rfl⟩, hK⟩
  · intro p hp y hy
    rw [List.mem_singleton.1 hp] at hy
    obtain ⟨z, _, rfl⟩ := List.mem_map.1 (show y ∈ c.map byt from hy)
    rfl
  · unfold fillA
    rw [h3]
    have e1 : (AV.cells (.agg (c.map byt))).length = 32 := by simp [AV.cells, hl]
    simp only [e1, h2]
    rw [if_pos ⟨trivial, by decide⟩]
    unfold fillA
    congr 1
    show splice zs 2 (c.map byt) = _
    unfold splice
    rw [h1, List.drop_of_length_le (by rw [h2, List.length_map, hl]; decide)]
    simp
/-- nil in a variable's first cell, told as a row without elements. -/
theorem Sub.nilCell {cs : List AV} (E : TypeId) {sz : Nat} (hz : 0 < sz) (us : List AV) : Sub [.var b t (.val (.slice none 0 0) :: cs)] us [.var b t (.own (.slice none 0 0) 0 :: cs), .row (.slice none 0 0) E sz [] 0] us := by
  intro R w vs hv hs
  have hst : St R w [.var b t (.own (.slice none 0 0) 0 :: cs)] := by
    refine ⟨hs.ro, fun e he => ?_, List.pairwise_singleton _ _⟩
    rw [List.mem_singleton.1 he]
    obtain ⟨⟨ws, h1, h2, h3⟩, h4⟩ := hs.ents _ List.mem_cons_self
    refine ⟨⟨ws, h1, ⟨by rw [h2.1]; rfl, fun j u v hu hv => ?_⟩, h3⟩, h4⟩
    cases j with
    | zero =>
      have := h2.2 0 _ v rfl hv
      rw [this.val_inv]
      simp only [List.getElem?_cons_zero, Option.some.injEq] at hu
      subst hu
      exact .own (.inl ⟨rfl, rfl⟩)
    | succ j => exact h2.2 (j + 1) u v hu hv
  obtain ⟨g1, g2⟩ := st_nilRow hst E hz
  have hp : ([Ent.row (.slice none 0 0) E sz [] 0, .var b t (.own (.slice none 0 0) 0 :: cs)] : Store).Perm [.var b t (.own (.slice none 0 0) 0 :: cs), .row (.slice none 0 0) E sz [] 0] := List.Perm.swap _ _ _
  refine ⟨R, hv, g1.perm hp, ⟨fun _ _ h => h, rfl, rfl, rfl, Nat.le_refl _, fun _ _ _ => rfl, fun k hk => .inl ?_, fun _ _ h => .inl h⟩⟩
  simpa [blks, Ent.blk, Value.ownBlock] using hk
end steps
end Go.Ab
