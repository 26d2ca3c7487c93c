/- Steps (part 8): parts of rows as sources and as arguments; clear; copy. No program in sight. -/
import Derived.Test.YtopmpooglnfalaaSt7
set_option linter.unusedVariables false
set_option linter.unusedSimpArgs false
namespace Go.Ab
variable {P : Program}
section parts
variable {α : Type} {f : α → AV} {sz by_ n m a c fl fl' : Nat} {l ys : List α} {E E' t : TypeId} {σ rest rest' : Store} {put put' : Ent → Store} {k : AV → Store → Prop} {K : AV → Prop} {v v' : Value} {x : AV}
theorem src_sub (hf : Told f sz) (hm : Ent.row v E sz (ys.map f) fl ∈ σ) (hle : a + n ≤ ys.length) : Src f sz σ (.sub v sz a n) ((ys.drop a).take n) := by
  have e : ((ys.drop a).take n).map f = ((ys.map f).drop a).take n := by rw [List.map_take, List.map_drop]
  exact ⟨⟨rfl, E, _, fl, hm, by simpa using hle, e⟩, fun h c hc => by rw [told_len hf _ c hc, h]⟩
theorem row_mem {l : List AV} [hr : RowAt v σ E sz l fl put rest] : Ent.row v E sz l fl ∈ σ := by
  obtain ⟨σ1, σ2, e, _⟩ := hr.at_
  rw [e]; simp
instance (priority := 90) appOS [hr : RowAt v σ E sz (l.map f) fl put rest] [he : Enc f sz] [hs : RowAt v' σ E' sz (ys.map f) fl' put' rest'] : Stp (aAppend E sz by_ (.own v m) (.sub v' sz a n) σ (subK k))
    (Need (a + n ≤ ys.length ∧ (l.length + n) * by_ ≤ 140737488355328 ∧ l.length + n ≤ 9223372036854775807) (All fun w => k (.own w (l ++ (ys.drop a).take n).length) (put (.row w E sz ((l ++ (ys.drop a).take n).map f) fl)))) :=
  ⟨fun ⟨h, hK⟩ => by
    have hsrc := src_sub (a := a) (n := n) he.told (row_mem (v := v') (σ := σ)) h.1
    have hl : ((ys.drop a).take n).length = n := by simp; omega
    obtain ⟨σ1, σ2, e, e2, _⟩ := hr.at_
    subst e
    exact s_app_own hsrc (by rw [hl]; exact h.2.1) (by rw [hl]; exact h.2.2) fun w => s_keep (by rw [← e2]; exact hK w)⟩
instance (priority := 90) appNS [he : Enc f sz] [hs : RowAt v' σ E' sz (ys.map f) fl' put' rest'] : Stp (aAppend E sz by_ (.val (.slice none 0 0)) (.sub v' sz a n) σ (subK k))
    (Need (a + n ≤ ys.length ∧ n * by_ ≤ 140737488355328 ∧ n ≤ 9223372036854775807) (All fun w => k (.own w n) (.row w E sz (((ys.drop a).take n).map f) 0 :: σ))) :=
  ⟨fun ⟨h, hK⟩ => by
    have hsrc := src_sub (a := a) (n := n) he.told (row_mem (v := v') (σ := σ)) h.1
    have hl : ((ys.drop a).take n).length = n := by simp; omega
    exact s_app_nil hsrc (by rw [hl]; exact h.2.1) (by rw [hl]; exact h.2.2) fun w => s_keep (by rw [hl]; exact hK w)⟩
/-- clear of the end of a row. -/
class RowT (P : Program) (t : TypeId) (E : outParam TypeId) (zs : outParam (List Value)) (s by_ : outParam Nat) : Prop where
  h : rowOf P t = some (E, zs, s, by_)
instance clearS {zs : List Value} {z : α} [ht : RowT P t E zs sz by_] [hz : ZeroE zs α f z] [hr : RowAt v σ E sz (l.map f) 0 put rest] : Stp (aHook (eClear P t (.sub v sz a n) σ) k)
    (Need (a + n ≤ l.length) (k .undef (put (.row v E sz ((l.take a ++ List.replicate n z ++ l.drop (a + n)).map f) 0)))) := ⟨fun ⟨h, hK⟩ => by
  obtain ⟨σ1, σ2, e1, e2, _⟩ := hr.at_
  refine ⟨_, ⟨E, zs, sz, by_, l.map f, σ1, σ2, ht.h, hz.one, e1, rfl, by simpa using h, rfl⟩, fun u σ' ⟨h1, h2⟩ => ?_⟩
  rw [h1, h2, ← e2, hz.eq]
  simpa [List.map_append, List.map_take, List.map_drop, List.map_replicate] using hK⟩
end parts
end Go.Ab
