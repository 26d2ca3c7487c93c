/- A logic over abstract states (part 20): rows that may still be nil. -/
import Derived.Test.YtopmpooglnfalaaAb19
set_option linter.unusedVariables false
set_option linter.unusedSimpArgs false
namespace Go.Ab
variable {P : Program}

/-- A growable row, or nil. -/
def Gr {α : Type} (f : α → AV) (E : TypeId) (sz : Nat) (b : AV) (L : List α) (σ : Store) : Prop := (b = .val (.slice none 0 0) ∧ L = [] ∧ σ = []) ∨ ∃ v, b = .own v L.length ∧ σ = [.row v E sz (L.map f) 0]
theorem Gr.nil {α : Type} {f : α → AV} {E : TypeId} {sz : Nat} : Gr f E sz (.val (.slice none 0 0)) ([] : List α) [] := .inl ⟨rfl, rfl, rfl⟩
theorem Gr.own {α : Type} {f : α → AV} {E : TypeId} {sz : Nat} {v : Value} {n : Nat} {L : List α} (h : n = L.length) : Gr f E sz (.own v n) L [.row v E sz (L.map f) 0] := .inr ⟨v, by rw [h], rfl⟩
theorem Frzs.refl (v : Value) (L : AV) : ∀ us : List AV, Frzs v L us us
  | [] => trivial
  | u :: us => ⟨.inl rfl, Frzs.refl v L us⟩
/-- Handed over as the first argument it is told as memory that turns no more. -/
theorem Gr.sub {α : Type} {f : α → AV} {E : TypeId} {sz : Nat} (hz : 0 < sz) {b : AV} {L : List α} {σ : Store} (h : Gr f E sz b L σ) {τ rest : Store} (hp : τ.Perm (σ ++ rest)) (args : List AV) : ∃ m, Sub τ (b :: args) rest (.lst sz (L.map f) m :: args) := by
  rcases h with ⟨rfl, rfl, rfl⟩ | ⟨v, rfl, rfl⟩
  · refine ⟨.nil, (Sub.less (Less.perm hp) _).trans (Sub.vals ⟨SubV.nil sz hz, SubVs.refl _⟩)⟩
  · refine ⟨.ro, (Sub.less (Less.perm hp) _).trans (Sub.freeze0 ⟨.inr ⟨⟨_, rfl⟩, rfl⟩, Frzs.refl _ _ _⟩)⟩
theorem Gr.len {α : Type} {f : α → AV} {E : TypeId} {sz : Nat} {b : AV} {L : List α} {σ : Store} (h : Gr f E sz b L σ) {t : TypeId} (ht : isSl P t = true) {K : AV → Prop} (hK : K (.val (.int .i64 L.length))) : ∃ u, aBuiltin P .len #[t] [b] u ∧ K u := by
  rcases h with ⟨rfl, rfl, rfl⟩ | ⟨v, rfl, rfl⟩
  · exact s_len_nil ht hK
  · exact s_len_own ht hK
theorem Gr.src {α : Type} {f : α → AV} {E : TypeId} {sz : Nat} (hf : Told f sz) {b : AV} {L : List α} {σ τ : Store} (h : Gr f E sz b L σ) (hs : ∀ e ∈ σ, e ∈ τ) : Src f sz τ b L := by
  rcases h with ⟨rfl, rfl, rfl⟩ | ⟨v, rfl, rfl⟩
  · exact src_nil
  · exact src_own hf (hs _ (List.mem_cons_self))

theorem Gr.app {α : Type} {f : α → AV} {E : TypeId} {sz by_ : Nat} {b x : AV} {L ys : List α} {σ rest : Store} {k : AV → Store → Prop} (h : Gr f E sz b L σ) (hs : Src f sz (σ ++ rest) x ys) (hb : (L.length + ys.length) * by_ ≤ 140737488355328) (hm : L.length + ys.length ≤ 9223372036854775807)
    (hk : ∀ v, k (.own v (L ++ ys).length) (.row v E sz ((L ++ ys).map f) 0 :: rest)) : aAppend E sz by_ b x (σ ++ rest) k := by
  rcases h with ⟨rfl, rfl, rfl⟩ | ⟨v, rfl, rfl⟩
  · exact s_app_nil hs (by simpa using hb) (by simpa using hm) hk
  · exact s_app_own0 hs hb hm hk
/-! ### Elements of rows -/
theorem s_ixo {sz : Nat} {v : Value} {n : Nat} {k : IntKind} {i : Int} {K : AV → Prop} (h0 : 0 ≤ i) (h1 : i < n) (hK : K (.eptr v sz i.toNat 0)) : ∃ u, aIndexAddr .slice sz (.own v n) (.val (.int k i)) u ∧ K u := ⟨_, ⟨h0, h1, rfl⟩, hK⟩
/-- A byte of a row is written. -/
theorem s_stB {v : Value} {E : TypeId} {l : List UInt8} {i fl : Nat} {x : Int} {σ1 σ2 : Store} {k : AV → Store → Prop} (h0 : 0 ≤ x) (h1 : x < 256) (hf : fl ≤ i) (hi : i < l.length) (hk : k .undef (σ1 ++ .row v E 1 ((l.set i (UInt8.ofNat x.toNat)).map byt) fl :: σ2)) :
    storeA 1 (.eptr v 1 i 0) (.val (.int .u8 x)) (σ1 ++ .row v E 1 (l.map byt) fl :: σ2) k := by
  have hg : (l.map byt).getD i .undef = byt (l.getD i default) := getD_map default hi
  refine ⟨rfl, by simp [AV.cells, AV.one, Value.oneCell'], σ1, σ2, E, l.map byt, fl, rfl, hf, by simpa using hi, by omega, ?_, ?_⟩
  · rw [hg]; simp [byt, AV.cells, AV.one, Value.oneCell']
  · rw [hg]
    have e : mkE (splice (byt (l.getD i default)).cells 0 (AV.val (Value.int .u8 x)).cells) = byt (UInt8.ofNat x.toNat) := by
      rw [← byt_of h0 h1]; rfl
    rw [e, ← List.map_set]
    exact hk
end Go.Ab
