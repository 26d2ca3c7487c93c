/- A logic over abstract states (part 19): entries as variables; where ways meet. -/
import Derived.Test.YtopmpooglnfalaaAb17
import Derived.Test.YtopmpooglnfalaaAb18
set_option linter.unusedVariables false
set_option linter.unusedSimpArgs false
namespace Go.Ab
variable {P : Program}

theorem s_join {x : (List AV → Store → Prop) → Prop} {y : List AV → Store → Prop} (h : x fun vs σ => ∃ vs' τ, Sub σ vs τ vs' ∧ y vs' τ) : aJoin x y := ⟨y, h, fun _ _ h => h⟩
theorem s_joinJ (J : List AV → Store → Prop) {x : (List AV → Store → Prop) → Prop} {y : List AV → Store → Prop} (h : x fun vs σ => ∃ vs' τ, Sub σ vs τ vs' ∧ J vs' τ) (hJ : ∀ vs σ, J vs σ → y vs σ) : aJoin x y := ⟨J, h, hJ⟩
def En.zero : En := ⟨[], [], false, 0⟩
theorem s_newE {t : TypeId} {σ : Store} {k : AV → Store → Prop} (hk : ∀ b, b ∉ blks σ → k (ptrTo b) (.var b t En.zero.cs :: σ)) : aNewVar t [.val (.string ⟨#[]⟩), .val (.string ⟨#[]⟩), .val (.bool false), .val (.int .i64 0)] σ k :=
  ⟨by simp [AV.one, Value.oneCell'], hk⟩
theorem cs_len (e : En) : e.cs.length = 4 := rfl
theorem splice_all {cs new : List AV} (h : new.length = cs.length) : splice cs 0 new = new := by
  unfold splice
  simp [h]
theorem s_stEn {b : Nat} {t : TypeId} {e f : En} {σ1 σ2 : Store} {k : AV → Store → Prop} (hk : k .undef (σ1 ++ .var b t f.cs :: σ2)) : storeA 4 (ptrTo b) f.av (σ1 ++ .var b t e.cs :: σ2) k :=
  s_stV (told_En f).1 (told_En f).2 (by simp [cs_len]) (by rw [splice_all (by simp [En.av, AV.cells, cs_len])]; exact hk)
theorem s_stEn0 {b : Nat} {t : TypeId} {e f : En} {σ : Store} {k : AV → Store → Prop} (hk : k .undef (.var b t f.cs :: σ)) : storeA 4 (ptrTo b) f.av (.var b t e.cs :: σ) k := s_stEn (σ1 := []) hk
theorem s_stK0 {b : Nat} {t : TypeId} {e : En} {x : List UInt8} {σ : Store} {k : AV → Store → Prop} (hk : k .undef (.var b t (En.cs ⟨x, e.val, e.del, e.seq⟩) :: σ)) : storeA 1 (.val (.pointer (some ⟨b, 0, none⟩))) (.val (.string ⟨x.toArray⟩)) (.var b t e.cs :: σ) k :=
  s_stV (σ1 := []) rfl (by simp [AV.cells, AV.one, Value.oneCell']) (by simp [cs_len]) hk
theorem s_stV0 {b : Nat} {t : TypeId} {e : En} {x : List UInt8} {σ : Store} {k : AV → Store → Prop} (hk : k .undef (.var b t (En.cs ⟨e.key, x, e.del, e.seq⟩) :: σ)) : storeA 1 (.val (.pointer (some ⟨b, 1, none⟩))) (.val (.string ⟨x.toArray⟩)) (.var b t e.cs :: σ) k :=
  s_stV (σ1 := []) rfl (by simp [AV.cells, AV.one, Value.oneCell']) (by simp [cs_len]) hk
theorem s_stD0 {b : Nat} {t : TypeId} {e : En} {x : Bool} {σ : Store} {k : AV → Store → Prop} (hk : k .undef (.var b t (En.cs ⟨e.key, e.val, x, e.seq⟩) :: σ)) : storeA 1 (.val (.pointer (some ⟨b, 2, none⟩))) (.val (.bool x)) (.var b t e.cs :: σ) k :=
  s_stV (σ1 := []) rfl (by simp [AV.cells, AV.one, Value.oneCell']) (by simp [cs_len]) hk
theorem s_stS0 {b : Nat} {t : TypeId} {e : En} {x : Int} {σ : Store} {k : AV → Store → Prop} (hk : k .undef (.var b t (En.cs ⟨e.key, e.val, e.del, x⟩) :: σ)) : storeA 1 (.val (.pointer (some ⟨b, 3, none⟩))) (.val (.int .i64 x)) (.var b t e.cs :: σ) k :=
  s_stV (σ1 := []) rfl (by simp [AV.cells, AV.one, Value.oneCell']) (by simp [cs_len]) hk
theorem s_ldVE {b : Nat} {t : TypeId} {e : En} {σ : Store} {K : AV → Prop} (hm : Ent.var b t e.cs ∈ σ) (hK : K e.av) : ∃ u, loadA true 4 (ptrTo b) σ u ∧ K u := s_ldV hm (by decide) (by decide) (by simp [cs_len]) hK
theorem s_ldV0 {b : Nat} {t : TypeId} {e : En} {σ : Store} {K : AV → Prop} (hm : Ent.var b t e.cs ∈ σ) (hK : K (S e.key)) : ∃ u, loadA false 1 (.val (.pointer (some ⟨b, 0, none⟩))) σ u ∧ K u := s_ldV hm (by decide) (by decide) (by simp [cs_len]) hK
theorem s_ldV1 {b : Nat} {t : TypeId} {e : En} {σ : Store} {K : AV → Prop} (hm : Ent.var b t e.cs ∈ σ) (hK : K (S e.val)) : ∃ u, loadA false 1 (.val (.pointer (some ⟨b, 1, none⟩))) σ u ∧ K u := s_ldV hm (by decide) (by decide) (by simp [cs_len]) hK
theorem s_ldV2 {b : Nat} {t : TypeId} {e : En} {σ : Store} {K : AV → Prop} (hm : Ent.var b t e.cs ∈ σ) (hK : K (B e.del)) : ∃ u, loadA false 1 (.val (.pointer (some ⟨b, 2, none⟩))) σ u ∧ K u := s_ldV hm (by decide) (by decide) (by simp [cs_len]) hK
theorem s_ldV3 {b : Nat} {t : TypeId} {e : En} {σ : Store} {K : AV → Prop} (hm : Ent.var b t e.cs ∈ σ) (hK : K (I .i64 e.seq)) : ∃ u, loadA false 1 (.val (.pointer (some ⟨b, 3, none⟩))) σ u ∧ K u := s_ldV hm (by decide) (by decide) (by simp [cs_len]) hK
theorem s_faP0 {b : Nat} {K : AV → Prop} (hK : K (.val (.pointer (some ⟨b, 0, none⟩)))) : ∃ u, aFieldAddr 0 1 (ptrTo b) u ∧ K u := s_faV (o := 0) (by decide) hK
theorem s_faP1 {b : Nat} {K : AV → Prop} (hK : K (.val (.pointer (some ⟨b, 1, none⟩)))) : ∃ u, aFieldAddr 1 1 (ptrTo b) u ∧ K u := s_faV (o := 0) (by decide) hK
theorem s_faP2 {b : Nat} {K : AV → Prop} (hK : K (.val (.pointer (some ⟨b, 2, none⟩)))) : ∃ u, aFieldAddr 2 1 (ptrTo b) u ∧ K u := s_faV (o := 0) (by decide) hK
theorem s_faP3 {b : Nat} {K : AV → Prop} (hK : K (.val (.pointer (some ⟨b, 3, none⟩)))) : ∃ u, aFieldAddr 3 1 (ptrTo b) u ∧ K u := s_faV (o := 0) (by decide) hK
/-- Literals of entries. -/
theorem s_lit1E {e : En} {K : AV → Prop} (hK : K (.lst 4 ([e].map En.av) .full)) : ∃ u, aSlLit (mkE [.val (.string ⟨#[]⟩), .val (.string ⟨#[]⟩), .val (.bool false), .val (.int .i64 0)]) 4 1 [(0, e.av)] u ∧ K u :=
  s_lit [e.av] rfl rfl rfl (by simp [(told_En e).1]) (by intro p hp; simp at hp; subst hp; exact (told_En e).2) hK
theorem s_lit0E {K : AV → Prop} (hK : K (.lst 4 (([] : List En).map En.av) .full)) : ∃ u, aSlLit (mkE [.val (.string ⟨#[]⟩), .val (.string ⟨#[]⟩), .val (.bool false), .val (.int .i64 0)]) 4 0 [] u ∧ K u :=
  s_lit [] rfl rfl rfl (by simp) (by simp) hK
theorem s_app_own1 {α : Type} {f : α → AV} {E : TypeId} {sz by_ : Nat} {l ys : List α} {x : AV} {v : Value} {n fl : Nat} {e : Ent} {σ : Store} {k : AV → Store → Prop} (hs : Src f sz (e :: .row v E sz (l.map f) fl :: σ) x ys) (hb : (l.length + ys.length) * by_ ≤ 140737488355328) (hm : l.length + ys.length ≤ 9223372036854775807)
    (hk : ∀ v, k (.own v (l ++ ys).length) (e :: .row v E sz ((l ++ ys).map f) fl :: σ)) : aAppend E sz by_ (.own v n) x (e :: .row v E sz (l.map f) fl :: σ) k :=
  s_app_own (σ1 := [e]) hs hb hm hk
/-! ### Lists that a call hands back -/
def RetL {α : Type} (f : α → AV) (sz : Nat) (l : List α) (τ : Store) : AEnd → Store → Prop := fun x σ' => ∃ m, x = .ret (.lst sz (l.map f) m) ∧ σ' = τ
def RetG {α : Type} (f : α → AV) (E : TypeId) (sz : Nat) (l : List α) (τ : Store) : AEnd → Store → Prop := fun x σ' => (x = .ret (.val (.slice none 0 0)) ∧ l = [] ∧ σ' = τ) ∨ ∃ v n, x = .ret (.own v n) ∧ σ' = .row v E sz (l.map f) 0 :: τ
theorem RetG.lst {α : Type} {f : α → AV} {E : TypeId} {sz : Nat} {l : List α} {τ : Store} (hz : 0 < sz) {g : FuncId} {args : List AV} (h : ACalls P g args τ (RetG f E sz l τ)) : ACalls P g args τ (RetL f sz l τ) := by
  refine h.sub fun x σ' hx => ?_
  rcases hx with ⟨rfl, rfl, rfl⟩ | ⟨v, n, rfl, rfl⟩
  · exact ⟨_, .lst sz [] .nil, _, rfl, Sub.vals ⟨SubV.nil sz hz, trivial⟩, .nil, rfl, rfl⟩
  · exact ⟨_, .lst sz (l.map f) .ro, τ, rfl, Sub.freeze0 ⟨.inr ⟨⟨_, rfl⟩, rfl⟩, trivial⟩, .ro, rfl, rfl⟩
end Go.Ab
