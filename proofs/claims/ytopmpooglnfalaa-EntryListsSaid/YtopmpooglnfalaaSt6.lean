/- Steps (part 6): maps, walks over maps, parts of rows, clear, copy. No program in sight. -/
import Derived.Test.YtopmpooglnfalaaSt5
set_option linter.unusedVariables false
set_option linter.unusedSimpArgs false
namespace Go.Ab
variable {P : Program}

/-! what is printed -/
def aHook (X : (AV → Store → Prop) → Prop) (k : AV → Store → Prop) : Prop := ∃ post, X post ∧ ∀ u σ', post u σ' → k u σ'
def eMakeMap (σ : Store) (post : AV → Store → Prop) : Prop := post = postMake σ
def eMapUpd (P : Program) (t : TypeId) (m k v : AV) (σ : Store) (post : AV → Store → Prop) : Prop := match m, k with
    | .val (.map (some b)), .val kv => ∃ d z l clock σ1 σ2, mapOf P t = some (d, z) ∧ MapKept.IsKey d kv ∧ σ = σ1 ++ .map b l clock :: σ2 ∧ (∀ x ∈ l, MapKept.IsKey d x.2.1) ∧
        post = fun u σ' => u = .undef ∧ σ' = σ1 ++ .map b (setM kv v clock l) (bif l.any (fun x => keyb kv x.2.1) then clock else clock + 1) :: σ2
    | _, _ => False
def eRange (P : Program) (t : TypeId) (m : AV) (σ : Store) (post : AV → Store → Prop) : Prop := match m with
    | .val (.map (some mb)) => ∃ l clock, isMapT P t = true ∧ Ent.map mb l clock ∈ σ ∧ post = postRange σ mb clock
    | _ => False
def eNext (it : AV) (σ : Store) (post : AV → Store → Prop) : Prop := match it with
    | .val (.pointer (some a)) => a.spot = none ∧ a.off = 0 ∧ ∃ σ1 σ2 mb clock seen l, σ = σ1 ++ .iter a.block mb clock seen clock :: σ2 ∧ Ent.map mb l clock ∈ σ1 ++ σ2 ∧ post = postNext σ1 σ2 a.block mb clock seen l
    | _ => False
def eClear (P : Program) (t : TypeId) (x : AV) (σ : Store) (post : AV → Store → Prop) : Prop := match x with
        | .sub v sz a n => ∃ E zs s by_ l σ1 σ2, rowOf P t = some (E, zs, s, by_) ∧ (∀ z ∈ zs, z.oneCell' = true) ∧ σ = σ1 ++ .row v E sz l 0 :: σ2 ∧ s = sz ∧ a + n ≤ l.length ∧
            post = fun u σ' => u = .undef ∧ σ' = σ1 ++ .row v E sz (l.take a ++ List.replicate n (mkE (zs.map .val)) ++ l.drop (a + n)) 0 :: σ2
        | _ => False
def eCopy (P : Program) (t : TypeId) (d x : AV) (σ : Store) (post : AV → Store → Prop) : Prop := ∃ sz ys, srcP sz σ x ys ∧ copyOk P t sz d ys σ ∧ post = copyTo d ys σ
def lenMA (P : Program) (t : TypeId) (m : AV) (σ : Store) (u : AV) : Prop := isMapT P t = true ∧ lenM m σ u
def lookV (P : Program) (x : AV) (args : List AV) (σ : Store) (u : AV) : Prop := match calleeOf x with
        | some (f, a, b) => lookC P f (a ++ args ++ b) σ u
        | none => False
def aAssert (P : Program) (T : TypeId) (ok : Bool) (x u : AV) : Prop := match x with
    | .ifc t v => (match P.underlying T with | some (.interface _) => False | some _ => True | none => False) ∧ t = T ∧ u = bif ok then .tuple [v, .val (.bool true)] else v
    | _ => False

/-! frozen loads -/
section
variable {cs out : List AV} {s : Nat} {ag : Bool} {u : AV} {K : AV → Prop}
instance ldF [h : Part cs 0 s out] [h1 : MkV ag s out u] : Stp (Do (loadF ag s (.rptr cs)) K) (K u) :=
  ⟨fun hK => ⟨u, ⟨h.pos, h1.one, by have := h.le; omega, by rw [← h1.eq, ← h.eq]; rfl⟩, hK⟩⟩
end

/-! maps -/
class MapT (P : Program) (t : TypeId) (d : outParam TypeDesc) (z : outParam Value) : Prop where
  h : mapOf P t = some (d, z)
theorem MapT.is {t : TypeId} {d : TypeDesc} {z : Value} (h : MapT P t d z) : isMapT P t = true := by
  obtain ⟨k, e, hu, _⟩ := mapOf_run h.h
  unfold isMapT
  rw [hu]
class MapAt (b : Nat) (σ : Store) (l : outParam MapL) (clock : outParam Nat) (put : outParam (Ent → Store)) (rest : outParam Store) : Prop where
  at_ : ∃ σ1 σ2, σ = σ1 ++ .map b l clock :: σ2 ∧ (∀ x, put x = σ1 ++ x :: σ2) ∧ rest = σ1 ++ σ2
instance mapHead (b : Nat) (l : MapL) (clock : Nat) (σ : Store) : MapAt b (.map b l clock :: σ) l clock (fun x => x :: σ) σ := ⟨[], σ, rfl, fun _ => rfl, rfl⟩
instance (priority := 90) mapTail (b : Nat) (l : MapL) (clock : Nat) (σ rest : Store) (put : Ent → Store) (e : Ent) [h : MapAt b σ l clock put rest] : MapAt b (e :: σ) l clock (fun x => e :: put x) (e :: rest) := ⟨by
  obtain ⟨σ1, σ2, h1, h2, h3⟩ := h.at_
  exact ⟨e :: σ1, σ2, by rw [h1]; rfl, fun x => by rw [h2]; rfl, by rw [h3]; rfl⟩⟩
class IterAt (b : Nat) (σ : Store) (mb since : outParam Nat) (seen : outParam (List Nat)) (stepped : outParam Nat) (put : outParam (Ent → Store)) (rest : outParam Store) : Prop where
  at_ : ∃ σ1 σ2, σ = σ1 ++ .iter b mb since seen stepped :: σ2 ∧ (∀ x, put x = σ1 ++ x :: σ2) ∧ rest = σ1 ++ σ2
instance iterHead (b mb since stepped : Nat) (seen : List Nat) (σ : Store) : IterAt b (.iter b mb since seen stepped :: σ) mb since seen stepped (fun x => x :: σ) σ := ⟨[], σ, rfl, fun _ => rfl, rfl⟩
instance (priority := 90) iterTail (b mb since stepped : Nat) (seen : List Nat) (σ rest : Store) (put : Ent → Store) (e : Ent) [h : IterAt b σ mb since seen stepped put rest] : IterAt b (e :: σ) mb since seen stepped (fun x => e :: put x) (e :: rest) := ⟨by
  obtain ⟨σ1, σ2, h1, h2, h3⟩ := h.at_
  exact ⟨e :: σ1, σ2, by rw [h1]; rfl, fun x => by rw [h2]; rfl, by rw [h3]; rfl⟩⟩

/-- How keys are told. -/
class KeyE (κ : Type) [DecidableEq κ] (g : κ → Value) (d : outParam TypeDesc) : Prop where
  is : ∀ k, MapKept.IsKey d (g k)
  eq : ∀ a b, keyb (g a) (g b) = decide (a = b)
def keyS (l : List UInt8) : Value := .string ⟨l.toArray⟩
def keyI (n : Int) : Value := .int .i64 n
instance : KeyE (List UInt8) keyS .string := ⟨fun _ => trivial, fun a b => by simp [keyb, keyS]⟩
instance : KeyE Int keyI (.int .i64) := ⟨fun _ => rfl, fun a b => by simp [keyb, keyI]⟩
/-- A map's table, told by keys and elements. -/
def mkM {κ α : Type} (g : κ → Value) (f : α → AV) (L : List (Nat × κ × α)) : MapL := L.map fun x => (x.1, g x.2.1, f x.2.2)
def findT {κ α : Type} [DecidableEq κ] (k : κ) (L : List (Nat × κ × α)) : Option α := (L.find? fun x => decide (k = x.2.1)).map (·.2.2)
def setT {κ α : Type} [DecidableEq κ] (k : κ) (v : α) (clock : Nat) : List (Nat × κ × α) → List (Nat × κ × α)
  | [] => [(clock, k, v)]
  | x :: l => bif decide (k = x.2.1) then (x.1, x.2.1, v) :: l else x :: setT k v clock l
def hasT {κ α : Type} [DecidableEq κ] (k : κ) (L : List (Nat × κ × α)) : Bool := L.any fun x => decide (k = x.2.1)
def leftT {κ α : Type} (L : List (Nat × κ × α)) (seen : List Nat) : List (Nat × κ × α) := L.filter fun x => !seen.contains x.1
section tables
variable {κ α : Type} [DecidableEq κ] {g : κ → Value} {f : α → AV} {d : TypeDesc}
theorem findM_mk (hk : KeyE κ g d) (k : κ) (L : List (Nat × κ × α)) : findM (g k) (mkM g f L) = (findT k L).map f := by
  unfold findM findT mkM
  rw [List.find?_map]
  simp only [Option.map_map]
  have e : ((fun x : Nat × Value × AV => keyb (g k) x.2.1) ∘ fun x : Nat × κ × α => (x.1, g x.2.1, f x.2.2)) = fun x => decide (k = x.2.1) := by
    funext x
    simp [hk.eq]
  rw [e]
  rfl
theorem setM_mk (hk : KeyE κ g d) (k : κ) (v : α) (clock : Nat) : ∀ L : List (Nat × κ × α), setM (g k) (f v) clock (mkM g f L) = mkM g f (setT k v clock L)
  | [] => rfl
  | x :: L => by
    have ih := setM_mk hk k v clock L
    simp only [mkM, List.map_cons, setM, hk.eq, setT] at ih ⊢
    cases decide (k = x.2.1) with
    | true => simp
    | false => simp [ih]
theorem any_mk (hk : KeyE κ g d) (k : κ) (L : List (Nat × κ × α)) : (mkM g f L).any (fun x => keyb (g k) x.2.1) = hasT k L := by
  unfold mkM hasT
  rw [List.any_map]
  congr 1
  funext x
  simp [hk.eq]
theorem keys_mk (hk : KeyE κ g d) (L : List (Nat × κ × α)) : ∀ x ∈ mkM g f L, MapKept.IsKey d x.2.1 := by
  intro x hx
  obtain ⟨y, _, rfl⟩ := List.mem_map.1 hx
  exact hk.is _
end tables
theorem left_mk {κ α : Type} {g : κ → Value} {f : α → AV} (L : List (Nat × κ × α)) (seen : List Nat) : leftM (mkM g f L) seen = mkM g f (leftT L seen) := by
  unfold leftM mkM leftT
  rw [List.filter_map]
  rfl
theorem leftT_mem {κ α : Type} {L : List (Nat × κ × α)} {seen : List Nat} {x : Nat × κ × α} (h : x ∈ leftT L seen) : x ∈ L := (List.mem_filter.1 h).1
class AsKey {κ : Type} (g : κ → Value) (v : Value) (k : outParam κ) : Prop where
  eq : v = g k
instance (l : List UInt8) : AsKey keyS (.string ⟨l.toArray⟩) l := ⟨rfl⟩
instance (n : Int) : AsKey keyI (.int .i64 n) n := ⟨rfl⟩
class ZeroV {α : Type} (f : α → AV) (z : Value) (o : outParam α) : Prop where
  eq : ofV z = f o
def Hyp (φ H : Prop) : Prop := φ ∧ H
theorem hyp {φ H : Prop} (h : φ) (k : H) : Hyp φ H := ⟨h, k⟩
section maps
variable {κ α : Type} [DecidableEq κ] {g : κ → Value} {f : α → AV} {d : TypeDesc} {z kv : Value} {o y : α} {k : κ} {t : TypeId} {b mb r clock : Nat} {L : List (Nat × κ × α)} {σ rest : Store} {put : Ent → Store} {K : AV → Prop} {kk : AV → Store → Prop} {v : AV} {seen : List Nat}
instance makeM_ : Stp (aHook (eMakeMap σ) kk) (All fun b => kk (.val (.map (some b))) (.map b [] 0 :: σ)) := ⟨fun h => ⟨_, rfl, fun u σ' ⟨b, h1, h2⟩ => by rw [h1, h2]; exact h b⟩⟩
instance updM_ [hm : MapAt b σ (mkM g f L) clock put rest] [ht : MapT P t d z] [hk : KeyE κ g d] [ha : AsKey g kv k] [hv : AsF f v y] : Stp (aHook (eMapUpd P t (.val (.map (some b))) (.val kv) v σ) kk)
    (kk .undef (put (.map b (mkM g f (setT k y clock L)) (bif hasT k L then clock else clock + 1)))) := ⟨fun h => by
  obtain ⟨σ1, σ2, e1, e2, _⟩ := hm.at_
  have hd := hk.is k
  refine ⟨_, ⟨d, z, mkM g f L, clock, σ1, σ2, ht.h, by rw [ha.eq]; exact hd, e1, keys_mk hk L, rfl⟩, fun u σ' ⟨h1, h2⟩ => ?_⟩
  rw [h1, h2, ha.eq, hv.eq, setM_mk hk, any_mk hk, ← e2]
  exact h⟩
instance lookM_ [hm : MapAt b σ (mkM g f L) clock put rest] [ht : MapT P t d z] [hk : KeyE κ g d] [ha : AsKey g kv k] [hz : ZeroV f z o] : Stp (Do (lookA P t true (.val (.map (some b))) (.val kv) σ) K)
    (K (.tuple [f ((findT k L).getD o), .val (.bool (findT k L).isSome)])) := ⟨fun h => by
  obtain ⟨σ1, σ2, e1, _⟩ := hm.at_
  refine ⟨_, ⟨d, z, mkM g f L, clock, ht.h, by rw [ha.eq]; exact hk.is k, by rw [e1]; simp, keys_mk hk L, rfl⟩, ?_⟩
  rw [ha.eq, findM_mk hk, hz.eq]
  have e : ((findT k L).map f).getD (f o) = f ((findT k L).getD o) := by cases findT k L <;> rfl
  simp only [cond_true, Option.isSome_map, e]
  exact h⟩
instance lookM1_ [hm : MapAt b σ (mkM g f L) clock put rest] [ht : MapT P t d z] [hk : KeyE κ g d] [ha : AsKey g kv k] [hz : ZeroV f z o] : Stp (Do (lookA P t false (.val (.map (some b))) (.val kv) σ) K)
    (K (f ((findT k L).getD o))) := ⟨fun h => by
  obtain ⟨σ1, σ2, e1, _⟩ := hm.at_
  refine ⟨_, ⟨d, z, mkM g f L, clock, ht.h, by rw [ha.eq]; exact hk.is k, by rw [e1]; simp, keys_mk hk L, rfl⟩, ?_⟩
  rw [ha.eq, findM_mk hk, hz.eq]
  have e : ((findT k L).map f).getD (f o) = f ((findT k L).getD o) := by cases findT k L <;> rfl
  simp only [cond_false, e]
  exact h⟩
instance lenM_ [hm : MapAt b σ (mkM g f L) clock put rest] [ht : MapT P t d z] : Stp (Do (lenMA P t (.val (.map (some b))) σ) K) (K (.val (.int .i64 ((L.length : Nat) : Int)))) := ⟨fun h => by
  obtain ⟨σ1, σ2, e1, _⟩ := hm.at_
  exact ⟨_, ⟨ht.is, mkM g f L, clock, by rw [e1]; simp, rfl⟩, by simpa [mkM] using h⟩⟩
instance rangeM_ {l : MapL} [hm : MapAt mb σ l clock put rest] [ht : MapT P t d z] : Stp (aHook (eRange P t (.val (.map (some mb))) σ) kk) (All fun b => kk (ptrAt b 0) (.iter b mb clock [] clock :: σ)) := ⟨fun h => by
  obtain ⟨σ1, σ2, e1, _⟩ := hm.at_
  exact ⟨_, ⟨l, clock, ht.is, by rw [e1]; simp, rfl⟩, fun u σ' ⟨b, h1, h2⟩ => by rw [h1, h2]; exact h b⟩⟩
instance nextM_ {put' : Ent → Store} {rest' : Store} [hi : IterAt r σ mb clock seen clock put rest] [hm : MapAt mb rest (mkM g f L) clock put' rest'] : Stp (aHook (eNext (ptrAt r 0) σ) kk)
    (Both (Imp (leftT L seen = []) (kk (.tuple [.val (.bool false)]) (put (.iter r mb clock seen clock)))) (All fun x : Nat × κ × α => Imp (x ∈ leftT L seen) (kk (.tuple [.val (.bool true), .val (g x.2.1), f x.2.2]) (put (.iter r mb clock (seen ++ [x.1]) clock))))) := ⟨fun h => by
  obtain ⟨σ1, σ2, e1, e2, e3⟩ := hi.at_
  obtain ⟨τ1, τ2, f1, _⟩ := hm.at_
  refine ⟨_, ⟨rfl, rfl, σ1, σ2, mb, clock, seen, mkM g f L, e1, by rw [← e3, f1]; simp, rfl⟩, fun u σ' hp => ?_⟩
  rcases hp with ⟨h1, h2, h3⟩ | ⟨x, h1, h2, h3⟩
  · rw [left_mk] at h1
    have h1' : leftT L seen = [] := by simpa [mkM] using h1
    rw [h2, h3, ← e2]
    exact h.1 h1'
  · rw [left_mk] at h1
    obtain ⟨y, hy, rfl⟩ := List.mem_map.1 h1
    rw [h2, h3, ← e2]
    exact h.2 y hy⟩
instance entryM_ {put' : Ent → Store} {rest' : Store} {x : Nat × κ × α} [hi : IterAt r σ mb clock (seen ++ [x.1]) clock put rest] [hm : MapAt mb rest (mkM g f L) clock put' rest'] : Stp (Do (entryA (ptrAt r 0) σ) K) (Hyp (x ∈ L) (K (.tuple [.val (g x.2.1), f x.2.2]))) := ⟨fun ⟨hx, hK⟩ => by
  obtain ⟨σ1, σ2, e1, e2, e3⟩ := hi.at_
  obtain ⟨τ1, τ2, f1, _⟩ := hm.at_
  refine ⟨_, ⟨rfl, rfl, mb, clock, seen, x.1, clock, mkM g f L, (x.1, g x.2.1, f x.2.2), by rw [e1]; simp, ?_, List.mem_map.2 ⟨x, hx, rfl⟩, rfl, rfl⟩, hK⟩
  have hmem : Ent.map mb (mkM g f L) clock ∈ σ1 ++ σ2 := by rw [← e3, f1]; simp
  rw [e1]
  rcases List.mem_append.1 hmem with h | h
  · exact List.mem_append_left _ h
  · exact List.mem_append_right _ (List.mem_cons_of_mem _ h)⟩
end maps
instance : ZeroV En.av (.agg #[.string ⟨#[]⟩, .string ⟨#[]⟩, .bool false, .int .i64 0]) En.zero := ⟨rfl⟩

/-! parts of rows -/
section parts
variable {α : Type} {f : α → AV} {sz s n a b c : Nat} {l ys : List α} {t E : TypeId} {σ rest : Store} {put : Ent → Store} {K : AV → Prop} {k : AV → Store → Prop} {v : Value} {x y : Int} {kk kk' : IntKind} {fl : Nat}
instance slO [h : NatOf x a] [h' : NatOf y b] : Stp (Do (aSlice .slice sz (.own v n) (some (.val (.int kk x))) (some (.val (.int kk' y))) none) K) (Need (a ≤ b ∧ b ≤ n) (K (.sub v sz a (b - a)))) :=
  ⟨fun ⟨h1, h2⟩ => ⟨_, ⟨by rw [h.eq]; omega, by rw [h.eq, h'.eq]; omega, by rw [h'.eq]; omega, rfl⟩, by
    have e1 : x.toNat = a := by rw [h.eq]; simp
    have e2 : (y - x).toNat = b - a := by rw [h.eq, h'.eq]; omega
    rw [e1, e2]; exact h2⟩⟩
instance slO1 [h : NatOf x a] : Stp (Do (aSlice .slice sz (.own v n) (some (.val (.int kk x))) none none) K) (Need (a ≤ n) (K (.sub v sz a (n - a)))) :=
  ⟨fun ⟨h1, h2⟩ => ⟨_, ⟨by rw [h.eq]; omega, by rw [h.eq]; omega, Int.le_refl _, rfl⟩, by
    have e1 : x.toNat = a := by rw [h.eq]; simp
    have e2 : ((n : Int) - x).toNat = n - a := by rw [h.eq]; omega
    rw [e1, e2]; exact h2⟩⟩
instance slO2 [h' : NatOf y b] : Stp (Do (aSlice .slice sz (.own v n) none (some (.val (.int kk' y))) none) K) (Need (b ≤ n) (K (.sub v sz 0 b))) :=
  ⟨fun ⟨h1, h2⟩ => ⟨_, ⟨Int.le_refl _, by rw [h'.eq]; omega, by rw [h'.eq]; omega, rfl⟩, by
    have e2 : (y - 0).toNat = b := by rw [h'.eq]; omega
    rw [e2]; exact h2⟩⟩
instance slO0 : Stp (Do (aSlice .slice sz (.own v n) none none none) K) (K (.sub v sz 0 n)) :=
  ⟨fun h2 => ⟨_, ⟨Int.le_refl _, by omega, Int.le_refl _, rfl⟩, by
    have e2 : ((n : Int) - 0).toNat = n := by omega
    rw [e2]; exact h2⟩⟩
instance slP [hp : Pos sz] [h : NatOf x a] [h' : NatOf y b] : Stp (Do (aSlice .slice sz (.sub v sz c n) (some (.val (.int kk x))) (some (.val (.int kk' y))) none) K) (Need (a ≤ b ∧ b ≤ n) (K (.sub v sz (c + a) (b - a)))) :=
  ⟨fun ⟨h1, h2⟩ => ⟨_, ⟨rfl, hp.pos, by rw [h.eq]; omega, by rw [h.eq, h'.eq]; omega, by rw [h'.eq]; omega, rfl⟩, by
    have e1 : x.toNat = a := by rw [h.eq]; simp
    have e2 : (y - x).toNat = b - a := by rw [h.eq, h'.eq]; omega
    rw [e1, e2]; exact h2⟩⟩
instance slP1 [hp : Pos sz] [h : NatOf x a] : Stp (Do (aSlice .slice sz (.sub v sz c n) (some (.val (.int kk x))) none none) K) (Need (a ≤ n) (K (.sub v sz (c + a) (n - a)))) :=
  ⟨fun ⟨h1, h2⟩ => ⟨_, ⟨rfl, hp.pos, by rw [h.eq]; omega, by rw [h.eq]; omega, Int.le_refl _, rfl⟩, by
    have e1 : x.toNat = a := by rw [h.eq]; simp
    have e2 : ((n : Int) - x).toNat = n - a := by rw [h.eq]; omega
    rw [e1, e2]; exact h2⟩⟩
instance slP2 [hp : Pos sz] [h' : NatOf y b] : Stp (Do (aSlice .slice sz (.sub v sz c n) none (some (.val (.int kk' y))) none) K) (Need (b ≤ n) (K (.sub v sz c b))) :=
  ⟨fun ⟨h1, h2⟩ => ⟨_, ⟨rfl, hp.pos, Int.le_refl _, by rw [h'.eq]; omega, by rw [h'.eq]; omega, rfl⟩, by
    have e2 : (y - 0).toNat = b := by rw [h'.eq]; omega
    have e3 : c + (0 : Int).toNat = c := rfl
    rw [e2, e3]; exact h2⟩⟩
instance lenP [h : SlT P t] : Stp (Do (aBuiltin P .len #[t] [.sub v sz a n]) K) (K (.val (.int .i64 ((n : Nat) : Int)))) := ⟨fun hK => ⟨_, ⟨⟨t, rfl, isSl_run h.h⟩, rfl⟩, hK⟩⟩
instance ixP [h : NatOf x b] : Stp (Do (aIndexAddr .slice sz (.sub v sz a n) (.val (.int kk x))) K) (Need (b < n) (K (.eptr v sz (a + b) 0))) :=
  ⟨fun ⟨h1, h2⟩ => ⟨_, ⟨rfl, by rw [h.eq]; omega, by rw [h.eq]; omega, rfl⟩, by rw [h.eq, Int.toNat_natCast]; exact h2⟩⟩
class SubIn (a n m : Nat) : Prop where
  le : a + n ≤ m
end parts
end Go.Ab
