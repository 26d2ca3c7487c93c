/- Steps (part 3): memory: strings, slices, variables, rows, append. No program in sight. -/
import Derived.Test.YtopmpooglnfalaaSt2
set_option linter.unusedVariables false
set_option linter.unusedSimpArgs false
namespace Go.Ab
variable {P : Program}

/-! cells -/
class Cells (u : AV) (cs : outParam (List AV)) : Prop where
  eq : u.cells = cs
instance (v : Value) : Cells (.val v) [.val v] := ⟨rfl⟩
instance (sz : Nat) (l : List AV) (m : SM) : Cells (.lst sz l m) [.lst sz l m] := ⟨rfl⟩
instance (cs : List AV) : Cells (.rptr cs) [.rptr cs] := ⟨rfl⟩
instance (v : Value) (n : Nat) : Cells (.own v n) [.own v n] := ⟨rfl⟩
instance (v : Value) (a b c : Nat) : Cells (.eptr v a b c) [.eptr v a b c] := ⟨rfl⟩
instance (f : Fn) (a b : List AV) : Cells (.fn f a b) [.fn f a b] := ⟨rfl⟩
instance (t : TypeId) (u : AV) : Cells (.ifc t u) [.ifc t u] := ⟨rfl⟩
instance (b : UInt8) : Cells (byt b) [byt b] := ⟨rfl⟩
instance (cs : List AV) : Cells (.agg cs) cs := ⟨rfl⟩
class One (c : AV) : Prop where
  one : c.one = true
instance (k : IntKind) (n : Int) : One (.val (.int k n)) := ⟨rfl⟩
instance (b : Bool) : One (.val (.bool b)) := ⟨rfl⟩
instance (b : ByteArray) : One (.val (.string b)) := ⟨rfl⟩
instance (a : Option Addr) (n c : Nat) : One (.val (.slice a n c)) := ⟨rfl⟩
instance (a : Option Addr) : One (.val (.pointer a)) := ⟨rfl⟩
instance (sz : Nat) (l : List AV) (m : SM) : One (.lst sz l m) := ⟨rfl⟩
instance (cs : List AV) : One (.rptr cs) := ⟨rfl⟩
instance (v : Value) (n : Nat) : One (.own v n) := ⟨rfl⟩
instance (v : Value) (a b c : Nat) : One (.eptr v a b c) := ⟨rfl⟩
instance (f : Fn) (a b : List AV) : One (.fn f a b) := ⟨rfl⟩
instance (t : TypeId) (u : AV) : One (.ifc t u) := ⟨rfl⟩
instance (b : UInt8) : One (byt b) := ⟨rfl⟩
class Ones (cs : List AV) : Prop where
  ones : ∀ c ∈ cs, c.one = true
instance : Ones [] := ⟨by simp⟩
instance (c : AV) (cs : List AV) [h : One c] [k : Ones cs] : Ones (c :: cs) := ⟨by
  intro x hx
  rcases List.mem_cons.1 hx with rfl | hx
  · exact h.one
  · exact k.ones x hx⟩
instance (a b : List AV) [h : Ones a] [k : Ones b] : Ones (a ++ b) := ⟨by
  intro x hx
  rcases List.mem_append.1 hx with hx | hx
  · exact h.ones x hx
  · exact k.ones x hx⟩
/-- Each is told in so many cells. -/
class Enc {α : Type} (f : α → AV) (sz : outParam Nat) : Prop where
  told : Told f sz
  pos : 0 < sz
  mke : ∀ a, mkE (f a).cells = f a
instance : Enc byt 1 := ⟨told_byt, by decide, fun _ => rfl⟩
instance (l : List UInt8) : Ones (l.map byt) := ⟨by
  intro c hc
  obtain ⟨b, _, rfl⟩ := List.mem_map.1 hc
  rfl⟩
/-- What a list of values of zero is told as. -/
class FoldC (zs : List AV) (out : outParam (List AV)) : Prop where
  eq : zs = out
instance (priority := 10) (zs : List AV) : FoldC zs zs := ⟨rfl⟩

/-! what the table says of types -/
class SlT (P : Program) (t : TypeId) : Prop where
  h : isSl P t = true
class StrT (P : Program) (t : TypeId) : Prop where
  h : P.underlying t = some .string

/-! a list of things -/
/-- It may be told as a list. -/
class IsL {α : Type} (a : AV) (f : α → AV) (sz : Nat) (l : outParam (List α)) (m : outParam SM) : Prop where
  sub : SubV a (.lst sz (l.map f) m)
instance {α : Type} (f : α → AV) (sz : Nat) (l : List α) (m : SM) : IsL (.lst sz (l.map f) m) f sz l m := ⟨SubV.refl _⟩
instance {α : Type} (f : α → AV) (sz : Nat) [hz : Enc f sz] : IsL (.val (.slice none 0 0)) f sz ([] : List α) .nil := ⟨SubV.nil sz hz.pos⟩

section lists
variable {α : Type} {f : α → AV} {sz : Nat} {l : List α} {L : List UInt8} {m : SM} {t : TypeId} {K : AV → Prop} {v : Value} {n a b c : Nat} {x y z : Int} {k k' k'' : IntKind}
instance lenL [h : SlT P t] : Stp (Do (aBuiltin P .len #[t] [.lst sz (l.map f) m]) K) (K (.val (.int .i64 ((l.length : Nat) : Int)))) := ⟨fun hK => s_lenm h.h hK⟩
instance lenO [h : SlT P t] : Stp (Do (aBuiltin P .len #[t] [.own v n]) K) (K (.val (.int .i64 ((n : Nat) : Int)))) := ⟨fun hK => s_len_own h.h hK⟩
instance lenN [h : SlT P t] : Stp (Do (aBuiltin P .len #[t] [.val (.slice none 0 0)]) K) (K (.val (.int .i64 ((0 : Nat) : Int)))) := ⟨fun hK => s_len_nil h.h hK⟩
instance lenS [h : StrT P t] : Stp (Do (aBuiltin P .len #[t] [.val (.string ⟨L.toArray⟩)]) K) (K (.val (.int .i64 ((L.length : Nat) : Int)))) := ⟨fun hK => s_len_S h.h hK⟩
instance ixS [h : NatOf x a] : Stp (Do (aIndex .string false 1 (.val (.string ⟨L.toArray⟩)) (.val (.int k x))) K) (Need (a < L.length) (K (W8 (L.getD a 0)))) :=
  ⟨fun ⟨h1, h2⟩ => s_index_S (by rw [h.eq]; omega) (by rw [h.eq]; omega) (by rw [h.eq, Int.toNat_natCast]; exact h2)⟩
instance slS [h : NatOf x a] [h' : NatOf y b] : Stp (Do (aSlice .string 1 (.val (.string ⟨L.toArray⟩)) (some (.val (.int k x))) (some (.val (.int k' y))) none) K) (Need (a ≤ b ∧ b ≤ L.length) (K (S ((L.take b).drop a)))) :=
  ⟨fun ⟨h1, h2⟩ => s_slice_S (by rw [h.eq]; omega) (by rw [h.eq, h'.eq]; omega) (by rw [h'.eq]; omega) (by rw [h.eq, h'.eq, Int.toNat_natCast, Int.toNat_natCast]; exact h2)⟩
instance slS1 [h : NatOf x a] : Stp (Do (aSlice .string 1 (.val (.string ⟨L.toArray⟩)) (some (.val (.int k x))) none none) K) (Need (a ≤ L.length) (K (S (L.drop a)))) :=
  ⟨fun ⟨h1, h2⟩ => s_slice_S1 (by rw [h.eq]; omega) (by rw [h.eq]; omega) (by rw [h.eq, Int.toNat_natCast]; exact h2)⟩
instance slS2 [h : NatOf y b] : Stp (Do (aSlice .string 1 (.val (.string ⟨L.toArray⟩)) none (some (.val (.int k' y))) none) K) (Need (b ≤ L.length) (K (S (L.take b)))) :=
  ⟨fun ⟨h1, h2⟩ => s_slice_S2 (by rw [h.eq]; omega) (by rw [h.eq]; omega) (by rw [h.eq, Int.toNat_natCast]; exact h2)⟩
instance slL [h : NatOf x a] [h' : NatOf y b] : Stp (Do (aSlice .slice sz (.lst sz (l.map f) m) (some (.val (.int k x))) (some (.val (.int k' y))) none) K) (Need (a ≤ b ∧ b ≤ l.length) (K (.lst sz (((l.take b).drop a).map f) .ro))) :=
  ⟨fun ⟨h1, h2⟩ => s_slm (by rw [h.eq]; omega) (by rw [h.eq, h'.eq]; omega) (by rw [h'.eq]; omega) (by rw [h.eq, h'.eq, Int.toNat_natCast, Int.toNat_natCast]; exact h2)⟩
instance slL1 [h : NatOf x a] : Stp (Do (aSlice .slice sz (.lst sz (l.map f) m) (some (.val (.int k x))) none none) K) (Need (a ≤ l.length) (K (.lst sz ((l.drop a).map f) .ro))) :=
  ⟨fun ⟨h1, h2⟩ => s_slm1 (by rw [h.eq]; omega) (by rw [h.eq]; omega) (by rw [h.eq, Int.toNat_natCast]; exact h2)⟩
instance slL2 [h : NatOf y b] : Stp (Do (aSlice .slice sz (.lst sz (l.map f) m) none (some (.val (.int k' y))) none) K) (Need (b ≤ l.length) (K (.lst sz ((l.take b).map f) .ro))) :=
  ⟨fun ⟨h1, h2⟩ => s_slm2 (by rw [h.eq]; omega) (by rw [h.eq]; omega) (by rw [h.eq, Int.toNat_natCast]; exact h2)⟩
instance (priority := 1100) slLf : Stp (Do (aSlice .slice sz (.lst sz (l.map f) m) none (some (.val (.int k ((l.length : Nat) : Int)))) (some (.val (.int k' ((l.length : Nat) : Int))))) K) (K (.lst sz (l.map f) .full)) := ⟨fun hK => s_slmf hK⟩
instance ixL_ [Inhabited α] {cs : List AV} [h : NatOf x a] [hc : Cells (f (l.getD a default)) cs] : Stp (Do (aIndexAddr .slice sz (.lst sz (l.map f) m) (.val (.int k x))) K) (Need (a < l.length) (K (.rptr cs))) :=
  ⟨fun ⟨h1, h2⟩ => s_ixm (by rw [h.eq]; omega) (by rw [h.eq]; omega) (by rw [h.eq, Int.toNat_natCast, hc.eq]; exact h2)⟩
instance ixO [h : NatOf x a] : Stp (Do (aIndexAddr .slice sz (.own v n) (.val (.int k x))) K) (Need (a < n) (K (.eptr v sz a 0))) :=
  ⟨fun ⟨h1, h2⟩ => s_ixo (by rw [h.eq]; omega) (by rw [h.eq]; omega) (by rw [h.eq, Int.toNat_natCast]; exact h2)⟩
instance nilR {cs : List AV} : Stp (Do (aNil (.rptr cs)) K) (K (.rptr cs)) := ⟨fun hK => ⟨_, rfl, hK⟩⟩
instance nilP {p : Addr} : Stp (Do (aNil (.val (.pointer (some p)))) K) (K (.val (.pointer (some p)))) := ⟨fun hK => ⟨_, rfl, hK⟩⟩
instance nilE {i j : Nat} : Stp (Do (aNil (.eptr v sz i j)) K) (K (.eptr v sz i j)) := ⟨fun hK => ⟨_, rfl, hK⟩⟩
instance nilF {g : FuncId} {a b : Array Value} : Stp (Do (aNil (.val (.func (.func g) a b))) K) (K (.val (.func (.func g) a b))) := ⟨fun hK => ⟨_, rfl, hK⟩⟩
instance nilFn {g : FuncId} {a b : List AV} : Stp (Do (aNil (.fn (.func g) a b)) K) (K (.fn (.func g) a b)) := ⟨fun hK => ⟨_, rfl, hK⟩⟩
instance ext0 {u : AV} {us : List AV} : Stp (Do (aExt (.tuple (u :: us)) 0) K) (K u) := ⟨fun hK => s_ext0 hK⟩
instance ext1 {a u : AV} {us : List AV} : Stp (Do (aExt (.tuple (a :: u :: us)) 1) K) (K u) := ⟨fun hK => s_ext1 hK⟩
instance ext2 {a b u : AV} {us : List AV} : Stp (Do (aExt (.tuple (a :: b :: u :: us)) 2) K) (K u) := ⟨fun hK => s_ext2 hK⟩
instance ext3 {a b c u : AV} {us : List AV} : Stp (Do (aExt (.tuple (a :: b :: c :: u :: us)) 3) K) (K u) := ⟨fun hK => s_ext3 hK⟩
instance convSB : Stp (Do (aConvSB (.val (.string ⟨L.toArray⟩))) K) (Need (L.length ≤ 9223372036854775807) (K (.lst 1 (L.map byt) .ro))) := ⟨fun ⟨h, hK⟩ => s_convSB h hK⟩
instance convBS {z : Nat} : Stp (Do (aConvBS (.lst z (L.map byt) m)) K) (K (S L)) := ⟨fun hK => s_convBS hK⟩
end lists

/-! texts -/
section texts
variable {a b : List UInt8} {t : TypeId} {K : AV → Prop}
instance sEql : Stp (Do (aBin P .eql t (.val (.string ⟨a.toArray⟩)) (.val (.string ⟨b.toArray⟩))) K) (K (.val (.bool (decide (a = b))))) := ⟨fun h => s_s_eql h⟩
instance sNeq : Stp (Do (aBin P .neq t (.val (.string ⟨a.toArray⟩)) (.val (.string ⟨b.toArray⟩))) K) (K (.val (.bool (decide (¬ a = b))))) := ⟨fun h => s_s_neq h⟩
instance sLss : Stp (Do (aBin P .lss t (.val (.string ⟨a.toArray⟩)) (.val (.string ⟨b.toArray⟩))) K) (K (.val (.bool (Op.bytesLess a b)))) := ⟨fun h => s_s_lss h⟩
instance sGeq : Stp (Do (aBin P .geq t (.val (.string ⟨a.toArray⟩)) (.val (.string ⟨b.toArray⟩))) K) (K (.val (.bool (!Op.bytesLess a b)))) := ⟨fun h => s_s_geq h⟩
instance sLeq : Stp (Do (aBin P .leq t (.val (.string ⟨a.toArray⟩)) (.val (.string ⟨b.toArray⟩))) K) (K (.val (.bool (Op.bytesLess a b || decide (a = b))))) := ⟨fun h => s_s_leq h⟩
instance sGtr : Stp (Do (aBin P .gtr t (.val (.string ⟨a.toArray⟩)) (.val (.string ⟨b.toArray⟩))) K) (K (.val (.bool (!(Op.bytesLess a b || decide (a = b)))))) := ⟨fun h => s_s_gtr h⟩
instance sAdd : Stp (Do (aBin P .add t (.val (.string ⟨a.toArray⟩)) (.val (.string ⟨b.toArray⟩))) K) (Need (a.length + b.length ≤ 9223372036854775807) (K (S (a ++ b)))) := ⟨fun ⟨h, hK⟩ => s_s_add h hK⟩
end texts

/-! parts of what stands in cells -/
class Part (cs : List AV) (off s : Nat) (out : outParam (List AV)) : Prop where
  eq : (cs.drop off).take s = out
  le : off + s ≤ cs.length
  pos : 0 < s
instance part0 (c : AV) (cs : List AV) : Part (c :: cs) 0 1 [c] := ⟨rfl, by simp, by decide⟩
instance partS (c : AV) (cs out : List AV) (n : Nat) [h : Part cs n 1 out] : Part (c :: cs) (n + 1) 1 out := ⟨by simpa using h.eq, by have := h.le; simp only [List.length_cons]; omega, by decide⟩
/-- A variable's cells as a value. -/
class MkV (ag : Bool) (s : Nat) (cs : List AV) (u : outParam AV) : Prop where
  eq : mkV ag cs = u
  one : ag = false → s = 1
instance mkV0 (c : AV) : MkV false 1 [c] c := ⟨rfl, fun _ => rfl⟩
instance (priority := 10) mkV1 (s : Nat) (cs : List AV) : MkV true s cs (.agg cs) := ⟨rfl, fun h => by cases h⟩
class IsAgg (x : AV) (cs : outParam (List AV)) : Prop where
  eq : x = .agg cs
instance (cs : List AV) : IsAgg (.agg cs) cs := ⟨rfl⟩
class LenC (cs : List AV) (n : outParam Nat) : Prop where
  eq : cs.length = n
instance : LenC [] 0 := ⟨rfl⟩
instance (c : AV) (cs : List AV) (n : Nat) [h : LenC cs n] : LenC (c :: cs) (n + 1) := ⟨by simp [h.eq]⟩
class Splice (cs : List AV) (off : Nat) (new : List AV) (out : outParam (List AV)) : Prop where
  eq : splice cs off new = out
  le : off + new.length ≤ cs.length
instance splice0 (c d : AV) (cs : List AV) : Splice (c :: cs) 0 [d] (d :: cs) := ⟨rfl, by simp⟩
instance spliceS (c d : AV) (cs out : List AV) (n : Nat) [h : Splice cs n [d] out] : Splice (c :: cs) (n + 1) [d] (c :: out) := ⟨by
  rw [← h.eq]; simp [splice, Nat.add_right_comm], by have := h.le; simp only [List.length_cons, List.length_nil] at this ⊢; omega⟩

abbrev ptrAt (b off : Nat) : AV := .val (.pointer (some ⟨b, off, none⟩))
class VarAt (b : Nat) (σ : Store) (t : outParam TypeId) (cs : outParam (List AV)) (put : outParam (Ent → Store)) (rest : outParam Store) : Prop where
  at_ : ∃ σ1 σ2, σ = σ1 ++ .var b t cs :: σ2 ∧ (∀ x, put x = σ1 ++ x :: σ2) ∧ rest = σ1 ++ σ2
instance varHead (b : Nat) (t : TypeId) (cs : List AV) (σ : Store) : VarAt b (.var b t cs :: σ) t cs (fun x => x :: σ) σ := ⟨[], σ, rfl, fun _ => rfl, rfl⟩
instance (priority := 90) varTail (b : Nat) (t : TypeId) (cs : List AV) (σ rest : Store) (put : Ent → Store) (e : Ent) [h : VarAt b σ t cs put rest] : VarAt b (e :: σ) t cs (fun x => e :: put x) (e :: rest) := ⟨by
  obtain ⟨σ1, σ2, h1, h2, h3⟩ := h.at_
  exact ⟨e :: σ1, σ2, by rw [h1]; rfl, fun x => by rw [h2]; rfl, by rw [h3]; rfl⟩⟩
instance (priority := 80) varL (b : Nat) (t : TypeId) (cs : List AV) (σ τ rest : Store) (put : Ent → Store) [h : VarAt b σ t cs put rest] : VarAt b (σ ++ τ) t cs (fun x => put x ++ τ) (rest ++ τ) := ⟨by
  obtain ⟨σ1, σ2, h1, h2, h3⟩ := h.at_
  exact ⟨σ1, σ2 ++ τ, by rw [h1]; simp, fun x => by rw [h2]; simp, by rw [h3]; simp⟩⟩
instance (priority := 80) varR (b : Nat) (t : TypeId) (cs : List AV) (σ τ rest : Store) (put : Ent → Store) [h : VarAt b τ t cs put rest] : VarAt b (σ ++ τ) t cs (fun x => σ ++ put x) (σ ++ rest) := ⟨by
  obtain ⟨σ1, σ2, h1, h2, h3⟩ := h.at_
  exact ⟨σ ++ σ1, σ2, by rw [h1]; simp, fun x => by rw [h2]; simp, by rw [h3]; simp⟩⟩
class RowAt (v : Value) (σ : Store) (E : outParam TypeId) (sz : outParam Nat) (l : outParam (List AV)) (fl : outParam Nat) (put : outParam (Ent → Store)) (rest : outParam Store) : Prop where
  at_ : ∃ σ1 σ2, σ = σ1 ++ .row v E sz l fl :: σ2 ∧ (∀ x, put x = σ1 ++ x :: σ2) ∧ rest = σ1 ++ σ2
instance rowHead (v : Value) (E : TypeId) (sz : Nat) (l : List AV) (fl : Nat) (σ : Store) : RowAt v (.row v E sz l fl :: σ) E sz l fl (fun x => x :: σ) σ := ⟨[], σ, rfl, fun _ => rfl, rfl⟩
instance (priority := 90) rowTail (v : Value) (E : TypeId) (sz : Nat) (l : List AV) (fl : Nat) (σ rest : Store) (put : Ent → Store) (e : Ent) [h : RowAt v σ E sz l fl put rest] : RowAt v (e :: σ) E sz l fl (fun x => e :: put x) (e :: rest) := ⟨by
  obtain ⟨σ1, σ2, h1, h2, h3⟩ := h.at_
  exact ⟨e :: σ1, σ2, by rw [h1]; rfl, fun x => by rw [h2]; rfl, by rw [h3]; rfl⟩⟩
instance (priority := 80) rowL (v : Value) (E : TypeId) (sz : Nat) (l : List AV) (fl : Nat) (σ τ rest : Store) (put : Ent → Store) [h : RowAt v σ E sz l fl put rest] : RowAt v (σ ++ τ) E sz l fl (fun x => put x ++ τ) (rest ++ τ) := ⟨by
  obtain ⟨σ1, σ2, h1, h2, h3⟩ := h.at_
  exact ⟨σ1, σ2 ++ τ, by rw [h1]; simp, fun x => by rw [h2]; simp, by rw [h3]; simp⟩⟩
instance (priority := 80) rowR (v : Value) (E : TypeId) (sz : Nat) (l : List AV) (fl : Nat) (σ τ rest : Store) (put : Ent → Store) [h : RowAt v τ E sz l fl put rest] : RowAt v (σ ++ τ) E sz l fl (fun x => σ ++ put x) (σ ++ rest) := ⟨by
  obtain ⟨σ1, σ2, h1, h2, h3⟩ := h.at_
  exact ⟨σ ++ σ1, σ2, by rw [h1]; simp, fun x => by rw [h2]; simp, by rw [h3]; simp⟩⟩

section mem
variable {α : Type} {f : α → AV} {sz s off o : Nat} {l ys : List α} {ag : Bool} {b n m : Nat} {t E : TypeId} {cs ds xs zs out : List AV} {σ rest : Store} {put : Ent → Store} {K : AV → Prop} {k : AV → Store → Prop} {u x : AV} {v : Value} {i j fl by_ : Nat}
instance ldR [h : Part cs 0 s out] [h1 : MkV ag s out u] : Stp (Do (loadA ag s (.rptr cs) σ) K) (K u) :=
  ⟨fun hK => ⟨u, ⟨h.pos, h1.one, by have := h.le; omega, by rw [← h1.eq, ← h.eq]; rfl⟩, hK⟩⟩
instance ldV [hv : VarAt b σ t cs put rest] [h : Part cs off s out] [h1 : MkV ag s out u] : Stp (Do (loadA ag s (ptrAt b off) σ) K) (K u) :=
  ⟨fun hK => by
    obtain ⟨σ1, σ2, e, _⟩ := hv.at_
    exact ⟨u, ⟨h.pos, h1.one, rfl, t, cs, by rw [e]; simp, h.le, by rw [← h1.eq, ← h.eq]⟩, hK⟩⟩
instance ldE [Inhabited α] [hv : RowAt v σ E sz (l.map f) fl put rest] [he : Enc f sz] [hc : Cells (f (l.getD i default)) cs] [h : Part cs j s out] [h1 : MkV ag s out u] : Stp (Do (loadA ag s (.eptr v sz i j) σ) K) (Need (i < l.length) (K u)) :=
  ⟨fun ⟨hi, hK⟩ => by
    obtain ⟨σ1, σ2, e, _⟩ := hv.at_
    refine ⟨u, ⟨h.pos, h1.one, E, l.map f, fl, by rw [e]; simp, by simpa using hi, ?_, ?_⟩, hK⟩
    · have := h.le
      rw [← hc.eq, (he.told _).1] at this
      exact this
    · rw [getD_map default hi, hc.eq, ← h1.eq, ← h.eq]⟩
instance faR [h : Part cs off s out] : Stp (Do (aFieldAddr off s (.rptr cs)) K) (K (.rptr out)) := ⟨fun hK => ⟨_, ⟨h.pos, h.le, rfl⟩, by rw [h.eq]; exact hK⟩⟩
class Pos (s : Nat) : Prop where
  pos : 0 < s
instance (n : Nat) : Pos (n + 1) := ⟨Nat.succ_pos n⟩
instance (priority := 1100) faP0 [h : Pos s] : Stp (Do (aFieldAddr off s (ptrAt b 0)) K) (K (ptrAt b off)) := ⟨fun hK => ⟨_, ⟨h.pos, rfl⟩, by
  have e : (⟨b, 0, none⟩ : Addr).add off = ⟨b, off, none⟩ := by rw [addr_lit_add, Nat.zero_add]
  rw [e]; exact hK⟩⟩
instance faP [h : Pos s] : Stp (Do (aFieldAddr off s (ptrAt b o)) K) (K (ptrAt b (o + off))) := ⟨fun hK => ⟨_, ⟨h.pos, rfl⟩, by rw [addr_lit_add]; exact hK⟩⟩
instance (priority := 1100) faE0 [h : Pos s] : Stp (Do (aFieldAddr off s (.eptr v sz i 0)) K) (K (.eptr v sz i off)) := ⟨fun hK => ⟨_, ⟨h.pos, rfl⟩, by rw [Nat.zero_add]; exact hK⟩⟩
instance faE [h : Pos s] : Stp (Do (aFieldAddr off s (.eptr v sz i j)) K) (K (.eptr v sz i (j + off))) := ⟨fun hK => ⟨_, ⟨h.pos, rfl⟩, hK⟩⟩
instance fld [h0 : IsAgg x cs] [h : Part cs off s out] [h1 : MkV ag s out u] : Stp (Do (aField off ag s x) K) (K u) :=
  ⟨fun hK => ⟨u, by rw [h0.eq]; exact ⟨h.le, h1.one, by rw [← h1.eq, ← h.eq]⟩, hK⟩⟩
instance frz [hc : Cells x cs] [ho : Ones cs] : Stp (Do (aFreeze (AV.cells x)) K) (K (.rptr cs)) := ⟨fun hK => ⟨_, ⟨by rw [hc.eq]; exact ho.ones, rfl⟩, by rw [hc.eq]; exact hK⟩⟩
instance (priority := 90) frzL [hc : FoldC cs out] [ho : Ones cs] : Stp (Do (aFreeze cs) K) (K (.rptr out)) := ⟨fun hK => ⟨_, ⟨ho.ones, rfl⟩, by rw [hc.eq]; rw [hc.eq] at *; exact hK⟩⟩
instance newC [hc : Cells x cs] [ho : Ones cs] : Stp (aNewVar t (AV.cells x) σ k) (All fun b => k (ptrAt b 0) (.var b t cs :: σ)) := ⟨fun hK => ⟨by rw [hc.eq]; exact ho.ones, fun b _ => by rw [hc.eq]; exact hK b⟩⟩
instance (priority := 90) newL [hc : FoldC cs out] [ho : Ones cs] : Stp (aNewVar t cs σ k) (All fun b => k (ptrAt b 0) (.var b t out :: σ)) := ⟨fun hK => ⟨ho.ones, fun b _ => by
  have := hK b
  rw [← hc.eq] at this
  exact this⟩⟩
instance stV [hc : Cells x xs] [hl : LenC xs s] [ho : Ones xs] [hv : VarAt b σ t cs put rest] [hp : Splice cs off xs out] : Stp (storeA s (ptrAt b off) x σ k) (k .undef (put (.var b t out))) :=
  ⟨fun hK => by
    obtain ⟨σ1, σ2, e, e2, _⟩ := hv.at_
    refine ⟨by rw [hc.eq, hl.eq], by rw [hc.eq]; exact ho.ones, rfl, σ1, σ2, t, cs, e, ?_, ?_⟩
    · have := hp.le
      rw [hl.eq] at this
      exact this
    · rw [e2] at hK
      rw [hc.eq, hp.eq]
      exact hK⟩
/-- What is said of a value: it is f of something. -/
class AsF {α : Type} (f : α → AV) (x : AV) (y : outParam α) : Prop where
  eq : x = f y
instance (priority := 10) asf (y : α) : AsF f (f y) y := ⟨rfl⟩
instance (n : Int) (w : UInt8) [h : U8Of n w] : AsF byt (.val (.int .u8 n)) w := ⟨by rw [h.eq]; rfl⟩
instance (w : UInt8) : AsF byt (byt w) w := ⟨rfl⟩
theorem map_set_enc [Inhabited α] (he : Enc f sz) {l : List α} {i : Nat} (hi : i < l.length) (y : α) {cs : List AV} (h : splice (f (l.getD i default)).cells j cs = (f y).cells) :
    (l.map f).set i (mkE (splice ((l.map f).getD i .undef).cells j cs)) = (l.set i y).map f := by
  rw [getD_map default hi, h, he.mke, List.map_set]
instance stE [Inhabited α] {y : α} [hv : RowAt v σ E sz (l.map f) fl put rest] [he : Enc f sz] [ha : AsF f x y] : Stp (storeA sz (.eptr v sz i 0) x σ k) (Need (fl ≤ i ∧ i < l.length) (k .undef (put (.row v E sz ((l.set i y).map f) fl)))) :=
  ⟨fun ⟨hi, hK⟩ => by
    obtain ⟨σ1, σ2, e, e2, _⟩ := hv.at_
    refine ⟨by rw [ha.eq, (he.told y).1], by rw [ha.eq]; exact (he.told y).2, σ1, σ2, E, _, fl, e, hi.1, by simpa using hi.2, by omega, by rw [getD_map default hi.2]; exact (he.told _).2, ?_⟩
    rw [e2] at hK
    rw [map_set_enc he hi.2 y (by rw [splice_all (by rw [ha.eq, (he.told _).1, (he.told _).1]), ha.eq])]
    exact hK⟩
/-- A part of a thing is set. -/
class SetF {α : Type} (f : α → AV) (e : α) (j : Nat) (xs : List AV) (e' : outParam α) : Prop where
  eq : splice (f e).cells j xs = (f e').cells
  le : j + xs.length ≤ (f e).cells.length
instance (priority := 90) stEF [Inhabited α] {y : α} [hc : Cells x xs] [hl : LenC xs s] [ho : Ones xs] [hv : RowAt v σ E sz (l.map f) fl put rest] [he : Enc f sz] [ha : SetF f (l.getD i default) j xs y] : Stp (storeA s (.eptr v sz i j) x σ k) (Need (fl ≤ i ∧ i < l.length) (k .undef (put (.row v E sz ((l.set i y).map f) fl)))) :=
  ⟨fun ⟨hi, hK⟩ => by
    obtain ⟨σ1, σ2, e, e2, _⟩ := hv.at_
    refine ⟨by rw [hc.eq, hl.eq], by rw [hc.eq]; exact ho.ones, σ1, σ2, E, _, fl, e, hi.1, by simpa using hi.2, ?_, by rw [getD_map default hi.2]; exact (he.told _).2, ?_⟩
    · have := ha.le
      rw [(he.told _).1, hl.eq] at this
      exact this
    · rw [e2] at hK
      rw [map_set_enc he hi.2 y (by rw [hc.eq, ha.eq])]
      exact hK⟩

/-! literals of slices -/
class ElemF (zs : List AV) (α : outParam Type) (f : outParam (α → AV)) : Prop where
  some : True
instance : ElemF [.val (.int .u8 0)] UInt8 byt := ⟨trivial⟩
class Parts {α : Type} (f : α → AV) (parts : List (Nat × AV)) (i : Nat) (ys : outParam (List α)) : Prop where
  eq : parts = ((ys.map f).zipIdx i).map fun p => (p.2, p.1)
instance (i : Nat) : Parts f [] i [] := ⟨rfl⟩
instance (i : Nat) (x : AV) (y : α) (ys : List α) (ps : List (Nat × AV)) [h : AsF f x y] [h2 : Parts f ps (i + 1) ys] : Parts f ((i, x) :: ps) i (y :: ys) := ⟨by rw [h.eq, h2.eq]; rfl⟩
theorem parts_len {parts : List (Nat × AV)} {i : Nat} (h : Parts f parts i ys) : parts.length = ys.length := by rw [h.eq]; simp
instance slLit {z : List AV} {parts : List (Nat × AV)} [hf : ElemF z α f] [he : Enc f sz] [hp : Parts f parts 0 ys] : Stp (Do (aSlLit (mkE z) sz n parts) K) (Fact ((mkE z).cells.length = sz ∧ ys.length = n) (K (.lst sz (ys.map f) .full))) :=
  ⟨fun ⟨h, hK⟩ => s_lit (ys.map f) h.1 (by simpa using h.2) hp.eq (told_len he.told ys) (by
    intro p hp c hc
    obtain ⟨y, _, rfl⟩ := List.mem_map.1 hp
    exact (he.told y).2 c hc) hK⟩
theorem flat_one (he : Enc f sz) (ys : List α) : ∀ c ∈ flat (ys.map f), c.one = true := by
  intro c hc
  obtain ⟨u, hu, hc⟩ := List.mem_flatMap.1 hc
  obtain ⟨y, _, rfl⟩ := List.mem_map.1 hu
  exact (he.told y).2 c hc
instance rowLit {z : List AV} {parts : List (Nat × AV)} [hf : ElemF z α f] [he : Enc f sz] [hp : Parts f parts 0 ys] : Stp (aRowL E (mkE z) sz n parts σ k) (Fact ((mkE z).cells.length = sz ∧ ys.length = n) (All fun v => k (.own v n) (.row v E sz (ys.map f) 0 :: σ))) :=
  ⟨fun ⟨h, hK⟩ => by
    refine ⟨?_, ys.map f, by simpa using h.2, told_len he.told ys, flat_one he ys, ?_, fun v => hK v⟩
    · intro p hpm c hc
      rw [hp.eq] at hpm
      obtain ⟨q, hq, rfl⟩ := List.mem_map.1 hpm
      obtain ⟨h1, h2⟩ := List.mem_zipIdx hq |>.2
      have : q.1 ∈ ys.map f := by
        rw [h2]
        exact List.getElem_mem _
      obtain ⟨y, _, e⟩ := List.mem_map.1 this
      rw [← e] at hc
      exact (he.told y).2 c hc
    · have := fillA_row sz (ys.map f) 0 [] ((List.replicate n (mkE z).cells).flatten) (told_len he.told ys) (by simp) (by simp [List.length_flatten, h.1, h.2])
      rw [hp.eq]
      simpa using this⟩

/-! append -/
class SrcI (sz : Nat) (σ : Store) (x : AV) (α : outParam Type) (f : outParam (α → AV)) (ys : outParam (List α)) : Prop where
  src : Src f sz σ x ys
instance srcL [he : Enc f sz] {m : SM} : SrcI sz σ (.lst sz (ys.map f) m) α f ys := ⟨src_lst he.told⟩
instance srcS {ys : List UInt8} : SrcI 1 σ (.val (.string ⟨ys.toArray⟩)) UInt8 byt ys := ⟨src_S⟩
instance srcO [he : Enc f sz] [hr : RowAt v σ E sz (ys.map f) fl put rest] : SrcI sz σ (.own v n) α f ys := ⟨src_own (n := n) (E := E) (fl := fl) he.told (by
  obtain ⟨σ1, σ2, e, _⟩ := hr.at_
  rw [e]; simp)⟩
instance appO [hr : RowAt v σ E sz (l.map f) fl put rest] [hs : SrcI sz σ x α f ys] : Stp (aAppend E sz by_ (.own v n) x σ (subK k))
    (Need ((l.length + ys.length) * by_ ≤ 140737488355328 ∧ l.length + ys.length ≤ 9223372036854775807) (All fun v' => k (.own v' (l ++ ys).length) (put (.row v' E sz ((l ++ ys).map f) fl)))) :=
  ⟨fun ⟨h, hK⟩ => by
    obtain ⟨σ1, σ2, e, e2, _⟩ := hr.at_
    have hs' := hs.src
    subst e
    exact s_app_own hs' h.1 h.2 fun v' => s_keep (by rw [← e2]; exact hK v')⟩
instance appN [hs : SrcI sz σ x α f ys] : Stp (aAppend E sz by_ (.val (.slice none 0 0)) x σ (subK k))
    (Need (ys.length * by_ ≤ 140737488355328 ∧ ys.length ≤ 9223372036854775807) (All fun v' => k (.own v' ys.length) (.row v' E sz (ys.map f) 0 :: σ))) :=
  ⟨fun ⟨h, hK⟩ => s_app_nil hs.src h.1 h.2 fun v' => s_keep (hK v')⟩
instance appF [hs : SrcI sz σ x α f ys] : Stp (aAppend E sz by_ (.lst sz (l.map f) .full) x σ (subK k))
    (Need (0 < ys.length ∧ (l.length + ys.length) * by_ ≤ 140737488355328 ∧ l.length + ys.length ≤ 9223372036854775807) (All fun v' => k (.own v' (l ++ ys).length) (.row v' E sz ((l ++ ys).map f) 0 :: σ))) :=
  ⟨fun ⟨h, hK⟩ => s_app_full hs.src (by intro e; rw [e] at h; simp at h) h.2.1 h.2.2 fun v' => s_keep (hK v')⟩
class ZeroE (zs : List Value) (α : outParam Type) (f : outParam (α → AV)) (z : outParam α) : Prop where
  eq : mkE (zs.map .val) = f z
  one : ∀ v ∈ zs, v.oneCell' = true
instance : ZeroE [.int .u8 0] UInt8 byt 0 := ⟨rfl, by simp [Value.oneCell']⟩
instance mkS {zs : List Value} {x y : Int} {kk kk' : IntKind} {z : α} {f : α → AV} [hz : ZeroE zs α f z] [h : NatOf x n] [h' : NatOf y m] : Stp (aMake E zs s by_ (.val (.int kk x)) (.val (.int kk' y)) σ k)
    (Need (n ≤ m ∧ by_ * m ≤ 281474976710656 ∧ m ≤ 9223372036854775807) (All fun v => k (.own v n) (.row v E s ((List.replicate n z).map f) 0 :: σ))) :=
  ⟨fun ⟨h1, hK⟩ => by
    have e1 := h.eq
    have e2 := h'.eq
    subst e1; subst e2
    refine ⟨by omega, by omega, ?_, by omega, hz.one, fun v => ?_⟩
    · have := Int.ofNat_le.2 h1.2.1
      rw [Int.natCast_mul] at this
      exact this
    · have := hK v
      rw [Int.toNat_natCast, hz.eq, ← List.map_replicate]
      exact this⟩
end mem
end Go.Ab
