/- A logic over abstract states (part 4): operations that are told by their operands alone. -/
import Derived.Test.YtopmpooglnfalaaAb3
import Derived.Laws.Tables
import Derived.Laws.Slices
import Derived.Laws.Cells
import Derived.Laws.Build
set_option linter.unusedVariables false
set_option linter.unusedSimpArgs false
namespace Go.Ab

/-! ### What the table of types says, as far as the operations ask -/
def isAggB (P : Program) (t : TypeId) : Option Bool := match P.underlying t with
  | some (.struct _) | some (.array _ _) => some true
  | some _ => some false
  | none => none
/-- A variable's shape: is it written out cell by cell; how many cells. -/
def shapeOf (P : Program) (t : TypeId) : Option (Bool × Nat) := match isAggB P t, P.info? t with
  | some b, some i => some (b, i.size)
  | _, _ => none
/-- A field: its offset and shape. -/
def fieldOf (P : Program) (t : TypeId) (i : Nat) : Option (Nat × Bool × Nat) := match P.underlying t with
  | some (.struct fs) => match fs[i]? with
    | some f => match shapeOf P f.type with
      | some (b, s) => some (f.offset, b, s)
      | none => none
    | none => none
  | _ => none
inductive Con where
  | slice | array (n : Nat) | string
/-- Something with elements: its make, an element's shape. -/
def elemOf (P : Program) (t : TypeId) : Option (Con × Bool × Nat) := match P.underlying t with
  | some (.slice e) => match shapeOf P e with
    | some (b, s) => some (.slice, b, s)
    | none => none
  | some (.array n e) => match shapeOf P e with
    | some (b, s) => some (.array n, b, s)
    | none => none
  | some .string => some (.string, false, 1)
  | _ => none

theorem run_isAgg {P : Program} {t : TypeId} {b : Bool} (h : isAggB P t = some b) (w : World) : (isAgg t).run P w = .ok b w := by
  unfold isAggB at h
  cases hu : P.underlying t with
  | none => rw [hu] at h; cases h
  | some d =>
    rw [hu] at h
    cases d <;> simp [isAgg, run_underlying hu] at h ⊢ <;> exact h
theorem run_sizeOf {P : Program} {t : TypeId} {i : TypeInfo} (h : P.info? t = some i) (w : World) : (sizeOf t).run P w = .ok i.size w := by simp [sizeOf, typeInfo, h]
theorem shapeOf_run {P : Program} {t : TypeId} {b : Bool} {s : Nat} (h : shapeOf P t = some (b, s)) (w : World) : (isAgg t).run P w = .ok b w ∧ (sizeOf t).run P w = .ok s w := by
  unfold shapeOf at h
  split at h
  · rename_i b' i hb hi
    simp only [Option.some.injEq, Prod.mk.injEq] at h
    obtain ⟨rfl, rfl⟩ := h
    exact ⟨run_isAgg hb w, run_sizeOf hi w⟩
  · cases h

/-- A variable's cells as a value. -/
def mkV (ag : Bool) (cs : List AV) : AV := bif ag then .agg cs else cs.headD .undef
def mkC (ag : Bool) (cs : List Value) : Value := if ag then .agg cs.toArray else cs.headD Go.undef
theorem mkV_rel {R : RO} {vs : List Value} {cs : List AV} (h : VRs R vs cs) (ag : Bool) : VR R (mkC ag vs) (mkV ag cs) := by
  cases ag with
  | true => exact VR.agg' h
  | false =>
    cases cs with
    | nil => exact .undef _
    | cons u us =>
      cases vs with
      | nil => have := h.1; simp at this
      | cons v vs => exact h.2 0 u v rfl rfl

/-! ### The operations -/
def aPick (c a b u : AV) : Prop := match c with
  | .val (.bool t) => u = if t = true then a else b
  | _ => False
def aNil (x u : AV) : Prop := match x with
  | .val (.pointer (some a)) => u = x
  | .rptr _ => u = x
  | .eptr _ _ _ _ => u = x
  | .val (.func f a b) => match f with
    | .method _ => False
    | _ => u = x
  | .fn f _ _ => match f with
    | .method _ => False
    | _ => u = x
  | _ => False
def aExt (x : AV) (i : Nat) (u : AV) : Prop := match x with
  | .tuple us => us[i]? = some u
  | _ => False
def aField (off : Nat) (ag : Bool) (s : Nat) (x u : AV) : Prop := match x with
  | .agg cs => off + s ≤ cs.length ∧ (ag = false → s = 1) ∧ u = mkV ag ((cs.drop off).take s)
  | _ => False
def aFieldAddr (off s : Nat) (x u : AV) : Prop := 0 < s ∧ match x with
  | .val (.pointer (some a)) => u = .val (.pointer (some (a.add off)))
  | .rptr cs => off + s ≤ cs.length ∧ u = .rptr ((cs.drop off).take s)
  | .eptr v sz i j => u = .eptr v sz i (j + off)
  | _ => False
/-- The number of an index. -/
def ixOf (x : AV) : Option Int := match x with
  | .val (.int _ n) => some n
  | _ => none
def aIndexAddr (c : Con) (sz : Nat) (x i u : AV) : Prop := match c, ixOf i with
  | .slice, some i => match x with
    | .lst z l _ => z = sz ∧ 0 ≤ i ∧ i < l.length ∧ u = .rptr (l.getD i.toNat .undef).cells
    | .own v n => 0 ≤ i ∧ i < n ∧ u = .eptr v sz i.toNat 0
    | .sub v z a n => z = sz ∧ 0 ≤ i ∧ i < n ∧ u = .eptr v sz (a + i.toNat) 0
    | .val (.slice (some a) n _) => 0 ≤ i ∧ i < n ∧ u = .val (.pointer (some (a.add (i.toNat * sz))))
    | _ => False
  | .array n, some i => 0 ≤ i ∧ i < n ∧ match x with
    | .val (.pointer (some a)) => u = .val (.pointer (some (a.add (i.toNat * sz))))
    | .rptr cs => (i.toNat + 1) * sz ≤ cs.length ∧ u = .rptr ((cs.drop (i.toNat * sz)).take sz)
    | .eptr v z e j => u = .eptr v z e (j + i.toNat * sz)
    | _ => False
  | _, _ => False
def aIndex (c : Con) (ag : Bool) (sz : Nat) (x i u : AV) : Prop := match c, ixOf i with
  | .string, some i => match x with
    | .val (.string s) => 0 ≤ i ∧ ∃ h : i.toNat < s.size, u = .val (.int .u8 s[i.toNat].toNat)
    | _ => False
  | .array n, some i => 0 ≤ i ∧ i < n ∧ match x with
    | .agg cs => (i.toNat + 1) * sz ≤ cs.length ∧ (ag = false → sz = 1) ∧ u = mkV ag ((cs.drop (i.toNat * sz)).take sz)
    | _ => False
  | _, _ => False
/-- A bound of a cut. -/
def bdOf (x : Option AV) (d : Int) : Option Int := match x with
  | none => some d
  | some x => ixOf x
def aSlice (c : Con) (sz : Nat) (x : AV) (lo hi mx : Option AV) (u : AV) : Prop := match c with
  | .string => match x, bdOf lo 0, mx with
    | .val (.string s), some l, none => match bdOf hi s.size with
      | some h => 0 ≤ l ∧ l ≤ h ∧ h ≤ s.size ∧ u = .val (.string (s.extract l.toNat h.toNat))
      | none => False
    | _, _, _ => False
  | .slice => match x, bdOf lo 0 with
    | .lst z xs m, some l => match bdOf hi xs.length, mx with
      | some h, none => z = sz ∧ 0 ≤ l ∧ l ≤ h ∧ h ≤ xs.length ∧ u = .lst sz ((xs.take h.toNat).drop l.toNat) .ro
      | some h, some mx => z = sz ∧ 0 ≤ l ∧ l ≤ h ∧ h ≤ xs.length ∧ ixOf mx = some h ∧ hi.isSome = true ∧ u = .lst sz ((xs.take h.toNat).drop l.toNat) .full
      | _, _ => False
    | .own v n, some l => match bdOf hi n, mx with
      | some h, none => 0 ≤ l ∧ l ≤ h ∧ h ≤ n ∧ u = .sub v sz l.toNat (h - l).toNat
      | _, _ => False
    | .sub v z a n, some l => match bdOf hi n, mx with
      | some h, none => z = sz ∧ 0 < sz ∧ 0 ≤ l ∧ l ≤ h ∧ h ≤ n ∧ u = .sub v sz (a + l.toNat) (h - l).toNat
      | _, _ => False
    | .val (.slice (some a) n cap), some l => match bdOf hi n, mx with
      | some h, none => 0 ≤ l ∧ l ≤ h ∧ h ≤ cap ∧ u = .val (.slice (some (if cap = l.toNat then a else a.add (l.toNat * sz))) (h - l).toNat (cap - l.toNat))
      | _, _ => False
    | _, _ => False
  | .array n => match x, bdOf lo 0, bdOf hi n, mx with
    | .val (.pointer (some a)), some l, some h, none => 0 ≤ l ∧ l ≤ h ∧ h ≤ n ∧ u = .val (.slice (some (if n = l.toNat then a else a.add (l.toNat * sz))) (h - l).toNat (n - l.toNat))
    | _, _, _, _ => False
def splice (cs : List AV) (off : Nat) (new : List AV) : List AV := cs.take off ++ new ++ cs.drop (off + new.length)
def fillA (place : Nat → Option (Nat × Nat)) (cs : List AV) : List (Nat × AV) → Option (List AV)
  | [] => some cs
  | (i, v) :: rest => match place i with
    | none => none
    | some (off, s) => if v.cells.length = s ∧ off + s ≤ cs.length then fillA place (splice cs off v.cells) rest else none
/-- A literal of a struct or an array: the zero value's cells, the places. -/
def aBuild (zs : List AV) (pl : Nat → Option (Nat × Nat)) (parts : List (Nat × AV)) (u : AV) : Prop := ∃ cs, fillA pl zs parts = some cs ∧ u = .agg cs
/-- A literal of a slice; nobody writes into it. -/
def aBuildSl (z : AV) (sz n : Nat) (parts : List (Nat × AV)) (u : AV) : Prop :=
  ∃ l, l.length = n ∧ (∀ e ∈ l, (e : AV).cells.length = sz) ∧ fillA (fun i => some (i * sz, sz)) ((List.replicate n z.cells).flatten) parts = some (flat l) ∧ u = .lst sz l .full
/-- What a slice may be, when it is held against nil. -/
def mayBe (x : AV) (c : Value) : Prop := match x with
  | .lst _ l m => if m = .nil then c = .slice none 0 0 else if l = [] then True else ∃ a n cap, c = .slice (some a) n cap
  | .own _ n => if n = 0 then True else ∃ a m cap, c = .slice (some a) m cap
  | _ => True
def allVals : List AV → Option (List Value)
  | [] => some []
  | .val v :: l => (allVals l).map (v :: ·)
  | _ :: _ => none
/-- A value that is known whole. -/
def plainV : AV → Option Value
  | .val v => some v
  | .agg cs => (allVals cs).map fun vs => .agg (List.toArray vs)
  | _ => none
def aBin (P : Program) (op : BinOp) (t : TypeId) (x y u : AV) : Prop := match plainV x, plainV y with
  | some a, some b => ∃ v, u = .val v ∧ ∀ (xo yo : Operand) (w : World), (do eqGuard op t xo yo a b; binOp op t a b : Sem Value).run P w = .ok v w
  | _, some (.slice none 0 0) => ∃ v, u = .val v ∧ ∀ c : Value, mayBe x c → ∀ (xo yo : Operand) (w : World), (do eqGuard op t xo yo c (.slice none 0 0); binOp op t c (.slice none 0 0) : Sem Value).run P w = .ok v w
  | _, _ => False
def aUn (P : Program) (op : UnOp) (x u : AV) : Prop := match x with
  | .val a => ∃ v, u = .val v ∧ ∀ w : World, (Op.unary op a).run P w = .ok v w
  | _ => False
/-- A byte. -/
def byt (b : UInt8) : AV := .val (.int .u8 b.toNat)
def isBytes (P : Program) (t : TypeId) : Bool := match P.underlying t with
  | some (.slice e) => match P.underlying e with
    | some (.int .u8) => true
    | _ => false
  | _ => false
def isString (P : Program) (t : TypeId) : Bool := match P.underlying t with
  | some .string => true
  | _ => false
def aConv (P : Program) (s d : TypeId) (x u : AV) : Prop :=
  if (isString P s && isBytes P d) = true then match x with
    | .val (.string str) => str.size ≤ maxLen ∧ u = .lst 1 (str.data.toList.map byt) .ro
    | _ => False
  else if (isBytes P s && isString P d) = true then match x with
    | .lst _ l _ => ∃ bs : List UInt8, l = bs.map byt ∧ u = .val (.string ⟨bs.toArray⟩)
    | _ => False
  else match x with
    | .val a => ∃ v, u = .val v ∧ ∀ w : World, (convert s d a).run P w = .ok v w
    | _ => False
def aBuiltin (P : Program) (b : Builtin) (ts : Array TypeId) (args : List AV) (u : AV) : Prop := match b, args with
  | .len, [.lst _ l _] => (∃ e, ts[0]? = some e ∧ ∃ d, P.underlying e = some (.slice d)) ∧ u = .val (.int .i64 l.length)
  | .len, [.own _ n] => (∃ e, ts[0]? = some e ∧ ∃ d, P.underlying e = some (.slice d)) ∧ u = .val (.int .i64 n)
  | .len, [.sub _ _ _ n] => (∃ e, ts[0]? = some e ∧ ∃ d, P.underlying e = some (.slice d)) ∧ u = .val (.int .i64 n)
  | b, args => (match b with | .len | .min | .max => True | _ => False) ∧ ∃ vs v, allVals args = some vs ∧ u = .val v ∧ ∀ (ty : TypeId) (cs : Array Bool) (w : World), (builtin b ts ty cs vs.toArray).run P w = .ok (.value v) w
/-- A call of a function that is told by its arguments alone. -/
def aPure (P : Program) (f : FuncId) (args : List AV) (u : AV) : Prop := ACalls P f args [] fun x σ' => x = .ret u ∧ σ' = []

end Go.Ab
