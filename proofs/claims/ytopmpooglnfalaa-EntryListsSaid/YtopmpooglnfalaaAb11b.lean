/- A logic over abstract states (part 11b): the meaning of all operations. No program in sight. -/
import Derived.Test.YtopmpooglnfalaaAb11a
set_option linter.unusedVariables false
set_option linter.unusedSimpArgs false
namespace Go.Ab
variable {P : Program}

/-! ### All of them -/
structure Mark where
  /-- calls (by the temporary that they write) of functions that are told by their arguments alone -/
  pf : Nat → Bool
  /-- literals of slices (likewise) that are rows of one's own -/
  ml : Nat → Bool
  /-- variables (likewise) that nobody writes into behind their making -/
  rv : Nat → Bool
  /-- loads (likewise) out of memory that turns no more -/
  fl : Nat → Bool
  /-- calls (likewise) that only look at memory of one's own -/
  rd : Nat → Bool
/-- A new variable that keeps what it has. -/
def aFreeze (cs : List AV) (u : AV) : Prop := (∀ c ∈ cs, c.one = true) ∧ u = .rptr cs
def marked (m : Nat → Bool) (d : Option Nat) : Bool := match d with
  | some d => m d
  | none => false
/-- A load out of memory that turns no more. -/
def loadF (ag : Bool) (s : Nat) (p u : AV) : Prop := match p with
  | .rptr cs => 0 < s ∧ (ag = false → s = 1) ∧ s ≤ cs.length ∧ u = mkV ag (cs.take s)
  | _ => False
def zOk (n s : Nat) (zs : List Value) : Bool := Nat.ble (n * s) 16777216 && zs.all Value.oneCell'

def semCls (M : Mark) (o : Oper) : Cls := match o.op with
  | .load _ _ => bif marked M.fl o.dst then .pure else .read
  | .lookup _ _ _ _ => .read
  | .entry _ => .read
  | .typeAssert _ _ _ _ => .pure
  | .move _ | .assign _ | .pick _ _ _ | .nilCheck _ | .extract _ _ | .field _ _ _ | .fieldAddr _ _ _ | .indexAddr _ _ _ | .index _ _ _ | .slice _ _ _ _ _ | .build _ _ | .binOp _ _ _ _ _ | .unOp _ _ _ | .makeInterface _ _ | .makeFunc _ _ _ | .convert _ _ _ => .pure
  | .buildSlice _ _ _ => bif marked M.ml o.dst then .eff else .pure
  | .box _ _ => bif marked M.rv o.dst then .pure else .eff
  | .alloc _ => bif marked M.rv o.dst then .pure else .eff
  | .call c => match c.callee with
    | .builtin b => match b with
      | .len => bif marked M.rd o.dst then .read else .pure
      | .min | .max => .pure
      | _ => .eff
    | .value _ => bif marked M.pf o.dst then .pure else bif marked M.rd o.dst then .read else .eff
    | _ => .eff
  | _ => .eff
def semPure (P : Program) (o : Oper) (ρ : Operand → AV) (u : AV) : Prop := match o.op with
  | .move x => u = ρ x
  | .assign x => u = ρ x
  | .pick c a b => aPick (ρ c) (ρ a) (ρ b) u
  | .nilCheck x => aNil (ρ x) u
  | .extract x i => aExt (ρ x) i u
  | .field t x i => match fieldOf P t i with
    | some (off, ag, s) => aField off ag s (ρ x) u
    | none => False
  | .fieldAddr t x i => match fieldOf P t i with
    | some (off, _, s) => aFieldAddr off s (ρ x) u
    | none => False
  | .indexAddr t x i => match elemOf P t with
    | some (c, _, s) => aIndexAddr c s (ρ x) (ρ i) u
    | none => False
  | .index t x i => match elemOf P t with
    | some (c, ag, s) => aIndex c ag s (ρ x) (ρ i) u
    | none => False
  | .slice t x lo hi mx => match elemOf P t with
    | some (c, _, s) => aSlice c s (ρ x) (lo.map ρ) (hi.map ρ) (mx.map ρ) u
    | none => False
  | .build t parts => match layoutOf P t with
    | some (zs, pl) => partsOne (parts.toList.map fun p => (p.1, ρ p.2)) ∧ aBuild (zs.map .val) (pl[·]?) (parts.toList.map fun p => (p.1, ρ p.2)) u
    | none => False
  | .buildSlice t n parts => match zeroOf P t with
    | some (_, zs, s) => bif zOk n s zs then partsOne (parts.toList.map fun p => (p.1, ρ p.2)) ∧ aBuildSl (mkE (zs.map .val)) s n (parts.toList.map fun p => (p.1, ρ p.2)) u ∧ (∀ l : List AV, u = .lst s l .full → ∀ c ∈ flat l, c.one = true) else False
    | none => False
  | .binOp op t x y _ => aBin P op t (ρ x) (ρ y) u
  | .unOp op _ x => aUn P op (ρ x) u
  | .makeInterface t x => bif P.concrete t then u = .ifc t (ρ x) else False
  | .makeFunc f a b => u = .fn f (a.toList.map ρ) (b.toList.map ρ)
  | .box _ x => aFreeze (ρ x).cells u
  | .alloc t => match zeroCells P t with
    | some zs => aFreeze (zs.map .val) u
    | none => False
  | .convert s d x => aConv P s d (ρ x) u
  | .call c => match c.callee with
    | .builtin b => aBuiltin P b c.argTypes (c.args.toList.map ρ) u
    | .value x => match calleeOf (ρ x) with
      | some (f, a, b) => aPureC P f (a ++ c.args.toList.map ρ ++ b) u
      | none => False
    | _ => False
  | .load t x => match shapeOf P t with
    | some (ag, s) => loadF ag s (ρ x) u
    | none => False
  | op => pureN P op (op.operands.toList.map ρ) u
def semRead (P : Program) (o : Oper) (ρ : Operand → AV) (σ : Store) (u : AV) : Prop := match o.op with
  | .load t x => match shapeOf P t with
    | some (ag, s) => loadA ag s (ρ x) σ u
    | none => False
  | op => readN P op (op.operands.toList.map ρ) σ u
def semEff (P : Program) (o : Oper) (ρ : Operand → AV) (σ : Store) (k kp : AV → Store → Prop) : Prop := match o.op with
  | .alloc t => match zeroCells P t with
    | some zs => aNewVar t (zs.map .val) σ k
    | none => False
  | .box t x => aNewVar t (ρ x).cells σ k
  | .store t x y => match shapeOf P t with
    | some (_, s) => storeA s (ρ x) (ρ y) σ k
    | none => False
  | .makeSlice t n c => match rowOf P t with
    | some (e, zs, s, b) => aMake e zs s b (ρ n) (ρ c) σ k
    | none => False
  | .buildSlice t n parts => match zeroOf P t with
    | some (e, zs, s) => bif zOk n s zs then partsOne (parts.toList.map fun p => (p.1, ρ p.2)) ∧ aRowLit e (mkE (zs.map .val)) s n (parts.toList.map fun p => (p.1, ρ p.2)) σ k else False
    | none => False
  | .panic x => (∃ t u, ρ x = .ifc t u) ∧ kp (ρ x) σ
  | .call c => match c.callee with
    | .builtin b => match b, c.args.toList, c.argTypes.toList with
      | .append, [d, x], [t, xt] => match rowOf P t with
        | some (e, _, s, b) => bif isStringOrSlice P xt then aAppend e s b (ρ d) (ρ x) σ (subK k) else False
        | none => False
      | _, _, _ => hookE P o.op (o.op.operands.toList.map ρ) σ k
    | .value x => match calleeOf (ρ x) with
      | some (f, a, b) => aCall P f (a ++ c.args.toList.map ρ ++ b) σ k kp
      | none => False
    | _ => hookE P o.op (o.op.operands.toList.map ρ) σ k
  | op => hookE P op (op.operands.toList.map ρ) σ k

end Go.Ab
