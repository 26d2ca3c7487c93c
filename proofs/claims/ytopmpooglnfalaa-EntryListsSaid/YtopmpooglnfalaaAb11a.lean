/- A logic over abstract states (part 11a): maps, walks over maps, interface values, clear, copy; calls that only look. No program in sight. -/
import Derived.Test.YtopmpooglnfalaaAb11
import Derived.MapKept
import Derived.Maps.RangeRun
set_option linter.unusedVariables false
set_option linter.unusedSimpArgs false
namespace Go.Ab
variable {P : Program}

/-- Keys are one. -/
def keyb : Value → Value → Bool
  | .string a, .string b => decide (a.data.toList = b.data.toList)
  | .int _ x, .int _ y => decide (x = y)
  | .bool a, .bool b => decide (a = b)
  | _, _ => false
theorem keyb_iff {d : TypeDesc} {a b : Value} (ha : MapKept.IsKey d a) (hb : MapKept.IsKey d b) : keyb a b = true ↔ a = b := by
  cases d <;> cases a <;> simp only [MapKept.IsKey] at ha <;> cases b <;> simp only [MapKept.IsKey] at hb
  · simp [keyb]
  · subst ha; subst hb; simp [keyb]
  · simp only [keyb, decide_eq_true_eq, Value.string.injEq]
    constructor
    · intro h; exact ByteArray.ext (Array.ext' h)
    · intro h; rw [h]
/-- A map's table: what is known of its type: what keys are, what is told of a key that isn't there. -/
def mapOf (P : Program) (t : TypeId) : Option (TypeDesc × Value) := match P.underlying t with
  | some (.map k e) => match P.underlying k, P.info? e with
    | some d, some i => match i.zero with
      | some z => some (d, z)
      | none => none
    | _, _ => none
  | _ => none
theorem mapOf_run {t : TypeId} {d : TypeDesc} {z : Value} (h : mapOf P t = some (d, z)) : ∃ k e, P.underlying t = some (.map k e) ∧ P.underlying k = some d ∧ ∀ w : World, (zeroValue e).run P w = .ok z w := by
  unfold mapOf at h
  split at h
  · rename_i k e hu
    split at h
    · rename_i d' i hk hi
      split at h
      · rename_i z' hz
        simp only [Option.some.injEq, Prod.mk.injEq] at h
        obtain ⟨rfl, rfl⟩ := h
        exact ⟨k, e, hu, hk, fun w => by simp [zeroValue, typeInfo, hi, hz]⟩
      · cases h
    · cases h
  · cases h
abbrev MapL := List (Nat × Value × AV)
def findM (k : Value) (l : MapL) : Option AV := (l.find? fun x => keyb k x.2.1).map (·.2.2)
def setM (k : Value) (v : AV) (clock : Nat) : MapL → MapL
  | [] => [(clock, k, v)]
  | x :: l => bif keyb k x.2.1 then (x.1, x.2.1, v) :: l else x :: setM k v clock l
def lookA (P : Program) (t : TypeId) (ok : Bool) (m k : AV) (σ : Store) (u : AV) : Prop := match m, k with
  | .val (.map (some b)), .val kv => ∃ d z l clock, mapOf P t = some (d, z) ∧ MapKept.IsKey d kv ∧ Ent.map b l clock ∈ σ ∧ (∀ x ∈ l, MapKept.IsKey d x.2.1) ∧
      u = bif ok then .tuple [(findM kv l).getD (ofV z), .val (.bool (findM kv l).isSome)] else (findM kv l).getD (ofV z)
  | _, _ => False
def lenM (m : AV) (σ : Store) (u : AV) : Prop := match m with
  | .val (.map (some b)) => ∃ l clock, Ent.map b l clock ∈ σ ∧ u = .val (.int .i64 (l.length : Nat))
  | _ => False
def entryA (it : AV) (σ : Store) (u : AV) : Prop := match it with
  | .val (.pointer (some a)) => a.spot = none ∧ a.off = 0 ∧ ∃ mb since seen born stepped l x, Ent.iter a.block mb since (seen ++ [born]) stepped ∈ σ ∧ Ent.map mb l stepped ∈ σ ∧ x ∈ l ∧ x.1 = born ∧ u = .tuple [.val x.2.1, x.2.2]
  | _ => False
def isMapT (P : Program) (t : TypeId) : Bool := match P.underlying t with
  | some (.map _ _) => true
  | _ => false
def groundA (u : AV) : Prop := ∀ R R' v, VR R v u → VR R' v u
/-- A call of a function that is told by its arguments alone, some of these told as memory that turns no more; what it hands back doesn't lie in memory. -/
def lookC (P : Program) (f : FuncId) (args : List AV) (σ : Store) (u : AV) : Prop := ∃ σ' args', Sub σ args σ' args' ∧ aPure P f args' u ∧ groundA u
def pureN (P : Program) (op : Op) (args : List AV) (u : AV) : Prop := match op, args with
  | .typeAssert _ _ T ok, [x] => match x with
    | .ifc t v => (match P.underlying T with | some (.interface _) => False | some _ => True | none => False) ∧ t = T ∧ u = bif ok then .tuple [v, .val (.bool true)] else v
    | _ => False
  | _, _ => False
def readN (P : Program) (op : Op) (args : List AV) (σ : Store) (u : AV) : Prop := match op, args with
  | .lookup t _ _ ok, [m, k] => lookA P t ok m k σ u
  | .entry _, [it] => entryA it σ u
  | .call c, args => match c.callee with
    | .builtin b => match b, c.argTypes.toList, args with
      | .len, [t], [m] => isMapT P t = true ∧ lenM m σ u
      | _, _, _ => False
    | .value _ => match args with
      | x :: args => match calleeOf x with
        | some (f, a, b) => lookC P f (a ++ args ++ b) σ u
        | none => False
      | [] => False
    | _ => False
  | _, _ => False

def postMake (σ : Store) (u : AV) (σ' : Store) : Prop := ∃ b, u = .val (.map (some b)) ∧ σ' = .map b [] 0 :: σ
def postRange (σ : Store) (mb clock : Nat) (u : AV) (σ' : Store) : Prop := ∃ b, u = .val (.pointer (some ⟨b, 0, none⟩)) ∧ σ' = .iter b mb clock [] clock :: σ
def leftM (l : MapL) (seen : List Nat) : MapL := l.filter fun x => !seen.contains x.1
def postNext (σ1 σ2 : Store) (r mb clock : Nat) (seen : List Nat) (l : MapL) (u : AV) (σ' : Store) : Prop :=
  (leftM l seen = [] ∧ u = .tuple [.val (.bool false)] ∧ σ' = σ1 ++ .iter r mb clock seen clock :: σ2) ∨
  ∃ x ∈ leftM l seen, u = .tuple [.val (.bool true), .val x.2.1, x.2.2] ∧ σ' = σ1 ++ .iter r mb clock (seen ++ [x.1]) clock :: σ2
/-- The first elements of what is copied. -/
def srcP (sz : Nat) (σ : Store) (x : AV) (ys : List AV) : Prop := match x with
  | .lst z l _ => z = sz ∧ ys = l
  | .own v _ => ∃ E l fl, Ent.row v E sz l fl ∈ σ ∧ ys = l
  | .sub v z a n => z = sz ∧ ∃ E l fl, Ent.row v E sz l fl ∈ σ ∧ a + n ≤ l.length ∧ ys = (l.drop a).take n
  | .val (.slice none 0 0) => ys = []
  | _ => False
/-- What is copied over: the place it goes to. -/
def szOf (P : Program) (t : TypeId) : Option (TypeId × Nat) := match P.underlying t with
  | some (.slice e) => (P.info? e).map fun i => (e, i.size)
  | _ => none
def copyOk (P : Program) (t : TypeId) (sz : Nat) (d : AV) (ys : List AV) (σ : Store) : Prop := match d with
  | .sub v z a n => z = sz ∧ ∃ E l, szOf P t = some (E, sz) ∧ Ent.row v E sz l 0 ∈ σ ∧ a + n ≤ l.length
  | .val (.slice (some p) n _) => p.spot = none ∧ sz = 1 ∧ ∃ E tt cs, szOf P t = some (E, 1) ∧ Ent.var p.block tt cs ∈ σ ∧ p.off + n ≤ cs.length ∧ ∀ y ∈ ys, y.one = true ∧ y.cells = [y]
  | _ => False
def copyTo (d : AV) (ys : List AV) (σ : Store) (u : AV) (σ' : Store) : Prop := match d with
  | .sub v sz a n => ∃ E l σ1 σ2, σ = σ1 ++ .row v E sz l 0 :: σ2 ∧
      u = .val (.int .i64 ((min ys.length n : Nat) : Int)) ∧ σ' = σ1 ++ .row v E sz (l.take a ++ ys.take (min ys.length n) ++ l.drop (a + min ys.length n)) 0 :: σ2
  | .val (.slice (some p) n _) => ∃ tt cs σ1 σ2, σ = σ1 ++ .var p.block tt cs :: σ2 ∧
      u = .val (.int .i64 ((min ys.length n : Nat) : Int)) ∧ σ' = σ1 ++ .var p.block tt (splice cs p.off (ys.take (min ys.length n))) :: σ2
  | _ => False
/-- What an operation does to memory of one's own. -/
def effN (P : Program) (op : Op) (args : List AV) (σ : Store) (post : AV → Store → Prop) : Prop := match op, args with
  | .makeMap _ none, [] => post = postMake σ
  | .mapUpdate t _ _ _, [m, k, v] => match m, k with
    | .val (.map (some b)), .val kv => ∃ d z l clock σ1 σ2, mapOf P t = some (d, z) ∧ MapKept.IsKey d kv ∧ σ = σ1 ++ .map b l clock :: σ2 ∧ (∀ x ∈ l, MapKept.IsKey d x.2.1) ∧
        post = fun u σ' => u = .undef ∧ σ' = σ1 ++ .map b (setM kv v clock l) (bif l.any (fun x => keyb kv x.2.1) then clock else clock + 1) :: σ2
    | _, _ => False
  | .range t _, [m] => match m with
    | .val (.map (some mb)) => ∃ l clock, isMapT P t = true ∧ Ent.map mb l clock ∈ σ ∧ post = postRange σ mb clock
    | _ => False
  | .next _ false, [it] => match it with
    | .val (.pointer (some a)) => a.spot = none ∧ a.off = 0 ∧ ∃ σ1 σ2 mb clock seen l, σ = σ1 ++ .iter a.block mb clock seen clock :: σ2 ∧ Ent.map mb l clock ∈ σ1 ++ σ2 ∧ post = postNext σ1 σ2 a.block mb clock seen l
    | _ => False
  | .call c, args => match c.callee with
    | .builtin b => match b, c.argTypes.toList, args with
      | .clear, [t], [x] => match x with
        | .sub v sz a n => ∃ E zs s by_ l σ1 σ2, rowOf P t = some (E, zs, s, by_) ∧ (∀ z ∈ zs, z.oneCell' = true) ∧ σ = σ1 ++ .row v E sz l 0 :: σ2 ∧ s = sz ∧ a + n ≤ l.length ∧
            post = fun u σ' => u = .undef ∧ σ' = σ1 ++ .row v E sz (l.take a ++ List.replicate n (mkE (zs.map .val)) ++ l.drop (a + n)) 0 :: σ2
        | _ => False
      | .copy, [t, xt], [d, x] => ∃ sz ys, srcP sz σ x ys ∧ copyOk P t sz d ys σ ∧ post = copyTo d ys σ
      | _, _, _ => False
    | _ => False
  | _, _ => False
def hookE (P : Program) (op : Op) (args : List AV) (σ : Store) (k : AV → Store → Prop) : Prop := ∃ post, effN P op args σ post ∧ ∀ u σ', post u σ' → k u σ'
theorem hookE_mono {op : Op} {args : List AV} {σ : Store} {k k' : AV → Store → Prop} (hk : ∀ u σ', k u σ' → k' u σ') (h : hookE P op args σ k) : hookE P op args σ k' := by
  obtain ⟨post, h1, h2⟩ := h
  exact ⟨post, h1, fun u σ' hp => hk _ _ (h2 u σ' hp)⟩

theorem exec_builtin {o : Oper} {b : Builtin} {args : Array Operand} {ts : Array TypeId} (ho : o.op = .call { callee := .builtin b, args, argTypes := ts }) (ev : Operand → Value) (w : World) :
    ∃ cs, (execOp ev o).run P w = (builtin b ts o.type cs (args.map ev)).run P w := by
  unfold execOp
  rw [ho]
  exact ⟨_, rfl⟩
theorem borrow_ {f : FuncId} {args args' : List AV} {σ σ' : Store} {u : AV} (hs : Sub σ args σ' args') (hp : aPure P f args' u) (hg : groundA u) : ACalls P f args σ fun x τ => x = .ret u ∧ τ = σ := by
  refine ⟨hp.1, fun R w vs hv hst => ?_⟩
  obtain ⟨R1, h1, h2, h3⟩ := hs R w vs hv hst
  have h2' : St R1 w [] := h2.sub (List.nil_sublist _)
  refine (hp.2 R1 w vs h1 h2').mono ?_
  rintro e w' ⟨x, R', σ'', he, ⟨rfl, rfl⟩, h4, h5⟩
  have hb : ∀ b, b < w.heap.size → w'.heap[b]? = w.heap[b]? := fun b hb => h5.block b hb (by simp [blks])
  refine ⟨.ret u, R, σ, ?_, ⟨rfl, rfl⟩, ⟨fun a v ha => ?_, fun e he => (hst.ents e he).keep (fun _ _ h => h) (fun b hb' => hb b ((hst.ents e he).lt hb')) (fun b _ a x h _ => h), hst.apart⟩, ⟨fun _ _ h => h, h5.os, h5.tape, h5.output, h5.size, fun k hk _ => hb k hk, fun k hk => .inl hk, fun a v ha => .inl ha⟩⟩
  · cases e with
    | returned v => exact hg R' R v he
    | panicked c => exact he.elim
    | outgrown => exact he.elim
  · have hc := hst.ro a v ha
    have hlt := World.block_lt_of_cell? w a hc
    rw [← hc]
    simp only [World.cell?, hb a.block hlt]
theorem pureN_ok (o : Oper) (ρ : Operand → AV) (u : AV) (σ : Store) (k kp : AV → Store → Prop) (h : pureN P o.op (o.op.operands.toList.map ρ) u) (hk : k u σ) : AOp P o ρ σ k kp := by
  unfold pureN at h
  split at h
  · rename_i x xt T ok y hop hargs
    have e : y = ρ x := by rw [hop] at hargs; simpa [Op.operands] using hargs.symm
    subst e
    split at h
    · rename_i t v ex
      obtain ⟨h1, rfl, hu⟩ := h
      refine AOp.ofRun fun R w ev ha hs => ?_
      have hx := ha x
      rw [ex] at hx
      generalize hxv : ev x = xv at hx
      cases hx with
      | ifc hv =>
        rename_i v0
        refine ⟨bif ok then .tuple #[v0, .bool true] else v0, w, u, R, σ, ?_, hk, ?_, hs, Ext.refl _ _ _⟩
        · unfold execOp
          rw [hop]
          cases hd : P.underlying t with
          | none => rw [hd] at h1; exact h1.elim
          | some d =>
            rw [hd] at h1
            cases d <;> first | exact h1.elim | (cases ok <;> simp [Instr.typeAssert, run_underlying hd, hxv])
        · rw [hu]
          cases ok with
          | false => exact hv
          | true => exact VR.tuple' (VRs.cons hv (VRs.cons (.val _) (VRs.nil R)))
    · exact h.elim
  · exact h.elim

theorem map_at {R : RO} {w : World} {σ : Store} (hs : St R w σ) {b : Nat} {l : MapL} {clock : Nat} (hm : Ent.map b l clock ∈ σ) :
    ∃ es : Array MapEntry, w.heap[b]? = some (.map es clock) ∧ es.toList.length = l.length ∧ (∀ (i : Nat) (e : MapEntry) (x : Nat × Value × AV), es.toList[i]? = some e → l[i]? = some x → e.born = x.1 ∧ e.key = x.2.1 ∧ VR R e.val x.2.2) ∧ (∀ x ∈ l, x.1 < clock) ∧ (l.map (·.1)).Nodup := by
  obtain ⟨⟨es, h1, h2, h3⟩, h4, h5, _⟩ := hs.ents _ hm
  exact ⟨es, h1, h2, h3, h4, h5⟩
theorem map_mem {R : RO} {es : Array MapEntry} {l : MapL} (h2 : es.toList.length = l.length) (h3 : ∀ (i : Nat) (e : MapEntry) (x : Nat × Value × AV), es.toList[i]? = some e → l[i]? = some x → e.born = x.1 ∧ e.key = x.2.1 ∧ VR R e.val x.2.2)
    {e : MapEntry} (he : e ∈ es.toList) : ∃ x ∈ l, e.born = x.1 ∧ e.key = x.2.1 ∧ VR R e.val x.2.2 := by
  obtain ⟨i, hi⟩ := List.mem_iff_getElem?.1 he
  have hlt : i < l.length := by rw [← h2]; exact (List.getElem?_eq_some_iff.1 hi).1
  exact ⟨l[i], List.getElem_mem _, h3 i e _ hi (List.getElem?_eq_getElem hlt)⟩
theorem map_mem' {R : RO} {es : Array MapEntry} {l : MapL} (h2 : es.toList.length = l.length) (h3 : ∀ (i : Nat) (e : MapEntry) (x : Nat × Value × AV), es.toList[i]? = some e → l[i]? = some x → e.born = x.1 ∧ e.key = x.2.1 ∧ VR R e.val x.2.2)
    {x : Nat × Value × AV} (hx : x ∈ l) : ∃ e ∈ es.toList, e.born = x.1 ∧ e.key = x.2.1 ∧ VR R e.val x.2.2 := by
  obtain ⟨i, hi⟩ := List.mem_iff_getElem?.1 hx
  have hlt : i < es.toList.length := by rw [h2]; exact (List.getElem?_eq_some_iff.1 hi).1
  exact ⟨es.toList[i], List.getElem_mem _, h3 i _ x (List.getElem?_eq_getElem hlt) hi⟩
theorem map_borns {R : RO} {es : Array MapEntry} {l : MapL} (h2 : es.toList.length = l.length) (h3 : ∀ (i : Nat) (e : MapEntry) (x : Nat × Value × AV), es.toList[i]? = some e → l[i]? = some x → e.born = x.1 ∧ e.key = x.2.1 ∧ VR R e.val x.2.2) :
    es.toList.map (·.born) = l.map (·.1) := by
  apply List.ext_getElem?
  intro i
  rw [List.getElem?_map, List.getElem?_map]
  rcases Nat.lt_or_ge i l.length with hi | hi
  · have hi' : i < es.toList.length := by omega
    rw [List.getElem?_eq_getElem hi, List.getElem?_eq_getElem hi']
    have := (h3 i _ _ (List.getElem?_eq_getElem hi') (List.getElem?_eq_getElem hi)).1
    simpa using this
  · rw [List.getElem?_eq_none hi, List.getElem?_eq_none (by omega)]
    rfl
theorem findM_spec {R : RO} {d : TypeDesc} {k : Value} (hk : MapKept.IsKey d k) : ∀ (l : MapL) (es : List MapEntry) (i : Nat), es.length = l.length → (∀ (i : Nat) (e : MapEntry) (x : Nat × Value × AV), es[i]? = some e → l[i]? = some x → e.born = x.1 ∧ e.key = x.2.1 ∧ VR R e.val x.2.2) → (∀ x ∈ l, MapKept.IsKey d x.2.1) →
    (findM k l = none ∧ Instr.findNow d k es i = some none) ∨ ∃ u v j, findM k l = some u ∧ Instr.findNow d k es i = some (some (j, v)) ∧ VR R v u
  | [], [], i, _, _, _ => .inl ⟨rfl, rfl⟩
  | x :: l, [], i, h, _, _ => by simp at h
  | [], e :: es, i, h, _, _ => by simp at h
  | x :: l, e :: es, i, hl, hr, hks => by
    obtain ⟨h1, h2, h3⟩ := hr 0 e x rfl rfl
    have hkx := hks x List.mem_cons_self
    obtain ⟨r, hr1, hr2⟩ := MapKept.sameNow_of_keys hk (show MapKept.IsKey d e.key by rw [h2]; exact hkx)
    have hb := keyb_iff hk hkx
    cases r with
    | true =>
      have hkb : keyb k x.2.1 = true := hb.2 (by rw [← h2]; exact hr2.1 rfl)
      exact .inr ⟨x.2.2, e.val, i, by simp [findM, hkb], by simp [Instr.findNow, hr1], h3⟩
    | false =>
      have hkb : keyb k x.2.1 = false := by
        cases hc : keyb k x.2.1 with
        | false => rfl
        | true => have := hr2.2 (by rw [h2]; exact hb.1 hc); cases this
      have := findM_spec hk l es (i + 1) (by simpa using hl) (fun i e x he hx => hr (i + 1) e x (by simpa using he) (by simpa using hx)) (fun x hx => hks x (List.mem_cons_of_mem _ hx))
      have hfm : findM k (x :: l) = findM k l := by simp [findM, hkb]
      rw [hfm]
      simpa [Instr.findNow, hr1] using this
theorem ofV_rel (R : RO) (v : Value) : VR R v (ofV v) := by
  cases v with
  | agg cs => exact .agg (by simp) (VRs.ofVals R cs.toList).2
  | _ => exact .val _
theorem readN_ok (o : Oper) (ρ : Operand → AV) (u : AV) (σ : Store) (k kp : AV → Store → Prop) (h : readN P o.op (o.op.operands.toList.map ρ) σ u) (hk : k u σ) : AOp P o ρ σ k kp := by
  unfold readN at h
  split at h
  · rename_i t x i ok m ky hop hargs
    rw [hop] at hargs
    simp only [Op.operands, List.map_cons, List.map_nil, List.cons.injEq, and_true] at hargs
    obtain ⟨rfl, rfl⟩ := hargs
    unfold lookA at h
    split at h
    · rename_i b kv e1 e2
      obtain ⟨d, z, l, clock, hm, hkv, hmem, hks, hu⟩ := h
      obtain ⟨kt, et, q1, q2, q3⟩ := mapOf_run hm
      refine AOp.ofRun fun R w ev ha hs => ?_
      have hx := ha x; have hi := ha i
      rw [e1] at hx; rw [e2] at hi
      have hxv := hx.val_inv; have hiv := hi.val_inv
      obtain ⟨es, g1, g2, g3, g4, g5⟩ := map_at hs hmem
      have hck : ∀ e : Bool, (Instr.checkKey e 10000 kt kv).run P w = .ok () w := fun e => MapKept.run_checkKey q2 hkv e 9999
      rcases findM_spec hkv l es.toList 0 g2 g3 hks with ⟨f1, f2⟩ | ⟨u0, v0, j, f1, f2, f3⟩
      · have hfk := MapKept.run_findKey (P := P) (w := w) q2 f2
        refine ⟨bif ok then .tuple #[z, .bool false] else z, w, u, R, σ, ?_, hk, ?_, hs, Ext.refl _ _ _⟩
        · unfold execOp
          rw [hop]
          simp only [Instr.lookup, hxv, hiv, Sem.run_bind, run_underlying q1, Result.andThen_ok, MapKept.run_getObj_map g1, hck, hfk, q3, Sem.run_pure]
          cases ok <;> rfl
        · rw [hu, f1]
          cases ok with
          | false => exact ofV_rel R z
          | true => exact VR.tuple' (VRs.cons (ofV_rel R z) (VRs.cons (.val _) (VRs.nil R)))
      · have hfk := MapKept.run_findKey (P := P) (w := w) q2 f2
        refine ⟨bif ok then .tuple #[v0, .bool true] else v0, w, u, R, σ, ?_, hk, ?_, hs, Ext.refl _ _ _⟩
        · unfold execOp
          rw [hop]
          simp only [Instr.lookup, hxv, hiv, Sem.run_bind, run_underlying q1, Result.andThen_ok, MapKept.run_getObj_map g1, hck, hfk, q3, Sem.run_pure]
          cases ok <;> rfl
        · rw [hu, f1]
          cases ok with
          | false => exact f3
          | true => exact VR.tuple' (VRs.cons f3 (VRs.cons (.val _) (VRs.nil R)))
    · exact h.elim
  · rename_i it y hop hargs
    have e : y = ρ it := by rw [hop] at hargs; simpa [Op.operands] using hargs.symm
    subst e
    unfold entryA at h
    split at h
    · rename_i a e1
      obtain ⟨hsp, hoff, mb, since, seen, born, stepped, l, x, hit, hmap, hx, hb, hu⟩ := h
      refine AOp.ofRun fun R w ev ha hs => ?_
      have hx1 := ha it
      rw [e1] at hx1
      have hiv := hx1.val_inv
      obtain ⟨es, g1, g2, g3, g4, g5⟩ := map_at hs hmap
      obtain ⟨k1, _⟩ := hs.ents _ hit
      obtain ⟨e, he, b1, b2, b3⟩ := map_mem' g2 g3 hx
      have hn : (es.toList.map (·.born)).Nodup := by rw [map_borns g2 g3]; exact g5
      obtain ⟨ab, ao, asp⟩ := a
      simp only at hsp hoff k1
      subst hsp; subst hoff
      have hit' : w.heap[ab]? = some (.mapIter (some mb) since (seen.toArray.push e.born) stepped) := by
        rw [k1, b1, hb]; simp
      have hrun := run_entry_at (P := P) w ab mb since seen.toArray es stepped e hit' g1 he hn
      refine ⟨.tuple #[e.key, e.val], w, u, R, σ, ?_, hk, ?_, hs, Ext.refl _ _ _⟩
      · unfold execOp
        rw [hop]
        simp only [Sem.run_bind, hiv, hrun, Result.andThen_ok, Sem.run_pure]
      · rw [hu, b2]
        exact VR.tuple' (VRs.cons (.val _) (VRs.cons b3 (VRs.nil R)))
    · exact h.elim
  · rename_i c hop
    obtain ⟨callee, cargs, ts⟩ := c
    rw [hop] at h
    cases callee with
    | builtin b =>
      simp only [Op.operands, Call.operands, List.map_map] at h
      split at h
      · rename_i t m hts hm
        obtain ⟨hmt, hl⟩ := h
        unfold lenM at hl
        split at hl
        · rename_i b
          obtain ⟨l, clock, hmem, hu⟩ := hl
          refine AOp.ofRun fun R w ev ha hs => ?_
          obtain ⟨x, hx, hxm⟩ : ∃ x, cargs.toList = [x] ∧ ρ x = .val (.map (some b)) := by
            have h1 : cargs.toList.map ρ = [.val (.map (some b))] := by simpa using hm
            match hc : cargs.toList, h1 with
            | [x], h1 => exact ⟨x, rfl, by simpa using h1⟩
            | [], h1 => simp at h1
            | _ :: _ :: _, h1 => simp at h1
          have hv := ha x
          rw [hxm] at hv
          have hxv := hv.val_inv
          obtain ⟨es, g1, g2, _⟩ := map_at hs hmem
          have e1 : cargs = #[x] := by apply Array.ext'; simp [hx]
          have e2 : ts = #[t] := by apply Array.ext'; simp [hts]
          subst e1; subst e2
          refine ⟨.int .i64 (l.length : Nat), w, u, R, σ, ?_, hk, by rw [hu]; exact .val _, hs, Ext.refl _ _ _⟩
          obtain ⟨kt, et, q1⟩ : ∃ k e, P.underlying t = some (.map k e) := by
            unfold isMapT at hmt
            split at hmt
            · exact ⟨_, _, by assumption⟩
            · cases hmt
          obtain ⟨cs, hex⟩ := exec_builtin (P := P) hop ev w
          have e4 : (#[x] : Array Operand).map ev = #[ev x] := by simp
          rw [hex, e4, hxv]
          have e3 : es.size = l.length := by rw [← g2]; simp
          simp [builtin, Builtin.len_, run_underlying q1, MapKept.run_getObj_map g1, goInt, e3]
        · exact hl.elim
      · exact h.elim
    | value x =>
      simp only [Op.operands, Call.operands, Array.toList_append, List.map_append, List.map_cons, List.map_nil, List.cons_append, List.nil_append] at h
      split at h
      · rename_i f a b hc
        obtain ⟨σ', args', h1, h2, h3⟩ := h
        exact ef_call hop hc ⟨σ, _, Sub.refl _ _, (borrow_ h1 h2 h3).mono fun x τ ⟨e1, e2⟩ => by rw [e1, e2]; exact hk⟩
      · exact h.elim
    | invoke r m => exact h.elim
  · exact h.elim

theorem setM_rel {R : RO} {d : TypeDesc} {k : Value} (hk : MapKept.IsKey d k) (v : Value) (u : AV) (hv : VR R v u) (clock : Nat) : ∀ (l : MapL) (es : List MapEntry) (i : Nat), es.length = l.length → (∀ (i : Nat) (e : MapEntry) (x : Nat × Value × AV), es[i]? = some e → l[i]? = some x → e.born = x.1 ∧ e.key = x.2.1 ∧ VR R e.val x.2.2) → (∀ x ∈ l, MapKept.IsKey d x.2.1) →
    ((l.any fun x => keyb k x.2.1) = false ∧ Instr.findNow d k es i = some none ∧ setM k u clock l = l ++ [(clock, k, u)]) ∨
    ∃ j v0, (l.any fun x => keyb k x.2.1) = true ∧ Instr.findNow d k es i = some (some (i + j, v0)) ∧ (es[j]?).map (·.key) = some k ∧ (setM k u clock l).length = l.length ∧ (setM k u clock l).map (·.1) = l.map (·.1) ∧
      ∀ (i : Nat) (e : MapEntry) (x : Nat × Value × AV), (es.modify j fun e => { e with key := k, val := v })[i]? = some e → (setM k u clock l)[i]? = some x → e.born = x.1 ∧ e.key = x.2.1 ∧ VR R e.val x.2.2
  | [], [], i, _, _, _ => .inl ⟨rfl, rfl, rfl⟩
  | x :: l, [], i, h, _, _ => by simp at h
  | [], e :: es, i, h, _, _ => by simp at h
  | x :: l, e :: es, i, hl, hr, hks => by
    obtain ⟨h1, h2, h3⟩ := hr 0 e x rfl rfl
    have hkx := hks x List.mem_cons_self
    obtain ⟨r, hr1, hr2⟩ := MapKept.sameNow_of_keys hk (show MapKept.IsKey d e.key by rw [h2]; exact hkx)
    have hb := keyb_iff hk hkx
    cases r with
    | true =>
      have hkk : k = x.2.1 := by rw [← h2]; exact hr2.1 rfl
      have hkb : keyb k x.2.1 = true := hb.2 hkk
      refine .inr ⟨0, e.val, by simp [hkb], by simp [Instr.findNow, hr1], by simp [h2, hkk], by simp [setM, hkb], by simp [setM, hkb], ?_⟩
      intro i e' x' he hx
      simp only [setM, hkb, cond_true] at hx
      cases i with
      | zero =>
        simp [List.modify_cons] at he hx
        subst he; subst hx
        exact ⟨h1, hkk, hv⟩
      | succ i => exact hr (i + 1) e' x' (by simpa [List.modify_cons] using he) (by simpa using hx)
    | false =>
      have hkb : keyb k x.2.1 = false := by
        cases hc : keyb k x.2.1 with
        | false => rfl
        | true => have := hr2.2 (by rw [h2]; exact hb.1 hc); cases this
      have ih := setM_rel hk v u hv clock l es (i + 1) (by simpa using hl) (fun i e x he hx => hr (i + 1) e x (by simpa using he) (by simpa using hx)) (fun x hx => hks x (List.mem_cons_of_mem _ hx))
      rcases ih with ⟨g1, g2, g3⟩ | ⟨j, v0, g1, g2, g3, g4, g5, g6⟩
      · exact .inl ⟨by simp only [List.any_cons, hkb, Bool.false_or]; exact g1, by simp [Instr.findNow, hr1, g2], by simp [setM, hkb, g3]⟩
      · refine .inr ⟨j + 1, v0, by simp only [List.any_cons, hkb, Bool.false_or]; exact g1, by simp [Instr.findNow, hr1, g2]; omega, by simpa using g3, by simp [setM, hkb, g4], by simp [setM, hkb, g5], ?_⟩
        intro i e' x' he hx
        simp only [setM, hkb, cond_false] at hx
        cases i with
        | zero =>
          simp [List.modify_cons] at he hx
          subst he; subst hx
          exact ⟨h1, h2, h3⟩
        | succ i => exact g6 i e' x' (by simpa [List.modify_cons] using he) (by simpa using hx)
theorem st_newEnt {R : RO} {w : World} {σ : Store} (hs : St R w σ) (o : Obj) {e : Ent} (hb : e.blk = some w.heap.size) (he : EntOk R (w.alloc o) e) :
    St R (w.alloc o) (e :: σ) ∧ Ext R w σ R (w.alloc o) (e :: σ) := by
  have hold : ∀ k, k < w.heap.size → (w.alloc o).heap[k]? = w.heap[k]? := (MapKept.heap_alloc w o).2
  have hsz : w.heap.size ≤ (w.alloc o).heap.size := (World.grownBy_alloc w o none).size
  refine ⟨⟨fun a v ha => ?_, ?_, ?_⟩, ⟨fun _ _ h => h, rfl, rfl, rfl, hsz, fun k hk _ => hold k hk, ?_, fun a v ha => .inl ha⟩⟩
  · have := hs.ro a v ha
    have hlt := World.block_lt_of_cell? w a this
    rw [← this]
    simp only [World.cell?, hold _ hlt]
  · intro e' he'
    rcases List.mem_cons.1 he' with rfl | he'
    · exact he
    · exact (hs.ents e' he').keep (fun _ _ h => h) (fun b hb => hold b ((hs.ents e' he').lt hb)) fun _ _ _ _ h _ => h
  · refine List.pairwise_cons.2 ⟨fun e' he' b h1 h2 => ?_, hs.apart⟩
    rw [hb] at h1
    have := (hs.ents e' he').lt h2
    cases h1
    omega
  · intro k hk
    obtain ⟨e', he', hk'⟩ := mem_blks.1 hk
    rcases List.mem_cons.1 he' with rfl | he'
    · rw [hb] at hk'; cases hk'; exact .inr (Nat.le_refl _)
    · exact .inl (mem_blks.2 ⟨e', he', hk'⟩)
theorem ro_old {R : RO} {w : World} {σ : Store} (hs : St R w σ) : ∀ a x, R a = some x → a.block ≠ w.heap.size := fun a x ha e => by
  have := hs.roLt ha
  omega

theorem change_obj {R : RO} {w w1 : World} {σ1 σ2 : Store} {e e' : Ent} (hs : St R w (σ1 ++ e :: σ2)) {b : Nat} (hb : e.blk = some b) (hb' : e'.blk = some b) (h1 : w1 = w ∨ w1 = w.drew) (o : Obj) (hro : ∀ a x, R a = some x → a.block ≠ b) (he : ∀ w' : World, w'.heap[b]? = some o → (∀ k, k ≠ b → w'.heap[k]? = w.heap[k]?) → EntOk R w' e') :
    St R { w1 with heap := w1.heap.setIfInBounds b o } (σ1 ++ e' :: σ2) ∧ Ext R w (σ1 ++ e :: σ2) R { w1 with heap := w1.heap.setIfInBounds b o } (σ1 ++ e' :: σ2) := by
  have hlt : b < w.heap.size := hs.lt (mem_blks.2 ⟨e, by simp, hb⟩)
  have hh : w1.heap = w.heap := by rcases h1 with rfl | rfl <;> rfl
  have hnew : ({ w1 with heap := w1.heap.setIfInBounds b o } : World).heap[b]? = some o := by
    show (w1.heap.setIfInBounds b o)[b]? = some o
    rw [hh, Array.getElem?_setIfInBounds]; simp [hlt]
  have hold : ∀ k, k ≠ b → ({ w1 with heap := w1.heap.setIfInBounds b o } : World).heap[k]? = w.heap[k]? := by
    intro k hk
    show (w1.heap.setIfInBounds b o)[k]? = _
    rw [hh, Array.getElem?_setIfInBounds, if_neg (fun e => hk e.symm)]
  refine st_change hs hb hb' ?_ ?_ ?_ ?_ hold (fun a v ha hab => absurd hab (hro a v ha)) (he _ hnew hold)
  · rcases h1 with rfl | rfl <;> rfl
  · rcases h1 with rfl | rfl <;> rfl
  · rcases h1 with rfl | rfl <;> rfl
  · show (w1.heap.setIfInBounds b o).size = _
    rw [hh]; simp
theorem leftOf_mem {R : RO} {es : Array MapEntry} {l : MapL} (h2 : es.toList.length = l.length) (h3 : ∀ (i : Nat) (e : MapEntry) (x : Nat × Value × AV), es.toList[i]? = some e → l[i]? = some x → e.born = x.1 ∧ e.key = x.2.1 ∧ VR R e.val x.2.2) (seen : List Nat) :
    ((leftOf es seen.toArray).size = 0 → leftM l seen = []) ∧ ∀ e ∈ (leftOf es seen.toArray).toList, ∃ x ∈ leftM l seen, e.born = x.1 ∧ e.key = x.2.1 ∧ VR R e.val x.2.2 := by
  constructor
  · intro h
    apply List.filter_eq_nil_iff.2
    intro x hx hc
    obtain ⟨e, he, b1, _, _⟩ := map_mem' h2 h3 hx
    have hm : e ∈ leftOf es seen.toArray := by
      unfold leftOf
      simp only [Array.mem_filter]
      exact ⟨Array.mem_toList_iff.1 he, by rw [b1]; simpa using hc⟩
    have := Array.eq_empty_of_size_eq_zero h
    rw [this] at hm
    simp at hm
  · intro e he
    unfold leftOf at he
    simp only [Array.toList_filter, List.mem_filter] at he
    obtain ⟨x, hx, b1, b2, b3⟩ := map_mem h2 h3 he.1
    exact ⟨x, List.mem_filter.2 ⟨hx, by rw [← b1]; simpa using he.2⟩, b1, b2, b3⟩
/-- Some cells of a row are written. -/
theorem row_write {R : RO} {w : World} {σ1 σ2 : Store} {g n0 cap : Nat} {E : TypeId} {sz : Nat} {l ys : List AV} {news : List Value} (hs : St R w (σ1 ++ .row (.slice (some ⟨g, 0, none⟩) n0 cap) E sz l 0 :: σ2)) {a : Nat}
    (hr : VRs R news (flat ys)) (hone : ∀ v ∈ news, v.oneCell' = true) (hys : ∀ y ∈ ys, y.cells.length = sz) (hle : a + ys.length ≤ l.length) :
    ∃ w', (storeCells ⟨g, a * sz, none⟩ news).run P w = .ok () w' ∧ St R w' (σ1 ++ .row (.slice (some ⟨g, 0, none⟩) n0 cap) E sz (l.take a ++ ys ++ l.drop (a + ys.length)) 0 :: σ2) ∧
      Ext R w (σ1 ++ .row (.slice (some ⟨g, 0, none⟩) n0 cap) E sz l 0 :: σ2) R w' (σ1 ++ .row (.slice (some ⟨g, 0, none⟩) n0 cap) E sz (l.take a ++ ys ++ l.drop (a + ys.length)) 0 :: σ2) := by
  obtain ⟨vs, hvr, hvo, hown, hsz0, hsz, hc⟩ := row_cells hs (v := .slice (some ⟨g, 0, none⟩) n0 cap) (E := E) (sz := sz) (l := l) (fl := 0) (by simp)
  have hent0 := hs.ents (.row (.slice (some ⟨g, 0, none⟩) n0 cap) E sz l 0) (by simp)
  obtain ⟨_, _, _, hmax, hflo⟩ := hent0
  rcases hown.2 with ⟨h0, _⟩ | ⟨g', cap', cur, hvv, _, hh, hnc, hcm, hcs, htake⟩
  · cases h0
  · simp only [Value.slice.injEq, Option.some.injEq, Addr.mk.injEq, and_true, true_and] at hvv
    obtain ⟨rfl, hn, rfl⟩ := hvv
    have hnl : news.length = ys.length * sz := by rw [hr.1, flat_length hys]
    have hbnd : (a + ys.length) * sz ≤ l.length * sz := Nat.mul_le_mul_right _ hle
    rw [Nat.add_mul] at hbnd
    have hcap : l.length * sz ≤ cap * sz := Nat.mul_le_mul_right _ hnc
    have hcs' : cur.size = cap * sz := hcs
    have hst := run_storeCells_at P g (a * sz) E news 0 cur w hh (by rw [hnl]; omega) hone
    simp only [Nat.add_zero] at hst
    refine ⟨_, hst, ?_⟩
    have hvl : vs.length = l.length * sz := by rw [hvr.1, flat_length hsz]
    have hflat : flat (l.take a ++ ys ++ l.drop (a + ys.length)) = (flat l).take (a * sz) ++ flat ys ++ (flat l).drop (a * sz + news.length) := by
      rw [flat_append, flat_append, flat_take hsz, flat_drop hsz, hnl, Nat.add_mul]
    have hnew : VRs R (vs.take (a * sz) ++ news ++ vs.drop (a * sz + news.length)) (flat (l.take a ++ ys ++ l.drop (a + ys.length))) := by
      rw [hflat]
      exact ((hvr.take _).append hr).append (hvr.drop _)
    have hlen2 : (l.take a ++ ys ++ l.drop (a + ys.length)).length = l.length := by simp; omega
    have hwin : (cur.toList.take (a * sz) ++ news ++ cur.toList.drop (a * sz + news.length)).take (l.length * sz) = vs.take (a * sz) ++ news ++ vs.drop (a * sz + news.length) := by
      rw [← htake, List.take_take, List.drop_take, List.take_append, List.take_append, List.take_take]
      simp only [List.length_append, List.length_take, Array.length_toList]
      rw [List.take_of_length_le (l := news) (by omega)]
      congr 1
      · congr 2; omega
      · congr 1; omega
    have hsz2 : ∀ e ∈ l.take a ++ ys ++ l.drop (a + ys.length), e.cells.length = sz := by
      intro e he
      simp only [List.mem_append] at he
      rcases he with (he | he) | he
      · exact hsz e (List.mem_of_mem_take he)
      · exact hys e he
      · exact hsz e (List.mem_of_mem_drop he)
    refine st_change hs (e := .row (.slice (some ⟨g, 0, none⟩) n0 cap) E sz l 0) (e' := .row (.slice (some ⟨g, 0, none⟩) n0 cap) E sz (l.take a ++ ys ++ l.drop (a + ys.length)) 0) (b := g) rfl rfl (by simp) (by simp) (by simp) (by simp) (fun k hk => setRow_other w g k _ hk) ?_ ?_
    · intro b v hb hab
      have := (hflo b v hb (by simp [Value.ownBlock, hab])).1
      omega
    · refine ⟨hsz0, hsz2, ⟨_, ⟨by rw [hnew.1, flat_length hsz2], .inr ⟨g, cap, _, by rw [hlen2, hn], Nat.zero_le _, setRow_heap w g cur _ E _ hh, by rw [hlen2]; exact hnc, hcm, ?_, by rw [hlen2]; exact hwin⟩⟩, hnew, ?_⟩, by rw [hlen2]; exact hmax, fun b v hb hv => ?_⟩
      · simp only [List.size_toArray, List.length_append, List.length_take, Array.length_toList, List.length_drop, hcs']; omega
      · intro v hv
        simp only [List.mem_append] at hv
        rcases hv with (hv | hv) | hv
        · exact hvo v (List.mem_of_mem_take hv)
        · exact hone v hv
        · exact hvo v (List.mem_of_mem_drop hv)
      · have := (hflo b v hb hv).1
        omega
theorem firstCells_pre {w : World} {sz n len cap : Nat} {a : Addr} {vs : List Value} {m : Nat} (hl : vs.length = m * sz) (hn : n ≤ m) (hc : ∀ (j : Nat) (u : Value), j < n * sz → vs[j]? = some u → w.cell? (a.add j) = some u) :
    (Builtin.firstCells sz n (.slice (some a) len cap)).run P w = .ok (vs.take (n * sz)).toArray w := by
  have hle : n * sz ≤ m * sz := Nat.mul_le_mul_right _ hn
  refine run_firstCells_some w sz n a len cap (vs.take (n * sz)) (by rw [List.length_take, hl]; omega) fun j u hj => ?_
  rw [List.getElem?_take] at hj
  split at hj
  · rename_i hlt; exact hc j u hlt hj
  · cases hj
theorem src_pre {R : RO} {w : World} {σ : Store} (hs : St R w σ) {sz : Nat} {v : Value} {x : AV} (hv : VR R v x) {ys : List AV} (h : srcP sz σ x ys) {n : Nat} (hn : n ≤ ys.length) :
    (Builtin.lenOf v).run P w = .ok ys.length w ∧ ∃ news, (Builtin.firstCells sz n v).run P w = .ok (List.toArray news) w ∧ VRs R news (flat (ys.take n)) ∧ (∀ u ∈ news, u.oneCell' = true) ∧ ∀ y ∈ ys, y.cells.length = sz := by
  unfold srcP at h
  split at h
  · rename_i z l m
    obtain ⟨rfl, rfl⟩ := h
    obtain ⟨ao, cap, vs, rfl, hz0, hsz, hr, hR, hm, hb, hone⟩ := hv.lst_inv
    have hl : vs.length = ys.length * z := by rw [hr.1, flat_length hsz]
    refine ⟨rfl, vs.take (n * z), ?_, by rw [flat_take hsz]; exact hr.take _, fun u hu => hone u (List.mem_of_mem_take hu), hsz⟩
    cases ao with
    | none =>
      have : ys = [] := by
        cases ys with
        | nil => rfl
        | cons y ys => obtain ⟨a, ha, _⟩ := hR (by simp); cases ha
      subst this
      have : vs = [] := List.eq_nil_of_length_eq_zero (by simpa using hl)
      subst this
      simp [Builtin.firstCells]
    | some a =>
      refine firstCells_pre hl hn fun j u _ hj => ?_
      by_cases hne : ys = []
      · subst hne
        have : vs = [] := List.eq_nil_of_length_eq_zero (by simpa using hl)
        subst this; simp at hj
      · obtain ⟨a', ha, hc⟩ := hR hne
        cases ha
        exact hs.ro _ _ (hc j u hj)
  · rename_i v0 n0
    obtain ⟨E, l, fl, hm, rfl⟩ := h
    obtain ⟨rfl, hrow⟩ := hv.own_inv
    obtain ⟨vs, hr, hvo, hown, _, hsz, hc⟩ := row_cells hs hm
    rcases hown.2 with ⟨rfl, hl0⟩ | ⟨g, cap, cur, rfl, _⟩
    · have hl : ys = [] := List.eq_nil_of_length_eq_zero hl0
      subst hl
      exact ⟨rfl, [], by simp [Builtin.firstCells], by simpa [flat] using VRs.nil R, by simp, hsz⟩
    · refine ⟨rfl, vs.take (n * sz), firstCells_pre hown.1 hn fun j u _ hj => hc g _ _ rfl j u hj, by rw [flat_take hsz]; exact hr.take _, fun u hu => hvo u (List.mem_of_mem_take hu), hsz⟩
  · rename_i v0 z a n0
    obtain ⟨rfl, E, l, fl, hm, hle, rfl⟩ := h
    obtain ⟨vs, hr, hvo, hown, hz0, hsz, hc⟩ := row_cells hs hm
    have hlen : ((l.drop a).take n0).length = n0 := by simp; omega
    rw [hlen] at hn ⊢
    have hsz' : ∀ y ∈ (l.drop a).take n0, y.cells.length = z := fun y hy => hsz y (List.mem_of_mem_drop (List.mem_of_mem_take hy))
    have hflat2 : flat (((l.drop a).take n0).take n) = (((flat l).drop (a * z)).take (n0 * z)).take (n * z) := by
      rw [flat_take hsz', flat_take (fun e he => hsz e (List.mem_of_mem_drop he)), flat_drop hsz]
    rcases hv.sub_inv with ⟨_, _, rfl, rfl⟩ | ⟨g, n1, cap, p, rfl, hcap, hp, rfl⟩
    · exact ⟨rfl, [], by simp [Builtin.firstCells], by simpa [flat] using VRs.nil R, by simp, hsz'⟩
    · have hr' : VRs R (((vs.drop (a * z)).take (n0 * z)).take (n * z)) (flat (((l.drop a).take n0).take n)) := by rw [hflat2]; exact ((hr.drop _).take _).take _
      refine ⟨rfl, ((vs.drop (a * z)).take (n0 * z)).take (n * z), ?_, hr', fun u hu => hvo u (List.mem_of_mem_drop (List.mem_of_mem_take (List.mem_of_mem_take hu))), hsz'⟩
      have hvl : ((vs.drop (a * z)).take (n0 * z)).length = n0 * z := by
        have hb : (a + n0) * z ≤ l.length * z := Nat.mul_le_mul_right _ hle
        rw [Nat.add_mul] at hb
        rw [List.length_take, List.length_drop, hown.1]; omega
      refine firstCells_pre hvl hn fun j u hlt hj => ?_
      have hnz : n * z ≤ n0 * z := Nat.mul_le_mul_right _ hn
      have hn0 : 0 < n0 := by
        rcases Nat.eq_zero_or_pos n0 with e | e
        · subst e; simp at hnz; omega
        · exact e
      rw [hp (by omega), addr_lit_add]
      rw [List.getElem?_take, if_pos (by omega), List.getElem?_drop] at hj
      have := hc g n1 cap rfl (a * z + j) u hj
      rw [addr_lit_add, Nat.zero_add] at this
      exact this
  · subst h
    rw [hv.val_inv]
    exact ⟨rfl, [], by simp [Builtin.firstCells], by simpa [flat] using VRs.nil R, by simp, by simp⟩
  · exact h.elim
theorem setCells_none (w : World) (a : Addr) : (storeCells a []).run P w = .ok () w := rfl
theorem hookE_ok (o : Oper) (ρ : Operand → AV) (σ : Store) (k kp : AV → Store → Prop) (h : hookE P o.op (o.op.operands.toList.map ρ) σ k) : AOp P o ρ σ k kp := by
  obtain ⟨post, h, hk⟩ := h
  unfold effN at h
  split at h
  · rename_i t hop hargs
    subst h
    refine AOp.ofRun fun R w ev ha hs => ?_
    have hent : EntOk R (w.alloc (.map #[] 0)) (.map w.heap.size [] 0) := ⟨⟨#[], (MapKept.heap_alloc w _).1, rfl, fun i e x he => by simp at he⟩, by simp, by simp, ro_old hs⟩
    obtain ⟨g1, g2⟩ := st_newEnt hs (.map #[] 0) rfl hent
    refine ⟨.map (some w.heap.size), _, _, R, _, ?_, hk _ _ ⟨w.heap.size, rfl, rfl⟩, .val _, g1, g2⟩
    unfold execOp
    rw [hop]
    simp [Instr.makeMap]
  · rename_i t m kk v ma ka va hop hargs
    rw [hop] at hargs
    simp only [Op.operands, List.map_cons, List.map_nil, List.cons.injEq, and_true] at hargs
    obtain ⟨rfl, rfl, rfl⟩ := hargs
    split at h
    · rename_i b kv e1 e2
      obtain ⟨d, z, l, clock, σ1, σ2, hm, hkv, rfl, hks, rfl⟩ := h
      obtain ⟨kt, et, q1, q2, q3⟩ := mapOf_run hm
      refine AOp.ofSkip fun R w ev ha hs => ?_
      have hx := ha m; have hi := ha kk; have hv := ha v
      rw [e1] at hx; rw [e2] at hi
      have hxv := hx.val_inv; have hiv := hi.val_inv
      have hmem : Ent.map b l clock ∈ σ1 ++ .map b l clock :: σ2 := by simp
      obtain ⟨es, g1, g2, g3, g4, g5⟩ := map_at hs hmem
      have hro : ∀ a x, R a = some x → a.block ≠ b := (hs.ents _ hmem).2.2.2
      have hck : (Instr.checkKey false 10000 kt kv).run P w = .ok () w := MapKept.run_checkKey q2 hkv false 9999
      rcases setM_rel hkv (ev v) (ρ v) hv clock l es.toList 0 g2 g3 hks with ⟨f1, f2, f3⟩ | ⟨j, v0, f1, f2, f3, f4, f5, f6⟩
      · have hfk := MapKept.run_findKey (P := P) (w := w) q2 f2
        obtain ⟨n1, n2⟩ := change_obj (w1 := w) hs (b := b) (e' := .map b (setM kv (ρ v) clock l) (clock + 1)) rfl rfl (.inl rfl) (.map (es.push { key := kv, val := ev v, born := clock }) (clock + 1)) hro (fun w' hw' hold => by
          refine ⟨⟨_, hw', by simp [f3, ← g2], ?_⟩, ?_, ?_, hro⟩
          · intro i e x he hxx
            rw [f3] at hxx
            rw [Array.toList_push] at he
            rcases Nat.lt_or_ge i l.length with hlt | hge
            · rw [List.getElem?_append_left (by rw [g2]; exact hlt)] at he
              rw [List.getElem?_append_left hlt] at hxx
              exact g3 i e x he hxx
            · rw [List.getElem?_append_right (by rw [g2]; exact hge)] at he
              rw [List.getElem?_append_right hge] at hxx
              rw [g2] at he
              cases hn : i - l.length with
              | zero => rw [hn] at he hxx; simp at he hxx; subst he; subst hxx; exact ⟨rfl, rfl, hv⟩
              | succ n => rw [hn] at he; simp at he
          · intro x hxx
            rw [f3] at hxx
            rcases List.mem_append.1 hxx with hxx | hxx
            · have := g4 x hxx; omega
            · simp at hxx; subst hxx; simp
          · rw [f3, List.map_append]
            refine List.nodup_append.2 ⟨g5, by simp, ?_⟩
            intro a ha b hb
            simp at hb
            subst hb
            obtain ⟨x, hx, rfl⟩ := List.mem_map.1 ha
            have := g4 x hx
            omega)
        refine ⟨_, R, _, ?_, hk _ _ ⟨rfl, by rw [f1]; rfl⟩, n1, n2⟩
        unfold execOp
        rw [hop]
        simp only [Instr.mapUpdate, hxv, hiv, Sem.run_bind, run_underlying q1, Result.andThen_ok, MapKept.run_getObj_map g1, hck, hfk, MapKept.run_setObj_map _ g1, Sem.run_pure]
      · rw [Nat.zero_add] at f2
        have hfk := MapKept.run_findKey (P := P) (w := w) q2 f2
        obtain ⟨n1, n2⟩ := change_obj (w1 := w) hs (b := b) (e' := .map b (setM kv (ρ v) clock l) clock) rfl rfl (.inl rfl) (.map (es.modify j fun e => { e with key := kv, val := ev v }) clock) hro (fun w' hw' hold => by
          refine ⟨⟨_, hw', by simp [f4, ← g2], ?_⟩, ?_, by rw [f5]; exact g5, hro⟩
          · intro i e x he hxx
            exact f6 i e x (by simpa using he) hxx
          · intro x hxx
            have : x.1 ∈ (setM kv (ρ v) clock l).map (·.1) := List.mem_map.2 ⟨x, hxx, rfl⟩
            rw [f5] at this
            obtain ⟨y, hy, hyx⟩ := List.mem_map.1 this
            rw [← hyx]; exact g4 y hy)
        have hkey : ((es[j]?).map (·.key)).getD kv = kv := by
          have : es.toList[j]? = es[j]? := Array.getElem?_toList
          rw [← this, f3]; rfl
        refine ⟨_, R, _, ?_, hk _ _ ⟨rfl, by rw [f1]; rfl⟩, n1, n2⟩
        unfold execOp
        rw [hop]
        have hks' := MapKept.run_keyThatStays (P := P) (w := w) hkv
        simp only [Instr.mapUpdate, hxv, hiv, Sem.run_bind, run_underlying q1, Result.andThen_ok, MapKept.run_getObj_map g1, hck, hfk, hkey, hks', MapKept.run_setObj_map _ g1, Sem.run_pure]
    · exact h.elim
  · rename_i t x mx hop hargs
    have e : mx = ρ x := by rw [hop] at hargs; simpa [Op.operands] using hargs.symm
    subst e
    split at h
    · rename_i mb e1
      obtain ⟨l, clock, hmt, hmem, rfl⟩ := h
      refine AOp.ofRun fun R w ev ha hs => ?_
      have hx := ha x
      rw [e1] at hx
      have hxv := hx.val_inv
      obtain ⟨es, g1, g2, g3, g4, g5⟩ := map_at hs hmem
      obtain ⟨kt, et, q1⟩ : ∃ k e, P.underlying t = some (.map k e) := by
        unfold isMapT at hmt
        split at hmt
        · exact ⟨_, _, by assumption⟩
        · cases hmt
      have hent : EntOk R (w.alloc (.mapIter (some mb) clock #[] clock)) (.iter w.heap.size mb clock [] clock) := ⟨(MapKept.heap_alloc w _).1, ro_old hs⟩
      obtain ⟨n1, n2⟩ := st_newEnt hs (.mapIter (some mb) clock #[] clock) rfl hent
      have hrun := run_range_map (P := P) w t kt et mb es clock q1 g1
      refine ⟨.pointer (some ⟨w.heap.size, 0, none⟩), _, _, R, _, ?_, hk _ _ ⟨w.heap.size, rfl, rfl⟩, .val _, n1, n2⟩
      unfold execOp
      rw [hop]
      simp only [Sem.run_bind, hxv, hrun, Result.andThen_ok, Sem.run_pure]
    · exact h.elim
  · rename_i it ity hop hargs
    have e : ity = ρ it := by rw [hop] at hargs; simpa [Op.operands] using hargs.symm
    subst e
    split at h
    · rename_i a e1
      obtain ⟨hsp, hoff, σ1, σ2, mb, clock, seen, l, rfl, hmem, rfl⟩ := h
      refine AOp.ofRun fun R w ev ha hs => ?_
      have hx := ha it
      rw [e1] at hx
      have hxv := hx.val_inv
      obtain ⟨ab, ao, asp⟩ := a
      simp only at hsp hoff hk ⊢
      subst hsp; subst hoff
      have hmem' : Ent.map mb l clock ∈ σ1 ++ .iter ab mb clock seen clock :: σ2 := by
        rcases List.mem_append.1 hmem with h | h
        · exact List.mem_append_left _ h
        · exact List.mem_append_right _ (List.mem_cons_of_mem _ h)
      obtain ⟨es, g1, g2, g3, g4, g5⟩ := map_at hs hmem'
      have hit := hs.ents (.iter ab mb clock seen clock) (by simp)
      obtain ⟨k1, k2⟩ := hit
      have hold : ∀ x ∈ es.toList, x.born < clock := fun e he => by
        obtain ⟨x, hx, b1, _⟩ := map_mem g2 g3 he
        rw [b1]; exact g4 x hx
      obtain ⟨f1, f2⟩ := leftOf_mem g2 g3 seen
      rcases run_next_at (P := P) w o.type ab mb clock clock seen.toArray es clock k1 g1 hold (Nat.le_refl _) with ⟨z, hrun⟩ | ⟨e, he, w1, hw1, hrun⟩
      · refine ⟨.tuple #[.bool false], w, _, R, _, ?_, hk _ _ (.inl ⟨f1 z, rfl, rfl⟩), VR.tuple' (VRs.cons (.val _) (VRs.nil R)), hs, Ext.refl _ _ _⟩
        unfold execOp
        rw [hop]
        simp only [Sem.run_bind, hxv, hrun, Result.andThen_ok, Sem.run_pure]
      · obtain ⟨x, hxl, b1, b2, b3⟩ := f2 e he
        have hobj : (Obj.mapIter (some mb) clock (seen.toArray.push e.born) clock) = .mapIter (some mb) clock (seen ++ [x.1]).toArray clock := by rw [b1]; simp
        obtain ⟨n1, n2⟩ := change_obj (w1 := w1) hs (b := ab) (e' := .iter ab mb clock (seen ++ [x.1]) clock) rfl rfl hw1 (.mapIter (some mb) clock (seen.toArray.push e.born) clock) k2 (fun w' hw' _ => ⟨by rw [hw', hobj], k2⟩)
        refine ⟨.tuple #[.bool true, e.key, e.val], _, _, R, _, ?_, hk _ _ (.inr ⟨x, hxl, rfl, rfl⟩), ?_, n1, n2⟩
        · unfold execOp
          rw [hop]
          simp only [Sem.run_bind, hxv, hrun, Result.andThen_ok, Sem.run_pure]
          rfl
        · rw [b2]
          exact VR.tuple' (VRs.cons (.val _) (VRs.cons (.val _) (VRs.cons b3 (VRs.nil R))))
    · exact h.elim
  · rename_i c hop
    obtain ⟨callee, cargs, ts⟩ := c
    cases callee with
    | builtin b =>
      have hargs : o.op.operands.toList.map ρ = cargs.toList.map ρ := by rw [hop]; simp [Op.operands, Call.operands]
      simp only at h
      rw [hargs] at h
      split at h
      · rename_i t x hts hx
        obtain ⟨y, hy, hyx⟩ : ∃ y, cargs.toList = [y] ∧ ρ y = x := by
          match hc : cargs.toList, hx with
          | [y], hx => exact ⟨y, rfl, by simpa using hx⟩
        have e1 : cargs = #[y] := by apply Array.ext'; simp [hy]
        have e2 : ts = #[t] := by apply Array.ext'; simp [hts]
        subst e1; subst e2
        split at h
        · rename_i v sz a n
          obtain ⟨E, zs, s, by_, l, σ1, σ2, hro, hzo, rfl, rfl, hle, rfl⟩ := h
          obtain ⟨ht, i, z, hi, hz, hzc, hzl, his, _, hpos⟩ := rowOf_run hro
          refine AOp.ofRun fun R w ev ha hs => ?_
          have hv := ha y
          rw [hyx] at hv
          have hsub := hv.sub_inv
          obtain ⟨cs, hex⟩ := exec_builtin (P := P) hop ev w
          have e4 : (#[y] : Array Operand).map ev = #[ev y] := by simp
          have hmk : (mkE (zs.map AV.val)).cells = zs.map .val := mkE_cells fun c hc => by
            obtain ⟨v, hv, rfl⟩ := List.mem_map.1 hc
            exact hzo v hv
          have hzr : (zeroValue E).run P w = .ok z w := by simp [zeroValue, typeInfo, hi, hz]
          have same : n = 0 → l.take a ++ List.replicate n (mkE (zs.map AV.val)) ++ l.drop (a + n) = l := fun h0 => by subst h0; simp
          have hval : ∀ (x : Value) (w1 : World), (Builtin.clear_ #[t] o.type #[x]).run P w = .ok (.tuple #[]) w1 → ev y = x → (execOp ev o).run P w = .ok (.value (.tuple #[])) w1 := by
            intro x w1 h1 h2
            rw [hex, e4, h2]
            simp [builtin, h1]
          by_cases hn : n = 0
          · have hrun : (Builtin.clear_ #[t] o.type #[ev y]).run P w = .ok (.tuple #[]) w := by
              rcases hsub with ⟨_, _, _, hv⟩ | ⟨g, n0, cap, p, _, _, _, hv⟩
              · rw [hv]; simp [Builtin.clear_, run_underlying ht]
              · rw [hv, hn]; simp [Builtin.clear_, run_underlying ht]
            exact ⟨_, w, .undef, R, _, hval _ w hrun rfl, hk _ _ ⟨rfl, rfl⟩, .undef _, by rw [same hn]; exact hs, by rw [same hn]; exact Ext.refl _ _ _⟩
          · rcases hsub with ⟨_, _, hn0, _⟩ | ⟨g, n0, cap, p, rfl, hcap, hp, hv⟩
            · exact absurd hn0 hn
            · have hnews : VRs R ((List.replicate n zs).flatten) (flat (List.replicate n (mkE (zs.map AV.val)))) := by
                have hfl : flat (List.replicate n (mkE (zs.map AV.val))) = ((List.replicate n zs).flatten).map .val := by
                  rw [flat_replicate, hmk]
                  simp [List.map_flatten]
                rw [hfl]; exact VRs.ofVals R _
              obtain ⟨w', hst, g1, g2⟩ := row_write (P := P) hs (a := a) hnews (by
                intro v hv
                simp only [List.mem_flatten, List.mem_replicate] at hv
                obtain ⟨l, ⟨_, rfl⟩, hv⟩ := hv
                exact hzo v hv) (by
                intro y hy
                rw [(List.mem_replicate.1 hy).2, hmk]
                simp [hzl]) (by simpa using hle)
              rw [List.length_replicate] at g1 g2
              have hz2 : (Builtin.zeroCells z.cells n).toList = (List.replicate n zs).flatten := by
                have h1 := zero_cells zs n (by omega)
                have h2 : z.cells = zs.toArray := by rw [← hzc]
                unfold Builtin.zeroCells
                rw [h2]
                have h3 : zs.toArray.size = zs.length := by simp
                rw [h3] at h1 ⊢
                rw [h1]
              have hrun : (Builtin.clear_ #[t] o.type #[ev y]).run P w = .ok (.tuple #[]) w' := by
                rw [hv, hp (by omega)]
                have hn' : n ≠ 0 := hn
                cases n with
                | zero => exact absurd rfl hn
                | succ n => simp [Builtin.clear_, run_underlying ht, hzr, hz2, hst]
              exact ⟨_, w', .undef, R, _, hval _ w' hrun rfl, hk _ _ ⟨rfl, rfl⟩, .undef _, g1, g2⟩
        · exact h.elim
      · rename_i t xt d x hts hx
        obtain ⟨sz, ys, hsrc, hok, rfl⟩ := h
        obtain ⟨yd, yx, hy, hyd, hyx⟩ : ∃ yd yx, cargs.toList = [yd, yx] ∧ ρ yd = d ∧ ρ yx = x := by
          match hc : cargs.toList, hx with
          | [y, z], hx => exact ⟨y, z, rfl, by simpa using hx⟩
        have e1 : cargs = #[yd, yx] := by apply Array.ext'; simp [hy]
        have e2 : ts = #[t, xt] := by apply Array.ext'; simp [hts]
        subst e1; subst e2
        refine AOp.ofRun fun R w ev ha hs => ?_
        have hvd := ha yd; have hvx := ha yx
        rw [hyd] at hvd; rw [hyx] at hvx
        obtain ⟨cs, hex⟩ := exec_builtin (P := P) hop ev w
        have e4 : (#[yd, yx] : Array Operand).map ev = #[ev yd, ev yx] := by simp
        rw [e4] at hex
        unfold copyOk at hok
        split at hok
        · rename_i v z a n
          obtain ⟨rfl, E, l, hsz, hmem, hle⟩ := hok
          obtain ⟨σ1, σ2, rfl⟩ := List.append_of_mem hmem
          obtain ⟨i, ht, hi, his⟩ : ∃ i, P.underlying t = some (.slice E) ∧ P.info? E = some i ∧ i.size = z := by
            unfold szOf at hsz
            split at hsz
            · rename_i e hu
              cases hie : P.info? e with
              | none => rw [hie] at hsz; cases hsz
              | some i =>
                rw [hie] at hsz
                simp only [Option.map_some, Option.some.injEq, Prod.mk.injEq] at hsz
                obtain ⟨rfl, rfl⟩ := hsz
                exact ⟨i, hu, hie, rfl⟩
            · cases hsz
          obtain ⟨h1, news, h2, h3, h4, h5⟩ := src_pre (P := P) hs hvx hsrc (n := min ys.length n) (Nat.min_le_left _ _)
          have hszr : (sizeOf E).run P w = .ok z w := by simp [sizeOf, typeInfo, hi, his]
          have hyt : ∀ y ∈ ys.take (min ys.length n), y.cells.length = z := fun y hy => h5 y (List.mem_of_mem_take hy)
          have hlt : (ys.take (min ys.length n)).length = min ys.length n := by simp
          rcases hvd.sub_inv with ⟨hv0, ha0, hn0, hv⟩ | ⟨g, n0, cap, p, rfl, hcap, hp, hv⟩
          · subst ha0; subst hn0
            have hmin : min ys.length 0 = 0 := by simp
            refine ⟨.int .i64 ((min ys.length 0 : Nat) : Int), w, _, R, _, ?_, hk _ _ ⟨E, l, σ1, σ2, rfl, rfl, rfl⟩, .val _, by rw [hmin]; simpa using hs, by rw [hmin]; simpa using Ext.refl _ _ _⟩
            rw [hex, hv]
            simp [builtin, Builtin.copy_, run_underlying ht, h1, hszr, h2, goInt] at h2 ⊢
            simp [h2]
          · have hst : ∃ w', (storeCells p news).run P w = .ok () w' ∧ St R w' (σ1 ++ .row (.slice (some ⟨g, 0, none⟩) n0 cap) E z (l.take a ++ ys.take (min ys.length n) ++ l.drop (a + min ys.length n)) 0 :: σ2) ∧
                Ext R w (σ1 ++ .row (.slice (some ⟨g, 0, none⟩) n0 cap) E z l 0 :: σ2) R w' (σ1 ++ .row (.slice (some ⟨g, 0, none⟩) n0 cap) E z (l.take a ++ ys.take (min ys.length n) ++ l.drop (a + min ys.length n)) 0 :: σ2) := by
              by_cases h0 : min ys.length n = 0
              · rw [h0] at h3 ⊢
                have : news = [] := List.eq_nil_of_length_eq_zero (by rw [h3.1]; simp [flat])
                subst this
                exact ⟨w, rfl, by simpa using hs, by simpa using Ext.refl _ _ _⟩
              · rw [hp (by omega)]
                have := row_write (P := P) hs (a := a) h3 h4 hyt (by rw [hlt]; omega)
                rw [hlt] at this
                exact this
            obtain ⟨w', hst, g1, g2⟩ := hst
            refine ⟨.int .i64 ((min ys.length n : Nat) : Int), w', _, R, _, ?_, hk _ _ ⟨E, l, σ1, σ2, rfl, rfl, rfl⟩, .val _, g1, g2⟩
            rw [hex, hv]
            have hmin : Nat.min ys.length n = min ys.length n := rfl
            simp [builtin, Builtin.copy_, run_underlying ht, h1, hszr, hmin, h2, hst, goInt]
        · rename_i p n cap
          obtain ⟨hsp, rfl, E, tt, cs, hsz, hmem, hle, hone⟩ := hok
          obtain ⟨σ1, σ2, rfl⟩ := List.append_of_mem hmem
          obtain ⟨i, ht, hi, his⟩ : ∃ i, P.underlying t = some (.slice E) ∧ P.info? E = some i ∧ i.size = 1 := by
            unfold szOf at hsz
            split at hsz
            · rename_i e hu
              cases hie : P.info? e with
              | none => rw [hie] at hsz; cases hsz
              | some i =>
                rw [hie] at hsz
                simp only [Option.map_some, Option.some.injEq, Prod.mk.injEq] at hsz
                obtain ⟨rfl, h⟩ := hsz
                exact ⟨i, hu, hie, h⟩
            · cases hsz
          obtain ⟨h1, news, h2, h3, h4, h5⟩ := src_pre (P := P) hs hvx hsrc (n := min ys.length n) (Nat.min_le_left _ _)
          have hszr : (sizeOf E).run P w = .ok 1 w := by simp [sizeOf, typeInfo, hi, his]
          have hfl : flat (ys.take (min ys.length n)) = ys.take (min ys.length n) := flat_plain fun c hc => (hone c (List.mem_of_mem_take hc)).2
          rw [hfl] at h3
          have hnl : news.length = min ys.length n := by rw [h3.1]; simp
          obtain ⟨vs, hr, hvo, hb, _⟩ := var_cells hs (b := p.block) (t := tt) (cs := cs) (by simp)
          obtain ⟨pb, po, psp⟩ := p
          simp only at hsp hle hb hk hmem
          subst hsp
          have hvl := hr.1
          have hst := run_storeCells_at P pb po tt news 0 (List.toArray vs) w hb (by simp; omega) h4
          simp only [Nat.add_zero] at hst
          have hnew : VRs R (vs.take po ++ news ++ vs.drop (po + news.length)) (splice cs po (ys.take (min ys.length n))) := by
            have := ((hr.take po).append h3).append (hr.drop (po + news.length))
            unfold splice
            rw [← h3.1]
            exact this
          have hent : EntOk R (w.setRow pb (vs.take po ++ news ++ vs.drop (po + news.length)).toArray) (.var pb tt (splice cs po (ys.take (min ys.length n)))) := by
            refine ⟨⟨_, setRow_heap w pb _ _ _ _ hb, hnew, ?_⟩, (hs.ents (.var pb tt cs) (by simp)).2⟩
            intro v hv
            simp only [List.mem_append] at hv
            rcases hv with (hv | hv) | hv
            · exact hvo v (List.mem_of_mem_take hv)
            · exact h4 v hv
            · exact hvo v (List.mem_of_mem_drop hv)
          obtain ⟨g1, g2⟩ := st_change hs (e := .var pb tt cs) (e' := .var pb tt (splice cs po (ys.take (min ys.length n)))) (b := pb) rfl rfl (w' := w.setRow pb (vs.take po ++ news ++ vs.drop (po + news.length)).toArray) (by simp) (by simp) (by simp) (by simp)
            (fun k hk => setRow_other w pb k _ hk) (fun a v ha hab => absurd hab ((hs.ents (.var pb tt cs) (by simp)).2 a v ha)) hent
          refine ⟨.int .i64 ((min ys.length n : Nat) : Int), _, _, R, _, ?_, hk _ _ ⟨tt, cs, σ1, σ2, rfl, rfl, rfl⟩, .val _, g1, g2⟩
          have hv := hvd.val_inv
          rw [hex, hv]
          have hmin : Nat.min ys.length n = min ys.length n := rfl


          simp [builtin, Builtin.copy_, run_underlying ht, h1, hszr, hmin, h2, hst, goInt]
        · exact hok.elim
      · exact h.elim
    | value x => exact h.elim
    | invoke r m => exact h.elim
  · exact h.elim
end Go.Ab
