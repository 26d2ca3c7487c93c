/- SeekChecks: whatever comes in, the law's call returns true and changes nothing that was there; no condition beyond the row's own. -/
import Derived.Test.YtobhbepiaibceaaSeekChecksK12
import Derived.Test.YtobhbepiaibceaaRows
import Derived.WalkKit
import Derived.ProofKit
import Derived.OpenShut
import Derived.ShutString
import Derived.ChangeOld
import Derived.Below
import Derived.SizedLaws
namespace Go.Proofs.Ytobhbepiaibceaa.seekChecks
open Go.ChangeShapes Go.WideShapes Go.ChangeAt Go.RowKit
open Go.ChangeMaps (open_string shut_string)
set_option linter.unusedVariables false
theorem own : ownKnob Go.Proofs.Try.prog.godebug = none := by kernel_rfl
theorem laidOut : laidOutB Go.Proofs.Try.prog = true := by kernel_rfl
set_option maxRecDepth 100000 in
theorem lifted (os : Os) (started : os.Started) (H : Type) (enc : TypeId × Value → H) :
    ReturnsInHanded {} Go.Proofs.Try.checked os 4 .any (Rows.seekChecksSpec.pre6 enc Go.Proofs.Try.prog Go.Proofs.Try.f4 Rows.seekChecksRow.domain false) (Rows.seekChecksSpec.post enc Go.Proofs.Try.prog Go.Proofs.Try.f4 false true false false) := by
  refine returnsInHanded_of_change_sized (C := Go.Proofs.Try.checked) own started (by kernel_rfl) Go.Proofs.Try.func4
    (ChangeSpec.witness6 (enc := enc) (C := Go.Proofs.Try.checked) false ⟨#[], #[.int .i64 0, .agg #[(.int .i64 0), (.int .i64 0), (.int .u8 0), (.int .u8 0), (.int .u8 0), (.int .u8 0), (.int .u8 0), (.int .u8 0), (.int .u8 0), (.int .u8 0), (.int .u8 0), (.int .u8 0), (.int .u8 0), (.int .u8 0), (.int .u8 0), (.int .u8 0), (.int .u8 0), (.int .u8 0), (.int .u8 0), (.int .u8 0), (.int .u8 0), (.int .u8 0), (.int .u8 0), (.int .u8 0), (.int .u8 0), (.int .u8 0), (.int .u8 0), (.int .u8 0), (.int .u8 0), (.int .u8 0), (.int .u8 0), (.int .u8 0), (.int .u8 0), (.int .u8 0), (.string ⟨#[]⟩), (.string ⟨#[]⟩)], .string ⟨#[]⟩, .string ⟨#[]⟩, .agg #[(.bool false), (.int .i64 0), (.slice none 0 0), (.slice none 0 0), (.int .i64 0), (.slice none 0 0), (.slice none 0 0)], .agg #[(.int .i64 0), (.slice none 0 0), (.slice none 0 0)]], []⟩ 8 (by kernel_rfl) (by kernel_rfl) (by kernel_rfl) (by kernel_rfl)) ?_
  intro W base args ds gs before hval0 hW hcnd hsz0 _
  have hsz : (DataW.weightsEach Go.Proofs.Try.prog (Go.Proofs.Try.f4.params.toList ++ Rows.seekChecksSpec.plain.varTypes Go.Proofs.Try.prog) (ds ++ gs)).all (· ≤ reachBytes) = true := hsz0
  have hval : ∀ (j : Nat) t v, Go.Proofs.Try.f4.params[j]? = some t → args[j]? = some v → Value.okWide Go.Proofs.Try.prog W .any base t v := hval0
  have hW' := hW
  obtain ⟨p, q, hA0, hV, rfl, hfz, hnd⟩ := hW
  have hA : DataW.TrodAll enc Go.Proofs.Try.prog W 0 (fun _ => true) true Go.Proofs.Try.f4.params.toList args.toList ds p := hA0
  rw [Go.Proofs.Try.params4] at hA hval hsz
  obtain ⟨v0, vs0, d0, ds0, p0, q0, hargs, rfl, rfl, h0, r0⟩ := trodAll_cons hA
  obtain ⟨v1, vs1, d1, ds1, p1, q1, rfl, rfl, rfl, h1, r1⟩ := trodAll_cons r0
  obtain ⟨v2, vs2, d2, ds2, p2, q2, rfl, rfl, rfl, h2, r2⟩ := trodAll_cons r1
  obtain ⟨v3, vs3, d3, ds3, p3, q3, rfl, rfl, rfl, h3, r3⟩ := trodAll_cons r2
  obtain ⟨v4, vs4, d4, ds4, p4, q4, rfl, rfl, rfl, h4, r4⟩ := trodAll_cons r3
  obtain ⟨v5, vs5, d5, ds5, p5, q5, rfl, rfl, rfl, h5, r5⟩ := trodAll_cons r4
  obtain ⟨rfl, rfl, rfl⟩ := trodAll_nil r5
  obtain rfl : args = #[v0, v1, v2, v3, v4, v5] := by cases args; simp_all
  obtain ⟨rfl, rfl⟩ := trodVars_none hV
  have k0 := h0
  have lt0 : ∀ x ∈ p0, x.block < W.heap.size := by obtain ⟨m, hm⟩ := k0; exact DataW.trod_lt m _ _ _ hm
  obtain ⟨a0, rfl, rfl, rfl, w0⟩ := open_int Go.Proofs.Try.underlying3 (hval 0 3 v0 rfl rfl) h0
  obtain ⟨cs1, rfl⟩ := Ab.okWide_agg Go.Proofs.Try.underlying48 (hval 1 48 v1 rfl rfl)
  have k1 := h1
  have lt1 : ∀ x ∈ p1, x.block < W.heap.size := by obtain ⟨m, hm⟩ := k1; exact DataW.trod_lt m _ _ _ hm
  obtain ⟨fuel1, hf1⟩ := h1
  obtain ⟨a1, ok1, hr1⟩ := Ab.Rd.ag Ab.rdTab (fun _ => rfl) hf1
  have k2 := h2
  have lt2 : ∀ x ∈ p2, x.block < W.heap.size := by obtain ⟨m, hm⟩ := k2; exact DataW.trod_lt m _ _ _ hm
  obtain ⟨a2, rfl, rfl, rfl, y2⟩ := open_string Go.Proofs.Try.underlying9 (hval 2 9 v2 rfl rfl) h2
  have w2 : a2.data.toList.length ≤ 140737488355328 := by
    have z := sized_string hsz (j := 2) (t := 9) rfl rfl
    have z2 := reachBytes_lt
    simp at z ⊢
    omega
  have k3 := h3
  have lt3 : ∀ x ∈ p3, x.block < W.heap.size := by obtain ⟨m, hm⟩ := k3; exact DataW.trod_lt m _ _ _ hm
  obtain ⟨a3, rfl, rfl, rfl, y3⟩ := open_string Go.Proofs.Try.underlying9 (hval 3 9 v3 rfl rfl) h3
  have w3 : a3.data.toList.length ≤ 140737488355328 := by
    have z := sized_string hsz (j := 3) (t := 9) rfl rfl
    have z2 := reachBytes_lt
    simp at z ⊢
    omega
  obtain ⟨cs4, rfl⟩ := Ab.okWide_agg Go.Proofs.Try.underlying32 (hval 4 32 v4 rfl rfl)
  have k4 := h4
  have lt4 : ∀ x ∈ p4, x.block < W.heap.size := by obtain ⟨m, hm⟩ := k4; exact DataW.trod_lt m _ _ _ hm
  obtain ⟨fuel4, hf4⟩ := h4
  obtain ⟨a4, ok4, hr4⟩ := Ab.Rd.ag Ab.rdPt (fun _ => rfl) hf4
  obtain ⟨cs5, rfl⟩ := Ab.okWide_agg Go.Proofs.Try.underlying39 (hval 5 39 v5 rfl rfl)
  have k5 := h5
  have lt5 : ∀ x ∈ p5, x.block < W.heap.size := by obtain ⟨m, hm⟩ := k5; exact DataW.trod_lt m _ _ _ hm
  obtain ⟨fuel5, hf5⟩ := h5
  obtain ⟨a5, ok5, hr5⟩ := Ab.Rd.ag Ab.rdSpan (fun _ => rfl) hf5
  clear hA0 hval0 hsz0 hsz
  refine (Ab.walk_of_pure (Ab.SeekChecks_ok a0 a1 a2.data.toList a3.data.toList a4 a5 w0 ok1 w2 w3 ok4 ok5) (vs := [.int .i64 a0, .agg cs1, .string a2, .string a3, .agg cs4, .agg cs5]) (Ab.VRs.cons (Ab.VR.val _) (Ab.VRs.cons hr1 (Ab.VRs.cons (Ab.VR.val _) (Ab.VRs.cons (Ab.VR.val _) (Ab.VRs.cons hr4 (Ab.VRs.cons hr5 (Ab.VRs.nil _)))))))).mono fun e W' ⟨he, bel⟩ => ?_
  subst he
  exact ⟨_, rfl, _, _, _, [], _, [], hW', trodAll_mk1 (shut_bool Go.Proofs.Try.underlying4 _), (trodAll_cons_mk (Below.trod laidOut (by kernel_rfl) (of_decide_eq_true (by kernel_rfl)) k0 bel lt0) (trodAll_cons_mk (Below.trod laidOut (by kernel_rfl) (of_decide_eq_true (by kernel_rfl)) k1 bel lt1) (trodAll_cons_mk (Below.trod laidOut (by kernel_rfl) (of_decide_eq_true (by kernel_rfl)) k2 bel lt2) (trodAll_cons_mk (Below.trod laidOut (by kernel_rfl) (of_decide_eq_true (by kernel_rfl)) k3 bel lt3) (trodAll_cons_mk (Below.trod laidOut (by kernel_rfl) (of_decide_eq_true (by kernel_rfl)) k4 bel lt4) (trodAll_cons_mk (Below.trod laidOut (by kernel_rfl) (of_decide_eq_true (by kernel_rfl)) k5 bel lt5) trodAll_mk0)))))), rfl, bel.frame _, fun h => by cases h⟩
theorem over : Rows.seekChecksRow.holds Go.Proofs.Ytobhbepiaibceaa.Try.pinned (OpenSpec.ofChange Rows.seekChecksSpec) :=
  OpenClaim.holds_of_wide 4 Go.Proofs.Try.f4 rfl rfl rfl rfl rfl rfl rfl ⟨rfl, rfl, rfl, rfl, rfl⟩ rfl rfl rfl rfl rfl (by kernel_rfl) Go.Proofs.Try.func4 (by kernel_rfl)
    (of_decide_eq_true (by kernel_rfl)) (by unfold Func.isWrapper; first | (rw [if_pos (by decide +kernel)]; kernel_rfl) | (rw [if_neg (by decide +kernel)]; exact ⟨rfl, rfl⟩))
    (fun os started H enc _ => lifted os started H enc)
theorem proved : Rows.SeekChecksSaid := over
#print axioms proved
end Go.Proofs.Ytobhbepiaibceaa.seekChecks
namespace Go.Proofs.Ytobhbepiaibceaa
/-- The row, under a short name, for the claim. -/
theorem seekChecks_holds : Rows.SeekChecksSaid := seekChecks.proved
end Go.Proofs.Ytobhbepiaibceaa
