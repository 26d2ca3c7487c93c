/- MemFull: whatever comes in, the law's call returns true and changes nothing that was there; no condition beyond the row's own. -/
import Derived.Test.YtcpbjmhhhdoafaaRows
import Derived.Test.YtcpbjmhhhdoafaaF40
import Derived.Test.YtcpbjmhhhdoafaaRow1
import Derived.WalkKit
import Derived.ProofKit
import Derived.OpenShut
import Derived.ShutString
import Derived.ChangeOld
import Derived.Below
import Derived.SizedLaws
namespace Go.Proofs.Ytcpbjmhhhdoafaa.memFull
open Go.ChangeShapes Go.WideShapes Go.ChangeAt Go.RowKit
open Go.ChangeMaps (open_string shut_string)
set_option linter.unusedVariables false
theorem own : ownKnob Go.Proofs.Try.prog.godebug = none := by kernel_rfl
theorem laidOut : laidOutB Go.Proofs.Try.prog = true := by kernel_rfl
set_option maxRecDepth 100000 in
theorem lifted (os : Os) (started : os.Started) (H : Type) (enc : TypeId × Value → H) :
    ReturnsInHanded {} Go.Proofs.Try.checked os 3 .any (Rows.memFullSpec.pre6 enc Go.Proofs.Try.prog Go.Proofs.Try.f3 Rows.memFullRow.domain false) (Rows.memFullSpec.post enc Go.Proofs.Try.prog Go.Proofs.Try.f3 false true false false) := by
  refine returnsInHanded_of_change_sized (C := Go.Proofs.Try.checked) own started (by kernel_rfl) Go.Proofs.Try.func3
    (ChangeSpec.witness6 (enc := enc) (C := Go.Proofs.Try.checked) false ⟨#[], #[.int .i64 0], []⟩ 8 (by kernel_rfl) (by kernel_rfl) (by kernel_rfl) (by kernel_rfl)) ?_
  intro W base args ds gs before hval0 hW hcnd hsz0 _
  have hsz : (DataW.weightsEach Go.Proofs.Try.prog (Go.Proofs.Try.f3.params.toList ++ Rows.memFullSpec.plain.varTypes Go.Proofs.Try.prog) (ds ++ gs)).all (· ≤ reachBytes) = true := hsz0
  have hval : ∀ (j : Nat) t v, Go.Proofs.Try.f3.params[j]? = some t → args[j]? = some v → Value.okWide Go.Proofs.Try.prog W .any base t v := hval0
  have hW' := hW
  obtain ⟨p, q, hA0, hV, rfl, hfz, hnd⟩ := hW
  have hA : DataW.TrodAll enc Go.Proofs.Try.prog W 0 (fun _ => true) true Go.Proofs.Try.f3.params.toList args.toList ds p := hA0
  rw [Go.Proofs.Try.params3] at hA hval hsz
  obtain ⟨v0, vs0, d0, ds0, p0, q0, hargs, rfl, rfl, h0, r0⟩ := trodAll_cons hA
  obtain ⟨rfl, rfl, rfl⟩ := trodAll_nil r0
  obtain rfl : args = #[v0] := by cases args; simp_all
  obtain ⟨rfl, rfl⟩ := trodVars_none hV
  have k0 := h0
  have lt0 : ∀ x ∈ p0, x.block < W.heap.size := by obtain ⟨m, hm⟩ := k0; exact DataW.trod_lt m _ _ _ hm
  obtain ⟨a0, rfl, rfl, rfl, w0⟩ := open_int Go.Proofs.Try.underlying3 (hval 0 3 v0 rfl rfl) h0
  clear hA0 hval0 hsz0 hsz
  refine (Ab.walk_of_pure (Ab.MemFull_ok a0 w0) (vs := [.int .i64 a0]) (Ab.VRs.cons (Ab.VR.val _) (Ab.VRs.nil _))).mono fun e W' ⟨he, bel⟩ => ?_
  subst he
  exact ⟨_, rfl, _, _, _, [], _, [], hW', trodAll_mk1 (shut_bool Go.Proofs.Try.underlying4 _), (trodAll_cons_mk (Below.trod laidOut (by kernel_rfl) (of_decide_eq_true (by kernel_rfl)) k0 bel lt0) trodAll_mk0), rfl, bel.frame _, fun h => by cases h⟩
theorem over : Rows.memFullRow.holds Go.Proofs.Ytcpbjmhhhdoafaa.Try.pinned (OpenSpec.ofChange Rows.memFullSpec) :=
  OpenClaim.holds_of_wide 3 Go.Proofs.Try.f3 rfl rfl rfl rfl rfl rfl rfl ⟨rfl, rfl, rfl, rfl, rfl⟩ rfl rfl rfl rfl rfl (by kernel_rfl) Go.Proofs.Try.func3 (by kernel_rfl)
    (of_decide_eq_true (by kernel_rfl)) (by unfold Func.isWrapper; first | (rw [if_pos (by decide +kernel)]; kernel_rfl) | (rw [if_neg (by decide +kernel)]; exact ⟨rfl, rfl⟩))
    (fun os started H enc _ => lifted os started H enc)
theorem proved : Rows.MemFullSaid := over
#print axioms proved
end Go.Proofs.Ytcpbjmhhhdoafaa.memFull
namespace Go.Proofs.Ytcpbjmhhhdoafaa
/-- The row, under a short name, for the claim. -/
theorem memFull_holds : Rows.MemFullSaid := memFull.proved
end Go.Proofs.Ytcpbjmhhhdoafaa
