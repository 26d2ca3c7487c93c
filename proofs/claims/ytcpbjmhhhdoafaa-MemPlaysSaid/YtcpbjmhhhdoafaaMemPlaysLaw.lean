/- MemPlays: whatever comes in, the law's call returns true and changes nothing that was there; no condition beyond the row's own. -/
import Derived.Test.YtcpbjmhhhdoafaaMemPlaysK11
import Derived.Test.YtcpbjmhhhdoafaaRows
import Derived.WalkKit
import Derived.ProofKit
import Derived.OpenShut
import Derived.ShutString
import Derived.ChangeOld
import Derived.Below
import Derived.SizedLaws
namespace Go.Proofs.Ytcpbjmhhhdoafaa.memPlays
open Go.ChangeShapes Go.WideShapes Go.ChangeAt Go.RowKit
open Go.ChangeMaps (open_string shut_string)
set_option linter.unusedVariables false
theorem own : ownKnob Go.Proofs.Try.prog.godebug = none := by kernel_rfl
theorem laidOut : laidOutB Go.Proofs.Try.prog = true := by kernel_rfl
set_option maxRecDepth 100000 in
theorem lifted (os : Os) (started : os.Started) (H : Type) (enc : TypeId × Value → H) :
    ReturnsInHanded {} Go.Proofs.Try.checked os 5 .any (Rows.memPlaysSpec.pre6 enc Go.Proofs.Try.prog Go.Proofs.Try.f5 Rows.memPlaysRow.domain false) (Rows.memPlaysSpec.post enc Go.Proofs.Try.prog Go.Proofs.Try.f5 false true false false) := by
  refine returnsInHanded_of_change_sized (C := Go.Proofs.Try.checked) own started (by kernel_rfl) Go.Proofs.Try.func5
    (ChangeSpec.witness6 (enc := enc) (C := Go.Proofs.Try.checked) false ⟨#[], #[.slice none 0 0], []⟩ 8 (by kernel_rfl) (by kernel_rfl) (by kernel_rfl) (by kernel_rfl)) ?_
  intro W base args ds gs before hval0 hW hcnd hsz0 _
  have hsz : (DataW.weightsEach Go.Proofs.Try.prog (Go.Proofs.Try.f5.params.toList ++ Rows.memPlaysSpec.plain.varTypes Go.Proofs.Try.prog) (ds ++ gs)).all (· ≤ reachBytes) = true := hsz0
  have hval : ∀ (j : Nat) t v, Go.Proofs.Try.f5.params[j]? = some t → args[j]? = some v → Value.okWide Go.Proofs.Try.prog W .any base t v := hval0
  have hW' := hW
  obtain ⟨p, q, hA0, hV, rfl, hfz, hnd⟩ := hW
  have hA : DataW.TrodAll enc Go.Proofs.Try.prog W 0 (fun _ => true) true Go.Proofs.Try.f5.params.toList args.toList ds p := hA0
  rw [Go.Proofs.Try.params5] at hA hval hsz
  obtain ⟨v0, vs0, d0, ds0, p0, q0, hargs, rfl, rfl, h0, r0⟩ := trodAll_cons hA
  obtain ⟨rfl, rfl, rfl⟩ := trodAll_nil r0
  obtain rfl : args = #[v0] := by cases args; simp_all
  obtain ⟨rfl, rfl⟩ := trodVars_none hV
  obtain ⟨a'0, len0, cap0, rfl⟩ := okWide_slice Go.Proofs.Try.underlying33 (hval 0 33 v0 rfl rfl)
  have k0 := h0
  have lt0 : ∀ x ∈ p0, x.block < W.heap.size := by obtain ⟨m, hm⟩ := k0; exact DataW.trod_lt m _ _ _ hm
  obtain ⟨fuel0, hf0⟩ := h0
  obtain ⟨a0, ok0, hr0⟩ := Ab.Rd.val (Ab.Rd.slice Ab.rdOp Go.Proofs.Try.underlying33 (by kernel_rfl)) (fun _ => rfl) hf0
  clear hA0 hval0 hsz0 hsz
  refine (Ab.walk_of_pure (Ab.MemPlays_ok a0 .ro ok0) (vs := [.slice a'0 len0 cap0]) (Ab.VRs.cons hr0 (Ab.VRs.nil _))).mono fun e W' ⟨he, bel⟩ => ?_
  subst he
  exact ⟨_, rfl, _, _, _, [], _, [], hW', trodAll_mk1 (shut_bool Go.Proofs.Try.underlying4 _), (trodAll_cons_mk (Below.trod laidOut (by kernel_rfl) (of_decide_eq_true (by kernel_rfl)) k0 bel lt0) trodAll_mk0), rfl, bel.frame _, fun h => by cases h⟩
theorem over : Rows.memPlaysRow.holds Go.Proofs.Ytcpbjmhhhdoafaa.Try.pinned (OpenSpec.ofChange Rows.memPlaysSpec) :=
  OpenClaim.holds_of_wide 5 Go.Proofs.Try.f5 rfl rfl rfl rfl rfl rfl rfl ⟨rfl, rfl, rfl, rfl, rfl⟩ rfl rfl rfl rfl rfl (by kernel_rfl) Go.Proofs.Try.func5 (by kernel_rfl)
    (of_decide_eq_true (by kernel_rfl)) (by unfold Func.isWrapper; first | (rw [if_pos (by decide +kernel)]; kernel_rfl) | (rw [if_neg (by decide +kernel)]; exact ⟨rfl, rfl⟩))
    (fun os started H enc _ => lifted os started H enc)
theorem proved : Rows.MemPlaysSaid := over
#print axioms proved
end Go.Proofs.Ytcpbjmhhhdoafaa.memPlays
namespace Go.Proofs.Ytcpbjmhhhdoafaa
/-- The row, under a short name, for the claim. -/
theorem memPlays_holds : Rows.MemPlaysSaid := memPlays.proved
end Go.Proofs.Ytcpbjmhhhdoafaa
