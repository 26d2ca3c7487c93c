/- MoveKeeps: whatever comes in, the law's call returns true and changes nothing that was there; no condition beyond the row's own. -/
import Derived.Test.YtghihffhjpchpaaGreatMoveKeepsK15
import Derived.Test.YtghihffhjpchpaaGreatRows
import Derived.WalkKit
import Derived.ProofKit
import Derived.OpenShut
import Derived.ShutString
import Derived.ChangeOld
import Derived.Below
import Derived.SizedLaws
namespace Go.Proofs.YtghihffhjpchpaaGreat.moveKeeps
open Go.ChangeShapes Go.WideShapes Go.ChangeAt Go.RowKit
open Go.ChangeMaps (open_string shut_string)
set_option linter.unusedVariables false
theorem own : ownKnob Go.Proofs.Tryz.prog.godebug = none := by kernel_rfl
theorem laidOut : laidOutB Go.Proofs.Tryz.prog = true := by kernel_rfl
set_option maxRecDepth 100000 in
theorem lifted (os : Os) (started : os.Started) (H : Type) (enc : TypeId × Value → H) :
    ReturnsInHanded {} Go.Proofs.Tryz.checked os 5 .any (Rows.moveKeepsSpec.pre6 enc Go.Proofs.Tryz.prog Go.Proofs.Tryz.f5 Rows.moveKeepsRow.domain false) (Rows.moveKeepsSpec.post enc Go.Proofs.Tryz.prog Go.Proofs.Tryz.f5 false true false false) := by
  refine returnsInHanded_of_change_sized (C := Go.Proofs.Tryz.checked) own started (by kernel_rfl) Go.Proofs.Tryz.func5
    (ChangeSpec.witness6 (enc := enc) (C := Go.Proofs.Tryz.checked) false ⟨#[], #[.int .i64 0, .slice none 0 0, .slice none 0 0], []⟩ 8 (by kernel_rfl) (by kernel_rfl) (by kernel_rfl) (by kernel_rfl)) ?_
  intro W base args ds gs before hval0 hW hcnd hsz0 _
  have hsz : (DataW.weightsEach Go.Proofs.Tryz.prog (Go.Proofs.Tryz.f5.params.toList ++ Rows.moveKeepsSpec.plain.varTypes Go.Proofs.Tryz.prog) (ds ++ gs)).all (· ≤ reachBytes) = true := hsz0
  have hval : ∀ (j : Nat) t v, Go.Proofs.Tryz.f5.params[j]? = some t → args[j]? = some v → Value.okWide Go.Proofs.Tryz.prog W .any base t v := hval0
  have hW' := hW
  obtain ⟨p, q, hA0, hV, rfl, hfz, hnd⟩ := hW
  have hA : DataW.TrodAll enc Go.Proofs.Tryz.prog W 0 (fun _ => true) true Go.Proofs.Tryz.f5.params.toList args.toList ds p := hA0
  rw [Go.Proofs.Tryz.params5] at hA hval hsz
  obtain ⟨v0, vs0, d0, ds0, p0, q0, hargs, rfl, rfl, h0, r0⟩ := trodAll_cons hA
  obtain ⟨v1, vs1, d1, ds1, p1, q1, rfl, rfl, rfl, h1, r1⟩ := trodAll_cons r0
  obtain ⟨v2, vs2, d2, ds2, p2, q2, rfl, rfl, rfl, h2, r2⟩ := trodAll_cons r1
  obtain ⟨rfl, rfl, rfl⟩ := trodAll_nil r2
  obtain rfl : args = #[v0, v1, v2] := by cases args; simp_all
  obtain ⟨rfl, rfl⟩ := trodVars_none hV
  have k0 := h0
  have lt0 : ∀ x ∈ p0, x.block < W.heap.size := by obtain ⟨m, hm⟩ := k0; exact DataW.trod_lt m _ _ _ hm
  obtain ⟨a0, rfl, rfl, rfl, w0⟩ := open_int Go.Proofs.Tryz.underlying3 (hval 0 3 v0 rfl rfl) h0
  obtain ⟨a'1, len1, cap1, rfl⟩ := okWide_slice Go.Proofs.Tryz.underlying22 (hval 1 22 v1 rfl rfl)
  have k1 := h1
  have lt1 : ∀ x ∈ p1, x.block < W.heap.size := by obtain ⟨m, hm⟩ := k1; exact DataW.trod_lt m _ _ _ hm
  obtain ⟨fuel1, hf1⟩ := h1
  obtain ⟨a1, ok1, hr1⟩ := Ab.Rd.val (Ab.Rd.slice (Ab.Rd.slice (Ab.Rd.en (by kernel_rfl)) Go.Proofs.Tryz.underlying33 (by kernel_rfl)) Go.Proofs.Tryz.underlying22 (by kernel_rfl)) (fun _ => rfl) hf1
  obtain ⟨a'2, len2, cap2, rfl⟩ := okWide_slice Go.Proofs.Tryz.underlying23 (hval 2 23 v2 rfl rfl)
  have k2 := h2
  have lt2 : ∀ x ∈ p2, x.block < W.heap.size := by obtain ⟨m, hm⟩ := k2; exact DataW.trod_lt m _ _ _ hm
  obtain ⟨fuel2, hf2⟩ := h2
  obtain ⟨a2, ok2, hr2⟩ := Ab.Rd.val (Ab.Rd.slice (Ab.Rd.int Go.Proofs.Tryz.underlying3 (by kernel_rfl)) Go.Proofs.Tryz.underlying23 (by kernel_rfl)) (fun _ => rfl) hf2
  clear hA0 hval0 hsz0 hsz
  refine (Ab.walk_of_pure (Ab.MoveKeeps_ok a0 a1 .ro a2 .ro w0 ok1 ok2) (vs := [.int .i64 a0, .slice a'1 len1 cap1, .slice a'2 len2 cap2]) (Ab.VRs.cons (Ab.VR.val _) (Ab.VRs.cons hr1 (Ab.VRs.cons hr2 (Ab.VRs.nil _))))).mono fun e W' ⟨he, bel⟩ => ?_
  subst he
  exact ⟨_, rfl, _, _, _, [], _, [], hW', trodAll_mk1 (shut_bool Go.Proofs.Tryz.underlying4 _), (trodAll_cons_mk (Below.trod laidOut (by kernel_rfl) (of_decide_eq_true (by kernel_rfl)) k0 bel lt0) (trodAll_cons_mk (Below.trod laidOut (by kernel_rfl) (of_decide_eq_true (by kernel_rfl)) k1 bel lt1) (trodAll_cons_mk (Below.trod laidOut (by kernel_rfl) (of_decide_eq_true (by kernel_rfl)) k2 bel lt2) trodAll_mk0))), rfl, bel.frame _, fun h => by cases h⟩
theorem over : Rows.moveKeepsRow.holds Go.Proofs.YtghihffhjpchpaaGreat.Tryz.pinned (OpenSpec.ofChange Rows.moveKeepsSpec) :=
  OpenClaim.holds_of_wide 5 Go.Proofs.Tryz.f5 rfl rfl rfl rfl rfl rfl rfl ⟨rfl, rfl, rfl, rfl, rfl⟩ rfl rfl rfl rfl rfl (by kernel_rfl) Go.Proofs.Tryz.func5 (by kernel_rfl)
    (of_decide_eq_true (by kernel_rfl)) (by unfold Func.isWrapper; first | (rw [if_pos (by decide +kernel)]; kernel_rfl) | (rw [if_neg (by decide +kernel)]; exact ⟨rfl, rfl⟩))
    (fun os started H enc _ => lifted os started H enc)
theorem proved : Rows.MoveKeepsSaid := over
#print axioms proved
end Go.Proofs.YtghihffhjpchpaaGreat.moveKeeps
namespace Go.Proofs.YtghihffhjpchpaaGreat
/-- The row, under a short name, for the claim. -/
theorem moveKeeps_holds : Rows.MoveKeepsSaid := moveKeeps.proved
end Go.Proofs.YtghihffhjpchpaaGreat
