/- MoveFlushes: whatever comes in, the law's call returns true and changes nothing that was there; no condition beyond the row's own. -/
import Derived.Test.YtapkomfnbfbceaaMoveFlushesK11
import Derived.Test.YtapkomfnbfbceaaRows
import Derived.WalkKit
import Derived.ProofKit
import Derived.OpenShut
import Derived.ShutString
import Derived.ChangeOld
import Derived.Below
import Derived.SizedLaws
namespace Go.Proofs.Ytapkomfnbfbceaa.moveFlushes
open Go.ChangeShapes Go.WideShapes Go.ChangeAt Go.RowKit
open Go.ChangeMaps (open_string shut_string)
set_option linter.unusedVariables false
theorem own : ownKnob Go.Proofs.Try.prog.godebug = none := by kernel_rfl
theorem laidOut : laidOutB Go.Proofs.Try.prog = true := by kernel_rfl
set_option maxRecDepth 100000 in
theorem lifted (os : Os) (started : os.Started) (H : Type) (enc : TypeId × Value → H) :
    ReturnsInHanded {} Go.Proofs.Try.checked os 3 .any (Rows.moveFlushesSpec.pre6 enc Go.Proofs.Try.prog Go.Proofs.Try.f3 Rows.moveFlushesRow.domain false) (Rows.moveFlushesSpec.post enc Go.Proofs.Try.prog Go.Proofs.Try.f3 false true false false) := by
  refine returnsInHanded_of_change_sized (C := Go.Proofs.Try.checked) own started (by kernel_rfl) Go.Proofs.Try.func3
    (ChangeSpec.witness6 (enc := enc) (C := Go.Proofs.Try.checked) false ⟨#[], #[.int .i64 0, .slice none 0 0, .slice none 0 0], []⟩ 8 (by kernel_rfl) (by kernel_rfl) (by kernel_rfl) (by kernel_rfl)) ?_
  intro W base args ds gs before hval0 hW hcnd hsz0 _
  have hsz : (DataW.weightsEach Go.Proofs.Try.prog (Go.Proofs.Try.f3.params.toList ++ Rows.moveFlushesSpec.plain.varTypes Go.Proofs.Try.prog) (ds ++ gs)).all (· ≤ reachBytes) = true := hsz0
  have hval : ∀ (j : Nat) t v, Go.Proofs.Try.f3.params[j]? = some t → args[j]? = some v → Value.okWide Go.Proofs.Try.prog W .any base t v := hval0
  have hW' := hW
  obtain ⟨p, q, hA0, hV, rfl, hfz, hnd⟩ := hW
  have hA : DataW.TrodAll enc Go.Proofs.Try.prog W 0 (fun _ => true) true Go.Proofs.Try.f3.params.toList args.toList ds p := hA0
  rw [Go.Proofs.Try.params3] at hA hval hsz
  obtain ⟨v0, vs0, d0, ds0, p0, q0, hargs, rfl, rfl, h0, r0⟩ := trodAll_cons hA
  obtain ⟨v1, vs1, d1, ds1, p1, q1, rfl, rfl, rfl, h1, r1⟩ := trodAll_cons r0
  obtain ⟨v2, vs2, d2, ds2, p2, q2, rfl, rfl, rfl, h2, r2⟩ := trodAll_cons r1
  obtain ⟨rfl, rfl, rfl⟩ := trodAll_nil r2
  obtain rfl : args = #[v0, v1, v2] := by cases args; simp_all
  obtain ⟨rfl, rfl⟩ := trodVars_none hV
  have k0 := h0
  have lt0 : ∀ x ∈ p0, x.block < W.heap.size := by obtain ⟨m, hm⟩ := k0; exact DataW.trod_lt m _ _ _ hm
  obtain ⟨a0, rfl, rfl, rfl, w0⟩ := open_int Go.Proofs.Try.underlying3 (hval 0 3 v0 rfl rfl) h0
  obtain ⟨a'1, len1, cap1, rfl⟩ := okWide_slice Go.Proofs.Try.underlying22 (hval 1 22 v1 rfl rfl)
  have k1 := h1
  have lt1 : ∀ x ∈ p1, x.block < W.heap.size := by obtain ⟨m, hm⟩ := k1; exact DataW.trod_lt m _ _ _ hm
  obtain ⟨fuel1, hf1⟩ := h1
  obtain ⟨a1, ok1, hr1⟩ := Ab.Rd.val (Ab.Rd.slice Ab.rdTab Go.Proofs.Try.underlying22 (by kernel_rfl)) (fun _ => rfl) hf1
  obtain ⟨a2, len2, cap2, rfl⟩ := okWide_slice Go.Proofs.Try.underlying23 (hval 2 23 v2 rfl rfl)
  have k2 := h2
  have lt2 : ∀ x ∈ p2, x.block < W.heap.size := by obtain ⟨m, hm⟩ := k2; exact DataW.trod_lt m _ _ _ hm
  obtain ⟨fuel2, hf2⟩ := h2
  obtain ⟨l2, hl2, hd2, hr2⟩ := Ab.open_Ens Go.Proofs.Try.underlying23 (by kernel_rfl) hf2
  have hll2 : l2.length ≤ 140737488355328 := by
    rcases hd2 with ⟨_, h⟩ | ⟨els, sp, h, he⟩
    · omega
    · have h2 : d2 = .slice els sp := h
      subst h2
      have z := sized_slice hsz (j := 2) (t := 23) rfl rfl Go.Proofs.Try.underlying23
      have hb : (Go.Proofs.Try.prog).bytesOf 45 = 48 := by kernel_rfl
      rw [hb] at z
      have := reachBytes_lt
      omega
  have hlm2 : l2.length ≤ 100000000000000 := by
    rcases hd2 with ⟨_, h⟩ | ⟨els, sp, h, he⟩
    · omega
    · have h2 : d2 = .slice els sp := h
      subst h2
      have z := sized_slice hsz (j := 2) (t := 23) rfl rfl Go.Proofs.Try.underlying23
      have hb : (Go.Proofs.Try.prog).bytesOf 45 = 48 := by kernel_rfl
      rw [hb] at z
      have := reachBytes_lt
      omega
  clear hA0 hval0 hsz0 hsz
  refine (Ab.walk_of_pure (Ab.MoveFlushes_ok a0 a1 .ro l2 .ro w0 ok1 hlm2) (vs := [.int .i64 a0, .slice a'1 len1 cap1, .slice a2 len2 cap2]) (Ab.VRs.cons (Ab.VR.val _) (Ab.VRs.cons hr1 (Ab.VRs.cons hr2 (Ab.VRs.nil _))))).mono fun e W' ⟨he, bel⟩ => ?_
  subst he
  exact ⟨_, rfl, _, _, _, [], _, [], hW', trodAll_mk1 (shut_bool Go.Proofs.Try.underlying4 _), (trodAll_cons_mk (Below.trod laidOut (by kernel_rfl) (of_decide_eq_true (by kernel_rfl)) k0 bel lt0) (trodAll_cons_mk (Below.trod laidOut (by kernel_rfl) (of_decide_eq_true (by kernel_rfl)) k1 bel lt1) (trodAll_cons_mk (Below.trod laidOut (by kernel_rfl) (of_decide_eq_true (by kernel_rfl)) k2 bel lt2) trodAll_mk0))), rfl, bel.frame _, fun h => by cases h⟩
theorem over : Rows.moveFlushesRow.holds Go.Proofs.Ytapkomfnbfbceaa.Try.pinned (OpenSpec.ofChange Rows.moveFlushesSpec) :=
  OpenClaim.holds_of_wide 3 Go.Proofs.Try.f3 rfl rfl rfl rfl rfl rfl rfl ⟨rfl, rfl, rfl, rfl, rfl⟩ rfl rfl rfl rfl rfl (by kernel_rfl) Go.Proofs.Try.func3 (by kernel_rfl)
    (of_decide_eq_true (by kernel_rfl)) (by unfold Func.isWrapper; first | (rw [if_pos (by decide +kernel)]; kernel_rfl) | (rw [if_neg (by decide +kernel)]; exact ⟨rfl, rfl⟩))
    (fun os started H enc _ => lifted os started H enc)
theorem proved : Rows.MoveFlushesSaid := over
#print axioms proved
end Go.Proofs.Ytapkomfnbfbceaa.moveFlushes
namespace Go.Proofs.Ytapkomfnbfbceaa
/-- The row, under a short name, for the claim. -/
theorem moveFlushes_holds : Rows.MoveFlushesSaid := moveFlushes.proved
end Go.Proofs.Ytapkomfnbfbceaa
