/- MoveSound: whatever comes in, the law's call returns true and changes nothing that was there; no condition beyond the row's own. -/
import Derived.Test.YtghihffhjpchpaaGreatMoveSoundK13
import Derived.Test.YtghihffhjpchpaaGreatRows
import Derived.WalkKit
import Derived.ProofKit
import Derived.OpenShut
import Derived.ShutString
import Derived.ChangeOld
import Derived.Below
import Derived.SizedLaws
namespace Go.Proofs.YtghihffhjpchpaaGreat.moveSound
open Go.ChangeShapes Go.WideShapes Go.ChangeAt Go.RowKit
open Go.ChangeMaps (open_string shut_string)
set_option linter.unusedVariables false
theorem own : ownKnob Go.Proofs.Tryz.prog.godebug = none := by kernel_rfl
theorem laidOut : laidOutB Go.Proofs.Tryz.prog = true := by kernel_rfl
set_option maxRecDepth 100000 in
theorem lifted (os : Os) (started : os.Started) (H : Type) (enc : TypeId × Value → H) :
    ReturnsInHanded {} Go.Proofs.Tryz.checked os 6 .any (Rows.moveSoundSpec.pre6 enc Go.Proofs.Tryz.prog Go.Proofs.Tryz.f6 Rows.moveSoundRow.domain false) (Rows.moveSoundSpec.post enc Go.Proofs.Tryz.prog Go.Proofs.Tryz.f6 false true false false) := by
  refine returnsInHanded_of_change_sized (C := Go.Proofs.Tryz.checked) own started (by kernel_rfl) Go.Proofs.Tryz.func6
    (ChangeSpec.witness6 (enc := enc) (C := Go.Proofs.Tryz.checked) false ⟨#[], #[.int .i64 0, .slice none 0 0, .slice none 0 0, .slice none 0 0, .bool false, .int .i64 0, .agg #[.string ⟨#[]⟩, .string ⟨#[]⟩, .bool false, .int .i64 0]], []⟩ 8 (by kernel_rfl) (by kernel_rfl) (by kernel_rfl) (by kernel_rfl)) ?_
  intro W base args ds gs before hval0 hW hcnd hsz0 _
  have hsz : (DataW.weightsEach Go.Proofs.Tryz.prog (Go.Proofs.Tryz.f6.params.toList ++ Rows.moveSoundSpec.plain.varTypes Go.Proofs.Tryz.prog) (ds ++ gs)).all (· ≤ reachBytes) = true := hsz0
  have hval : ∀ (j : Nat) t v, Go.Proofs.Tryz.f6.params[j]? = some t → args[j]? = some v → Value.okWide Go.Proofs.Tryz.prog W .any base t v := hval0
  have hW' := hW
  obtain ⟨p, q, hA0, hV, rfl, hfz, hnd⟩ := hW
  have hA : DataW.TrodAll enc Go.Proofs.Tryz.prog W 0 (fun _ => true) true Go.Proofs.Tryz.f6.params.toList args.toList ds p := hA0
  rw [Go.Proofs.Tryz.params6] at hA hval hsz
  obtain ⟨v0, vs0, d0, ds0, p0, q0, hargs, rfl, rfl, h0, r0⟩ := trodAll_cons hA
  obtain ⟨v1, vs1, d1, ds1, p1, q1, rfl, rfl, rfl, h1, r1⟩ := trodAll_cons r0
  obtain ⟨v2, vs2, d2, ds2, p2, q2, rfl, rfl, rfl, h2, r2⟩ := trodAll_cons r1
  obtain ⟨v3, vs3, d3, ds3, p3, q3, rfl, rfl, rfl, h3, r3⟩ := trodAll_cons r2
  obtain ⟨v4, vs4, d4, ds4, p4, q4, rfl, rfl, rfl, h4, r4⟩ := trodAll_cons r3
  obtain ⟨v5, vs5, d5, ds5, p5, q5, rfl, rfl, rfl, h5, r5⟩ := trodAll_cons r4
  obtain ⟨v6, vs6, d6, ds6, p6, q6, rfl, rfl, rfl, h6, r6⟩ := trodAll_cons r5
  obtain ⟨rfl, rfl, rfl⟩ := trodAll_nil r6
  obtain rfl : args = #[v0, v1, v2, v3, v4, v5, v6] := by cases args; simp_all
  obtain ⟨rfl, rfl⟩ := trodVars_none hV
  have k0 := h0
  have lt0 : ∀ x ∈ p0, x.block < W.heap.size := by obtain ⟨m, hm⟩ := k0; exact DataW.trod_lt m _ _ _ hm
  obtain ⟨a0, rfl, rfl, rfl, w0⟩ := open_int Go.Proofs.Tryz.underlying3 (hval 0 3 v0 rfl rfl) h0
  obtain ⟨a'1, len1, cap1, rfl⟩ := okWide_slice Go.Proofs.Tryz.underlying22 (hval 1 22 v1 rfl rfl)
  have k1 := h1
  have lt1 : ∀ x ∈ p1, x.block < W.heap.size := by obtain ⟨m, hm⟩ := k1; exact DataW.trod_lt m _ _ _ hm
  obtain ⟨fuel1, hf1⟩ := h1
  obtain ⟨a1, ok1, hr1⟩ := Ab.Rd.val (Ab.Rd.slice (Ab.Rd.slice (Ab.Rd.en (by kernel_rfl)) Go.Proofs.Tryz.underlying33 (by kernel_rfl)) Go.Proofs.Tryz.underlying22 (by kernel_rfl)) (fun _ => rfl) hf1
  obtain ⟨a'2, len2, cap2, rfl⟩ := okWide_slice Go.Proofs.Tryz.underlying23 (hval 2 23 v2 rfl rfl)
  have k2 := h2
  have lt2 : ∀ x ∈ p2, x.block < W.heap.size := by obtain ⟨m, hm⟩ := k2; exact DataW.trod_lt m _ _ _ hm
  obtain ⟨fuel2, hf2⟩ := h2
  obtain ⟨a2, ok2, hr2⟩ := Ab.Rd.val (Ab.Rd.slice (Ab.Rd.int Go.Proofs.Tryz.underlying3 (by kernel_rfl)) Go.Proofs.Tryz.underlying23 (by kernel_rfl)) (fun _ => rfl) hf2
  obtain ⟨a'3, len3, cap3, rfl⟩ := okWide_slice Go.Proofs.Tryz.underlying22 (hval 3 22 v3 rfl rfl)
  have k3 := h3
  have lt3 : ∀ x ∈ p3, x.block < W.heap.size := by obtain ⟨m, hm⟩ := k3; exact DataW.trod_lt m _ _ _ hm
  obtain ⟨fuel3, hf3⟩ := h3
  obtain ⟨a3, ok3, hr3⟩ := Ab.Rd.val (Ab.Rd.slice (Ab.Rd.slice (Ab.Rd.en (by kernel_rfl)) Go.Proofs.Tryz.underlying33 (by kernel_rfl)) Go.Proofs.Tryz.underlying22 (by kernel_rfl)) (fun _ => rfl) hf3
  have k4 := h4
  have lt4 : ∀ x ∈ p4, x.block < W.heap.size := by obtain ⟨m, hm⟩ := k4; exact DataW.trod_lt m _ _ _ hm
  obtain ⟨a4, rfl, rfl, rfl⟩ := open_bool Go.Proofs.Tryz.underlying4 (hval 4 4 v4 rfl rfl) h4
  have k5 := h5
  have lt5 : ∀ x ∈ p5, x.block < W.heap.size := by obtain ⟨m, hm⟩ := k5; exact DataW.trod_lt m _ _ _ hm
  obtain ⟨a5, rfl, rfl, rfl, w5⟩ := open_int Go.Proofs.Tryz.underlying3 (hval 5 3 v5 rfl rfl) h5
  obtain ⟨cs6, rfl⟩ := Ab.okWide_agg Go.Proofs.Tryz.underlying50 (hval 6 50 v6 rfl rfl)
  have k6 := h6
  have lt6 : ∀ x ∈ p6, x.block < W.heap.size := by obtain ⟨m, hm⟩ := k6; exact DataW.trod_lt m _ _ _ hm
  obtain ⟨fuel6, hf6⟩ := h6
  obtain ⟨e6, he6, hk6, hx6⟩ := Ab.open_En (by kernel_rfl) hf6
  obtain rfl : cs6 = e6.vals.toArray := by apply Array.ext'; simpa [Value.cells] using he6
  clear hA0 hval0 hsz0 hsz
  refine (Ab.walk_of_pure (Ab.MoveSound_ok a0 a1 .ro a2 .ro a3 .ro a4 a5 e6 w0 ok1 ok2 ok3 w5 hk6 hx6) (vs := [.int .i64 a0, .slice a'1 len1 cap1, .slice a'2 len2 cap2, .slice a'3 len3 cap3, .bool a4, .int .i64 a5, .agg e6.vals.toArray]) (Ab.VRs.cons (Ab.VR.val _) (Ab.VRs.cons hr1 (Ab.VRs.cons hr2 (Ab.VRs.cons hr3 (Ab.VRs.cons (Ab.VR.val _) (Ab.VRs.cons (Ab.VR.val _) (Ab.VRs.cons (Ab.VR.agg' (Ab.En.rel _ e6)) (Ab.VRs.nil _))))))))).mono fun e W' ⟨he, bel⟩ => ?_
  subst he
  exact ⟨_, rfl, _, _, _, [], _, [], hW', trodAll_mk1 (shut_bool Go.Proofs.Tryz.underlying4 _), (trodAll_cons_mk (Below.trod laidOut (by kernel_rfl) (of_decide_eq_true (by kernel_rfl)) k0 bel lt0) (trodAll_cons_mk (Below.trod laidOut (by kernel_rfl) (of_decide_eq_true (by kernel_rfl)) k1 bel lt1) (trodAll_cons_mk (Below.trod laidOut (by kernel_rfl) (of_decide_eq_true (by kernel_rfl)) k2 bel lt2) (trodAll_cons_mk (Below.trod laidOut (by kernel_rfl) (of_decide_eq_true (by kernel_rfl)) k3 bel lt3) (trodAll_cons_mk (Below.trod laidOut (by kernel_rfl) (of_decide_eq_true (by kernel_rfl)) k4 bel lt4) (trodAll_cons_mk (Below.trod laidOut (by kernel_rfl) (of_decide_eq_true (by kernel_rfl)) k5 bel lt5) (trodAll_cons_mk (Below.trod laidOut (by kernel_rfl) (of_decide_eq_true (by kernel_rfl)) k6 bel lt6) trodAll_mk0))))))), rfl, bel.frame _, fun h => by cases h⟩
theorem over : Rows.moveSoundRow.holds Go.Proofs.YtghihffhjpchpaaGreat.Tryz.pinned (OpenSpec.ofChange Rows.moveSoundSpec) :=
  OpenClaim.holds_of_wide 6 Go.Proofs.Tryz.f6 rfl rfl rfl rfl rfl rfl rfl ⟨rfl, rfl, rfl, rfl, rfl⟩ rfl rfl rfl rfl rfl (by kernel_rfl) Go.Proofs.Tryz.func6 (by kernel_rfl)
    (of_decide_eq_true (by kernel_rfl)) (by unfold Func.isWrapper; first | (rw [if_pos (by decide +kernel)]; kernel_rfl) | (rw [if_neg (by decide +kernel)]; exact ⟨rfl, rfl⟩))
    (fun os started H enc _ => lifted os started H enc)
theorem proved : Rows.MoveSoundSaid := over
#print axioms proved
end Go.Proofs.YtghihffhjpchpaaGreat.moveSound
namespace Go.Proofs.YtghihffhjpchpaaGreat
/-- The row, under a short name, for the claim. -/
theorem moveSound_holds : Rows.MoveSoundSaid := moveSound.proved
end Go.Proofs.YtghihffhjpchpaaGreat
