/- SeekSpans: whatever comes in, the law's call returns true and changes nothing that was there; no condition beyond the row's own. -/
import Derived.Test.YtobhbepiaibceaaSeekSpansK13
import Derived.Test.YtobhbepiaibceaaRows
import Derived.WalkKit
import Derived.ProofKit
import Derived.OpenShut
import Derived.ShutString
import Derived.ChangeOld
import Derived.Below
import Derived.SizedLaws
namespace Go.Proofs.Ytobhbepiaibceaa.seekSpans
open Go.ChangeShapes Go.WideShapes Go.ChangeAt Go.RowKit
open Go.ChangeMaps (open_string shut_string)
set_option linter.unusedVariables false
theorem own : ownKnob Go.Proofs.Try.prog.godebug = none := by kernel_rfl
theorem laidOut : laidOutB Go.Proofs.Try.prog = true := by kernel_rfl
set_option maxRecDepth 100000 in
theorem lifted (os : Os) (started : os.Started) (H : Type) (enc : TypeId × Value → H) :
    ReturnsInHanded {} Go.Proofs.Try.checked os 9 .any (Rows.seekSpansSpec.pre6 enc Go.Proofs.Try.prog Go.Proofs.Try.f9 Rows.seekSpansRow.domain false) (Rows.seekSpansSpec.post enc Go.Proofs.Try.prog Go.Proofs.Try.f9 false true false false) := by
  refine returnsInHanded_of_change_sized (C := Go.Proofs.Try.checked) own started (by kernel_rfl) Go.Proofs.Try.func9
    (ChangeSpec.witness6 (enc := enc) (C := Go.Proofs.Try.checked) false ⟨#[], #[.slice none 0 0, .int .i64 0, .string ⟨#[]⟩, .string ⟨#[]⟩, .agg #[(.int .i64 0), (.slice none 0 0), (.slice none 0 0)]], []⟩ 8 (by kernel_rfl) (by kernel_rfl) (by kernel_rfl) (by kernel_rfl)) ?_
  intro W base args ds gs before hval0 hW hcnd hsz0 _
  have hsz : (DataW.weightsEach Go.Proofs.Try.prog (Go.Proofs.Try.f9.params.toList ++ Rows.seekSpansSpec.plain.varTypes Go.Proofs.Try.prog) (ds ++ gs)).all (· ≤ reachBytes) = true := hsz0
  have hval : ∀ (j : Nat) t v, Go.Proofs.Try.f9.params[j]? = some t → args[j]? = some v → Value.okWide Go.Proofs.Try.prog W .any base t v := hval0
  have hW' := hW
  obtain ⟨p, q, hA0, hV, rfl, hfz, hnd⟩ := hW
  have hA : DataW.TrodAll enc Go.Proofs.Try.prog W 0 (fun _ => true) true Go.Proofs.Try.f9.params.toList args.toList ds p := hA0
  rw [Go.Proofs.Try.params9] at hA hval hsz
  obtain ⟨v0, vs0, d0, ds0, p0, q0, hargs, rfl, rfl, h0, r0⟩ := trodAll_cons hA
  obtain ⟨v1, vs1, d1, ds1, p1, q1, rfl, rfl, rfl, h1, r1⟩ := trodAll_cons r0
  obtain ⟨v2, vs2, d2, ds2, p2, q2, rfl, rfl, rfl, h2, r2⟩ := trodAll_cons r1
  obtain ⟨v3, vs3, d3, ds3, p3, q3, rfl, rfl, rfl, h3, r3⟩ := trodAll_cons r2
  obtain ⟨v4, vs4, d4, ds4, p4, q4, rfl, rfl, rfl, h4, r4⟩ := trodAll_cons r3
  obtain ⟨rfl, rfl, rfl⟩ := trodAll_nil r4
  obtain rfl : args = #[v0, v1, v2, v3, v4] := by cases args; simp_all
  obtain ⟨rfl, rfl⟩ := trodVars_none hV
  obtain ⟨a0, len0, cap0, rfl⟩ := okWide_slice Go.Proofs.Try.underlying22 (hval 0 22 v0 rfl rfl)
  have k0 := h0
  have lt0 : ∀ x ∈ p0, x.block < W.heap.size := by obtain ⟨m, hm⟩ := k0; exact DataW.trod_lt m _ _ _ hm
  obtain ⟨fuel0, hf0⟩ := h0
  obtain ⟨l0, hl0, hd0, hr0⟩ := Ab.open_Ens Go.Proofs.Try.underlying22 (by kernel_rfl) hf0
  have hll0 : l0.length ≤ 140737488355328 := by
    rcases hd0 with ⟨_, h⟩ | ⟨els, sp, h, he⟩
    · omega
    · have h2 : d0 = .slice els sp := h
      subst h2
      have z := sized_slice hsz (j := 0) (t := 22) rfl rfl Go.Proofs.Try.underlying22
      have hb : (Go.Proofs.Try.prog).bytesOf 54 = 48 := by kernel_rfl
      rw [hb] at z
      have := reachBytes_lt
      omega
  have hlm0 : l0.length ≤ 100000000000000 := by
    rcases hd0 with ⟨_, h⟩ | ⟨els, sp, h, he⟩
    · omega
    · have h2 : d0 = .slice els sp := h
      subst h2
      have z := sized_slice hsz (j := 0) (t := 22) rfl rfl Go.Proofs.Try.underlying22
      have hb : (Go.Proofs.Try.prog).bytesOf 54 = 48 := by kernel_rfl
      rw [hb] at z
      have := reachBytes_lt
      omega
  have k1 := h1
  have lt1 : ∀ x ∈ p1, x.block < W.heap.size := by obtain ⟨m, hm⟩ := k1; exact DataW.trod_lt m _ _ _ hm
  obtain ⟨a1, rfl, rfl, rfl, w1⟩ := open_int Go.Proofs.Try.underlying3 (hval 1 3 v1 rfl rfl) h1
  have k2 := h2
  have lt2 : ∀ x ∈ p2, x.block < W.heap.size := by obtain ⟨m, hm⟩ := k2; exact DataW.trod_lt m _ _ _ hm
  obtain ⟨a2, rfl, rfl, rfl, y2⟩ := open_string Go.Proofs.Try.underlying9 (hval 2 9 v2 rfl rfl) h2
  have w2 : a2.data.toList.length ≤ 140737488355328 := by
    have z := sized_string hsz (j := 2) (t := 9) rfl rfl
    have z2 := reachBytes_lt
    simp at z ⊢
    omega
  have k3 := h3
  have lt3 : ∀ x ∈ p3, x.block < W.heap.size := by obtain ⟨m, hm⟩ := k3; exact DataW.trod_lt m _ _ _ hm
  obtain ⟨a3, rfl, rfl, rfl, y3⟩ := open_string Go.Proofs.Try.underlying9 (hval 3 9 v3 rfl rfl) h3
  have w3 : a3.data.toList.length ≤ 140737488355328 := by
    have z := sized_string hsz (j := 3) (t := 9) rfl rfl
    have z2 := reachBytes_lt
    simp at z ⊢
    omega
  obtain ⟨cs4, rfl⟩ := Ab.okWide_agg Go.Proofs.Try.underlying39 (hval 4 39 v4 rfl rfl)
  have k4 := h4
  have lt4 : ∀ x ∈ p4, x.block < W.heap.size := by obtain ⟨m, hm⟩ := k4; exact DataW.trod_lt m _ _ _ hm
  obtain ⟨fuel4, hf4⟩ := h4
  obtain ⟨a4, ok4, hr4⟩ := Ab.Rd.ag Ab.rdSpan (fun _ => rfl) hf4
  clear hA0 hval0 hsz0 hsz
  refine (Ab.walk_of_pure (Ab.SeekSpans_ok l0 .ro a1 a2.data.toList a3.data.toList a4 hlm0 w1 w2 w3 ok4) (vs := [.slice a0 len0 cap0, .int .i64 a1, .string a2, .string a3, .agg cs4]) (Ab.VRs.cons hr0 (Ab.VRs.cons (Ab.VR.val _) (Ab.VRs.cons (Ab.VR.val _) (Ab.VRs.cons (Ab.VR.val _) (Ab.VRs.cons hr4 (Ab.VRs.nil _))))))).mono fun e W' ⟨he, bel⟩ => ?_
  subst he
  exact ⟨_, rfl, _, _, _, [], _, [], hW', trodAll_mk1 (shut_bool Go.Proofs.Try.underlying4 _), (trodAll_cons_mk (Below.trod laidOut (by kernel_rfl) (of_decide_eq_true (by kernel_rfl)) k0 bel lt0) (trodAll_cons_mk (Below.trod laidOut (by kernel_rfl) (of_decide_eq_true (by kernel_rfl)) k1 bel lt1) (trodAll_cons_mk (Below.trod laidOut (by kernel_rfl) (of_decide_eq_true (by kernel_rfl)) k2 bel lt2) (trodAll_cons_mk (Below.trod laidOut (by kernel_rfl) (of_decide_eq_true (by kernel_rfl)) k3 bel lt3) (trodAll_cons_mk (Below.trod laidOut (by kernel_rfl) (of_decide_eq_true (by kernel_rfl)) k4 bel lt4) trodAll_mk0))))), rfl, bel.frame _, fun h => by cases h⟩
theorem over : Rows.seekSpansRow.holds Go.Proofs.Ytobhbepiaibceaa.Try.pinned (OpenSpec.ofChange Rows.seekSpansSpec) :=
  OpenClaim.holds_of_wide 9 Go.Proofs.Try.f9 rfl rfl rfl rfl rfl rfl rfl ⟨rfl, rfl, rfl, rfl, rfl⟩ rfl rfl rfl rfl rfl (by kernel_rfl) Go.Proofs.Try.func9 (by kernel_rfl)
    (of_decide_eq_true (by kernel_rfl)) (by unfold Func.isWrapper; first | (rw [if_pos (by decide +kernel)]; kernel_rfl) | (rw [if_neg (by decide +kernel)]; exact ⟨rfl, rfl⟩))
    (fun os started H enc _ => lifted os started H enc)
theorem proved : Rows.SeekSpansSaid := over
#print axioms proved
end Go.Proofs.Ytobhbepiaibceaa.seekSpans
namespace Go.Proofs.Ytobhbepiaibceaa
/-- The row, under a short name, for the claim. -/
theorem seekSpans_holds : Rows.SeekSpansSaid := seekSpans.proved
end Go.Proofs.Ytobhbepiaibceaa
