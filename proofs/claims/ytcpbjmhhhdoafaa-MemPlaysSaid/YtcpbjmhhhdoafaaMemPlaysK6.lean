/- The texts that this claim needs, part 6: a logic over abstract values, its steps, what the functions do. No condition of its own. -/
import Derived.Laws.IdiomStrings
import Derived.Test.YtcpbjmhhhdoafaaMemPlaysK5
/- Steps (part 16): the bytes of a text as a row of one's own. No program in sight. -/
set_option linter.unusedVariables false
set_option linter.unusedSimpArgs false
namespace Go.Ab
variable {P : Program}
theorem flat_byt : ∀ l : List UInt8, flat (l.map byt) = l.map byt
  | [] => rfl
  | b :: l => by
    have ih := flat_byt l
    unfold flat at ih ⊢
    rw [List.map_cons, List.flatMap_cons, ih]
    rfl
theorem rawV_text {s d e : TypeId} {l : List UInt8} {σ : Store} {post : AV → Store → Prop} (hs : P.underlying s = some .string) (hd : P.underlying d = some (.slice e)) (he : P.underlying e = some (.int .u8)) (hl : l.length ≤ maxLen)
    (hpost : ∀ v, post (.own v l.length) (.row v e 1 (l.map byt) 0 :: σ)) : rawV P s d (.val (.string ⟨l.toArray⟩)) σ post := by
  intro R w v hv hst
  have hv := hv.val_inv
  subst hv
  have hrun := run_bytes_of_string (P := P) w s d e ⟨l.toArray⟩ hs hd he
  have hsz : (⟨l.toArray⟩ : ByteArray).size = l.length := by simp [ByteArray.size]
  rw [hsz] at hrun
  have hge := grownCap_ge w l.length 0 e
  have hcm : grownCap w l.length 0 e ≤ maxLen := grownCap_le_maxLen w _ 0 e hl
  have hrow : (bytesRow ⟨l.toArray⟩ (grownCap w l.length 0 e)).size = grownCap w l.length 0 e := by simp [bytesRow, hsz]; omega
  have htake : (bytesRow ⟨l.toArray⟩ (grownCap w l.length 0 e)).toList.take l.length = l.map fun b => Value.int .u8 b.toNat := by
    simp [bytesRow]
  obtain ⟨g1, g2⟩ := st_newRow (R := R) (w' := w.drew.alloc (.cells (bytesRow ⟨l.toArray⟩ (grownCap w l.length 0 e)) e ((bytesRow ⟨l.toArray⟩ (grownCap w l.length 0 e)).size, (bytesRow ⟨l.toArray⟩ (grownCap w l.length 0 e)).size + 1))) hst
    ⟨rfl, rfl, rfl, by simp, fun k hk _ => by first | exact heap_alloc_old w.drew _ k hk | exact heap_alloc_old w.drew _ hk⟩ (v := .slice (some ⟨w.heap.size, 0, none⟩) l.length (grownCap w l.length 0 e)) (E := e) (sz := 1) (l := l.map byt) (vs := l.map fun b => Value.int .u8 b.toNat)
    ⟨by simp, .inr ⟨w.heap.size, _, _, by simp, Nat.zero_le _, ⟨_, .inr ⟨rfl, Nat.le_refl _⟩, heap_alloc_new w.drew _⟩, by simpa using hge, hcm, by rw [hrow]; omega, by rw [List.length_map, Nat.mul_one]; exact htake⟩⟩
    (by
      refine ⟨by rw [flat_byt, List.length_map, List.length_map], fun j u x hu hx => ?_⟩
      rw [flat_byt] at hu
      simp only [List.getElem?_map, Option.map_eq_some_iff] at hu hx
      obtain ⟨b, hb, rfl⟩ := hu
      obtain ⟨b', hb', rfl⟩ := hx
      rw [hb] at hb'
      cases hb'
      exact .val _)
    (by
      intro x hx
      obtain ⟨b, _, rfl⟩ := List.mem_map.1 hx
      rfl)
    (by decide) (told_len (inferInstance : Enc byt 1).told l) (by simpa using hl) (fun b hb => by simp only [Value.ownBlock, Option.some.injEq] at hb; omega)
  exact ⟨_, _, _, R, _, hrun, hpost _, .own (.inr ⟨_, _, rfl, by simpa using hge⟩), g1, g2⟩
class TextB (P : Program) (s d : TypeId) (e : outParam TypeId) : Prop where
  h : P.underlying s = some .string ∧ P.underlying d = some (.slice e) ∧ P.underlying e = some (.int .u8)
instance convText {σ : Store} {s d e : TypeId} {l : List UInt8} {k : AV → Store → Prop} [ht : TextB P s d e] : Stp (aHook (rawV P s d (.val (.string ⟨l.toArray⟩)) σ) k) (Need (l.length ≤ 9223372036854775807) (All fun v => k (.own v l.length) (.row v e 1 (l.map byt) 0 :: σ))) := ⟨fun ⟨h, hK⟩ => by
  obtain ⟨h1, h2, h3⟩ := ht.h
  exact ⟨fun u τ => ∃ v, u = .own v l.length ∧ τ = .row v e 1 (l.map byt) 0 :: σ, rawV_text h1 h2 h3 h (fun v => ⟨v, rfl, rfl⟩), fun u τ ⟨v, e1, e2⟩ => by rw [e1, e2]; exact hK v⟩⟩
end Go.Ab

/- The document's sum of a text: its end. -/
set_option linter.unusedVariables false
set_option linter.unusedSimpArgs false
namespace Go.Ab
instance : TextB Go.Proofs.Try.prog 9 27 5 := ⟨by kernel_rfl, by kernel_rfl, by kernel_rfl⟩
def ref02_Padded.mark : Mark := ⟨fun t => false, fun t => Nat.beq t 7, fun t => false, fun t => false, fun t => false⟩
def ref02_Padded.ann : Ann := ⟨fun n => bif Nat.beq n 3 then [0, 3] else bif Nat.beq n 7 then [3, 4, 5] else [], fun n => none, fun n => none⟩
/-- 'marlstone/marlstoneref02.Padded' -/
def ref02_Padded.sh (a0 : AV) (σ : Store) (Q : AEnd → Store → Prop) : Prop :=
  aHook (rawV Go.Proofs.Try.prog 9 27 a0 σ) fun t7 σ =>
  Do (aSlLit (mkE [.val (.int .u8 0)]) 1 1 [(0, (W8 128))]) fun t9 =>
  aAppend 5 1 1 t7 t9 σ (subK fun t10 σ_1 =>
  aLoop (fun go vs σ_2 =>
    At vs 0 fun s0 => At vs 1 fun s3 => Do (aBuiltin Go.Proofs.Try.prog .len #[27] [s3]) fun t12 =>
    Do (aBin Go.Proofs.Try.prog .rem 3 t12 (.val (.int .i64 64))) fun t13 =>
    Do (aBin Go.Proofs.Try.prog .neq 3 t13 (.val (.int .i64 56))) fun t14 =>
    aCond t14
      (Do (aSlLit (mkE [.val (.int .u8 0)]) 1 1 [(0, (W8 0))]) fun t16 =>
    aAppend 5 1 1 s3 t16 σ_2 (subK fun t17 σ_3 =>
    go [s0, t17] σ_3))
      (Do (aBuiltin Go.Proofs.Try.prog .len #[9] [s0]) fun t19 =>
  Do (fun x => aConvN 3 78 t19 x Go.Proofs.Try.prog) fun t20 =>
  Do (aBin Go.Proofs.Try.prog .mul 78 t20 (W64 8)) fun t21 =>
  aLoop (fun go_1 vs_1 σ_4 =>
    At vs_1 0 fun s3_1 => At vs_1 1 fun s4 => At vs_1 2 fun s5 => Do (aBin Go.Proofs.Try.prog .geq 3 s5 (.val (.int .i64 0))) fun t23 =>
    aCond t23
      (Do (aBin Go.Proofs.Try.prog .mul 3 (.val (.int .i64 8)) s5) fun t29 =>
    Do (fun x => aConvN 3 85 t29 x Go.Proofs.Try.prog) fun t30 =>
    Do (aBin Go.Proofs.Try.prog .shr 78 s4 t30) fun t31 =>
    Do (fun x => aConvN 78 5 t31 x Go.Proofs.Try.prog) fun t32 =>
    Do (aSlLit (mkE [.val (.int .u8 0)]) 1 1 [(0, t32)]) fun t33 =>
    aAppend 5 1 1 s3_1 t33 σ_4 (subK fun t34 σ_5 =>
    Do (aBin Go.Proofs.Try.prog .sub 3 s5 (.val (.int .i64 1))) fun t25 =>
    go_1 [t34, s4, t25] σ_5))
      (Q (.ret s3_1) σ_4))
    [s3, t21, (.val (.int .i64 7))] σ_2))
    [a0, t10] σ_1)
theorem ref02_Padded.eq (a0 : AV) (σ : Store) (Q : AEnd → Store → Prop) : vc (semOf Go.Proofs.Try.prog ref02_Padded.mark) Go.Proofs.Try.f52.ntmps ref02_Padded.ann (bodyOf Go.Proofs.Try.f52) (endK [.tmp 2] Q) (argFr [a0]) σ = ref02_Padded.sh a0 σ Q := by kernel_rfl
theorem ref02_Padded.go {a0 : AV} {σ : Store} {Q : AEnd → Store → Prop} (h : ref02_Padded.sh a0 σ Q) : ACalls Go.Proofs.Try.prog 52 [a0] σ Q :=
  acalls_of_eq [.tmp 2] Go.Proofs.Try.func52 (by kernel_rfl) (by kernel_rfl) (by kernel_rfl) (by kernel_rfl) (ref02_Padded.eq a0 σ Q) h
def padZ (n : Nat) : Nat := (119 - n % 64) % 64
theorem Padded_ok (l : List UInt8) (hl : l.length ≤ 100000000000000) : aPure Go.Proofs.Try.prog 52 [S l] (.lst 1 ((l ++ shaTail l.length).map byt) .ro) := by
  refine ACalls.fin (ref02_Padded.go ?_)
  unfold ref02_Padded.sh
  have h128 : ([128] : List UInt8).length = 1 := rfl
  have h00 : ([0] : List UInt8).length = 1 := rfl
  repeat' (first | with_reducible apply Stp.go | with_reducible refine imp fun _ => ?_ | (with_reducible refine hyp ?_ ?_; first | assumption | exact leftT_mem (by assumption)) | (with_reducible refine need ?_ ?_; first | trivial | omega | exact ⟨by assumption, by omega⟩ | (simp only [List.length_append, List.length_cons, List.length_nil, List.length_map, List.length_take, List.length_drop, List.length_replicate, List.length_set]; omega)) | (with_reducible refine fact ?_ ?_; first | trivial | exact ⟨rfl, rfl⟩ | kernel_rfl) | with_reducible refine choT (by assumption) ?_ | with_reducible refine choF (by assumption) ?_ | with_reducible refine choF' (by assumption) ?_ | (with_reducible refine altT ?_ ?_; first | omega | (simp only [List.length_append, List.length_cons, List.length_nil, List.length_map, List.length_take, List.length_drop, List.length_replicate, List.length_set]; omega)) | with_reducible refine altF ?_ | with_reducible refine all fun _ => ?_ | with_reducible refine both ?_ ?_ | (with_reducible refine choT ?_ ?_; omega) | (with_reducible refine choF ?_ ?_; omega) | with_reducible refine cho (fun _ => ?_) (fun _ => ?_))
  rename_i v0 v1
  refine loopI (β := Nat × Value) (fun x => x.1 ≤ padZ l.length) (fun x => [S l, .own x.2 (l ++ [128] ++ List.replicate x.1 0).length]) (fun x => [.row x.2 5 1 ((l ++ [128] ++ List.replicate x.1 0).map byt) 0]) (fun x => padZ l.length - x.1) (0, v1) (Nat.zero_le _) ?_ ?_
  · simp only [List.replicate_zero, List.append_nil]
    exact Sub.refl _ _
  rintro ⟨z, v⟩ hz
  dsimp only at hz ⊢
  have hzl : (l ++ [128] ++ List.replicate z (0 : UInt8)).length = l.length + 1 + z := by simp; omega
  have hzp : padZ l.length < 64 := Nat.mod_lt _ (by decide)
  by_cases hlt : z < padZ l.length
  · have hne : ¬ (l ++ [128] ++ List.replicate z (0 : UInt8)).length % 64 = 56 := by
      rw [hzl]; unfold padZ at hlt; omega
    repeat' (first | with_reducible apply Stp.go | with_reducible refine imp fun _ => ?_ | (with_reducible refine hyp ?_ ?_; first | assumption | exact leftT_mem (by assumption)) | (with_reducible refine need ?_ ?_; first | trivial | omega | exact ⟨by assumption, by omega⟩ | (simp only [List.length_append, List.length_cons, List.length_nil, List.length_map, List.length_take, List.length_drop, List.length_replicate, List.length_set]; omega)) | (with_reducible refine fact ?_ ?_; first | trivial | exact ⟨rfl, rfl⟩ | kernel_rfl) | with_reducible refine choT (by assumption) ?_ | with_reducible refine choF (by assumption) ?_ | with_reducible refine choF' (by assumption) ?_ | (with_reducible refine altT ?_ ?_; first | omega | (simp only [List.length_append, List.length_cons, List.length_nil, List.length_map, List.length_take, List.length_drop, List.length_replicate, List.length_set]; omega)) | with_reducible refine altF ?_ | with_reducible refine all fun _ => ?_ | with_reducible refine both ?_ ?_ | (with_reducible refine choT ?_ ?_; omega) | (with_reducible refine choF ?_ ?_; omega) | with_reducible refine cho (fun _ => ?_) (fun _ => ?_))
    rename_i w
    refine again (z + 1, w) (by dsimp only; omega) (by dsimp only; omega) ?_
    dsimp only
    rw [show l ++ [128] ++ List.replicate (z + 1) (0 : UInt8) = l ++ [128] ++ List.replicate z 0 ++ [0] by rw [List.replicate_succ', List.append_assoc (l ++ [128])]]
    exact subS _
  · have he : z = padZ l.length := by omega
    have heq : (l ++ [128] ++ List.replicate z (0 : UInt8)).length % 64 = 56 := by
      rw [hzl, he]; unfold padZ; omega
    have hfin : l ++ shaTail l.length = l ++ [128] ++ List.replicate z 0 ++ be64 (8 * l.length) := by
      rw [he, shaTail, padZ]; simp
    rw [hfin]
    generalize l ++ [128] ++ List.replicate z (0 : UInt8) = B at *
    have h8 : (be64 (8 * l.length)).length = 8 := rfl
    repeat' (first | with_reducible apply Stp.go | with_reducible refine imp fun _ => ?_ | (with_reducible refine hyp ?_ ?_; first | assumption | exact leftT_mem (by assumption)) | (with_reducible refine need ?_ ?_; first | trivial | omega | exact ⟨by assumption, by omega⟩ | (simp only [List.length_append, List.length_cons, List.length_nil, List.length_map, List.length_take, List.length_drop, List.length_replicate, List.length_set]; omega)) | (with_reducible refine fact ?_ ?_; first | trivial | exact ⟨rfl, rfl⟩ | kernel_rfl) | with_reducible refine choT (by assumption) ?_ | with_reducible refine choF (by assumption) ?_ | with_reducible refine choF' (by assumption) ?_ | (with_reducible refine altT ?_ ?_; first | omega | (simp only [List.length_append, List.length_cons, List.length_nil, List.length_map, List.length_take, List.length_drop, List.length_replicate, List.length_set]; omega)) | with_reducible refine altF ?_ | with_reducible refine all fun _ => ?_ | with_reducible refine both ?_ ?_ | (with_reducible refine choT ?_ ?_; omega) | (with_reducible refine choF ?_ ?_; omega) | with_reducible refine cho (fun _ => ?_) (fun _ => ?_))
    refine loopI (β := Nat × Value) (fun x => x.1 ≤ 8) (fun x => [.own x.2 (B ++ (be64 (8 * l.length)).take x.1).length, W64 (UInt64.ofNat l.length * 8), I .i64 (7 - (x.1 : Int))]) (fun x => [.row x.2 5 1 ((B ++ (be64 (8 * l.length)).take x.1).map byt) 0]) (fun x => 8 - x.1) (0, v) (Nat.zero_le _) ?_ ?_
    · simp only [List.take_zero, List.append_nil]
      exact Sub.refl _ _
    rintro ⟨k, v⟩ hk
    dsimp only at hk ⊢
    have hBk : (B ++ (be64 (8 * l.length)).take k).length = B.length + k := by simp only [List.length_append, List.length_take, h8]; omega
    have hm8 : (UInt64.ofNat l.length * 8).toNat = 8 * l.length := by
      rw [UInt64.toNat_mul, u64_len (by omega)]
      show l.length * 8 % 18446744073709551616 = _
      omega
    have hb : ∀ s, s < 64 → UInt8.ofNat ((UInt64.ofNat l.length * 8) >>> UInt64.ofNat s).toNat = UInt8.ofNat (8 * l.length / 2 ^ s) := fun s hs => by
      rw [UInt64.toNat_shiftRight, hm8, u64_len (by omega), Nat.mod_eq_of_lt hs, Nat.shiftRight_eq_div_pow]
    match k, hk with
    | 0, _ =>
      have e2 : B ++ (be64 (8 * l.length)).take 1 = B ++ (be64 (8 * l.length)).take 0 ++ [UInt8.ofNat ((UInt64.ofNat l.length * 8) >>> UInt64.ofNat 56).toNat] := by
        rw [hb 56 (by decide), List.append_assoc]; rfl
      repeat' (first | with_reducible apply Stp.go | with_reducible refine imp fun _ => ?_ | (with_reducible refine hyp ?_ ?_; first | assumption | exact leftT_mem (by assumption)) | (with_reducible refine need ?_ ?_; first | trivial | omega | exact ⟨by assumption, by omega⟩ | (simp only [List.length_append, List.length_cons, List.length_nil, List.length_map, List.length_take, List.length_drop, List.length_replicate, List.length_set]; omega)) | (with_reducible refine fact ?_ ?_; first | trivial | exact ⟨rfl, rfl⟩ | kernel_rfl) | with_reducible refine choT (by assumption) ?_ | with_reducible refine choF (by assumption) ?_ | with_reducible refine choF' (by assumption) ?_ | (with_reducible refine altT ?_ ?_; first | omega | (simp only [List.length_append, List.length_cons, List.length_nil, List.length_map, List.length_take, List.length_drop, List.length_replicate, List.length_set]; omega)) | with_reducible refine altF ?_ | with_reducible refine all fun _ => ?_ | with_reducible refine both ?_ ?_ | (with_reducible refine choT ?_ ?_; omega) | (with_reducible refine choF ?_ ?_; omega) | with_reducible refine cho (fun _ => ?_) (fun _ => ?_))
      rename_i w
      refine again (1, w) (by dsimp only; omega) (by dsimp only; omega) ?_
      dsimp only
      rw [e2]
      exact Sub.refl _ _
    | 1, _ =>
      have e2 : B ++ (be64 (8 * l.length)).take 2 = B ++ (be64 (8 * l.length)).take 1 ++ [UInt8.ofNat ((UInt64.ofNat l.length * 8) >>> UInt64.ofNat 48).toNat] := by
        rw [hb 48 (by decide), List.append_assoc]; rfl
      repeat' (first | with_reducible apply Stp.go | with_reducible refine imp fun _ => ?_ | (with_reducible refine hyp ?_ ?_; first | assumption | exact leftT_mem (by assumption)) | (with_reducible refine need ?_ ?_; first | trivial | omega | exact ⟨by assumption, by omega⟩ | (simp only [List.length_append, List.length_cons, List.length_nil, List.length_map, List.length_take, List.length_drop, List.length_replicate, List.length_set]; omega)) | (with_reducible refine fact ?_ ?_; first | trivial | exact ⟨rfl, rfl⟩ | kernel_rfl) | with_reducible refine choT (by assumption) ?_ | with_reducible refine choF (by assumption) ?_ | with_reducible refine choF' (by assumption) ?_ | (with_reducible refine altT ?_ ?_; first | omega | (simp only [List.length_append, List.length_cons, List.length_nil, List.length_map, List.length_take, List.length_drop, List.length_replicate, List.length_set]; omega)) | with_reducible refine altF ?_ | with_reducible refine all fun _ => ?_ | with_reducible refine both ?_ ?_ | (with_reducible refine choT ?_ ?_; omega) | (with_reducible refine choF ?_ ?_; omega) | with_reducible refine cho (fun _ => ?_) (fun _ => ?_))
      rename_i w
      refine again (2, w) (by dsimp only; omega) (by dsimp only; omega) ?_
      dsimp only
      rw [e2]
      exact Sub.refl _ _
    | 2, _ =>
      have e2 : B ++ (be64 (8 * l.length)).take 3 = B ++ (be64 (8 * l.length)).take 2 ++ [UInt8.ofNat ((UInt64.ofNat l.length * 8) >>> UInt64.ofNat 40).toNat] := by
        rw [hb 40 (by decide), List.append_assoc]; rfl
      repeat' (first | with_reducible apply Stp.go | with_reducible refine imp fun _ => ?_ | (with_reducible refine hyp ?_ ?_; first | assumption | exact leftT_mem (by assumption)) | (with_reducible refine need ?_ ?_; first | trivial | omega | exact ⟨by assumption, by omega⟩ | (simp only [List.length_append, List.length_cons, List.length_nil, List.length_map, List.length_take, List.length_drop, List.length_replicate, List.length_set]; omega)) | (with_reducible refine fact ?_ ?_; first | trivial | exact ⟨rfl, rfl⟩ | kernel_rfl) | with_reducible refine choT (by assumption) ?_ | with_reducible refine choF (by assumption) ?_ | with_reducible refine choF' (by assumption) ?_ | (with_reducible refine altT ?_ ?_; first | omega | (simp only [List.length_append, List.length_cons, List.length_nil, List.length_map, List.length_take, List.length_drop, List.length_replicate, List.length_set]; omega)) | with_reducible refine altF ?_ | with_reducible refine all fun _ => ?_ | with_reducible refine both ?_ ?_ | (with_reducible refine choT ?_ ?_; omega) | (with_reducible refine choF ?_ ?_; omega) | with_reducible refine cho (fun _ => ?_) (fun _ => ?_))
      rename_i w
      refine again (3, w) (by dsimp only; omega) (by dsimp only; omega) ?_
      dsimp only
      rw [e2]
      exact Sub.refl _ _
    | 3, _ =>
      have e2 : B ++ (be64 (8 * l.length)).take 4 = B ++ (be64 (8 * l.length)).take 3 ++ [UInt8.ofNat ((UInt64.ofNat l.length * 8) >>> UInt64.ofNat 32).toNat] := by
        rw [hb 32 (by decide), List.append_assoc]; rfl
      repeat' (first | with_reducible apply Stp.go | with_reducible refine imp fun _ => ?_ | (with_reducible refine hyp ?_ ?_; first | assumption | exact leftT_mem (by assumption)) | (with_reducible refine need ?_ ?_; first | trivial | omega | exact ⟨by assumption, by omega⟩ | (simp only [List.length_append, List.length_cons, List.length_nil, List.length_map, List.length_take, List.length_drop, List.length_replicate, List.length_set]; omega)) | (with_reducible refine fact ?_ ?_; first | trivial | exact ⟨rfl, rfl⟩ | kernel_rfl) | with_reducible refine choT (by assumption) ?_ | with_reducible refine choF (by assumption) ?_ | with_reducible refine choF' (by assumption) ?_ | (with_reducible refine altT ?_ ?_; first | omega | (simp only [List.length_append, List.length_cons, List.length_nil, List.length_map, List.length_take, List.length_drop, List.length_replicate, List.length_set]; omega)) | with_reducible refine altF ?_ | with_reducible refine all fun _ => ?_ | with_reducible refine both ?_ ?_ | (with_reducible refine choT ?_ ?_; omega) | (with_reducible refine choF ?_ ?_; omega) | with_reducible refine cho (fun _ => ?_) (fun _ => ?_))
      rename_i w
      refine again (4, w) (by dsimp only; omega) (by dsimp only; omega) ?_
      dsimp only
      rw [e2]
      exact Sub.refl _ _
    | 4, _ =>
      have e2 : B ++ (be64 (8 * l.length)).take 5 = B ++ (be64 (8 * l.length)).take 4 ++ [UInt8.ofNat ((UInt64.ofNat l.length * 8) >>> UInt64.ofNat 24).toNat] := by
        rw [hb 24 (by decide), List.append_assoc]; rfl
      repeat' (first | with_reducible apply Stp.go | with_reducible refine imp fun _ => ?_ | (with_reducible refine hyp ?_ ?_; first | assumption | exact leftT_mem (by assumption)) | (with_reducible refine need ?_ ?_; first | trivial | omega | exact ⟨by assumption, by omega⟩ | (simp only [List.length_append, List.length_cons, List.length_nil, List.length_map, List.length_take, List.length_drop, List.length_replicate, List.length_set]; omega)) | (with_reducible refine fact ?_ ?_; first | trivial | exact ⟨rfl, rfl⟩ | kernel_rfl) | with_reducible refine choT (by assumption) ?_ | with_reducible refine choF (by assumption) ?_ | with_reducible refine choF' (by assumption) ?_ | (with_reducible refine altT ?_ ?_; first | omega | (simp only [List.length_append, List.length_cons, List.length_nil, List.length_map, List.length_take, List.length_drop, List.length_replicate, List.length_set]; omega)) | with_reducible refine altF ?_ | with_reducible refine all fun _ => ?_ | with_reducible refine both ?_ ?_ | (with_reducible refine choT ?_ ?_; omega) | (with_reducible refine choF ?_ ?_; omega) | with_reducible refine cho (fun _ => ?_) (fun _ => ?_))
      rename_i w
      refine again (5, w) (by dsimp only; omega) (by dsimp only; omega) ?_
      dsimp only
      rw [e2]
      exact Sub.refl _ _
    | 5, _ =>
      have e2 : B ++ (be64 (8 * l.length)).take 6 = B ++ (be64 (8 * l.length)).take 5 ++ [UInt8.ofNat ((UInt64.ofNat l.length * 8) >>> UInt64.ofNat 16).toNat] := by
        rw [hb 16 (by decide), List.append_assoc]; rfl
      repeat' (first | with_reducible apply Stp.go | with_reducible refine imp fun _ => ?_ | (with_reducible refine hyp ?_ ?_; first | assumption | exact leftT_mem (by assumption)) | (with_reducible refine need ?_ ?_; first | trivial | omega | exact ⟨by assumption, by omega⟩ | (simp only [List.length_append, List.length_cons, List.length_nil, List.length_map, List.length_take, List.length_drop, List.length_replicate, List.length_set]; omega)) | (with_reducible refine fact ?_ ?_; first | trivial | exact ⟨rfl, rfl⟩ | kernel_rfl) | with_reducible refine choT (by assumption) ?_ | with_reducible refine choF (by assumption) ?_ | with_reducible refine choF' (by assumption) ?_ | (with_reducible refine altT ?_ ?_; first | omega | (simp only [List.length_append, List.length_cons, List.length_nil, List.length_map, List.length_take, List.length_drop, List.length_replicate, List.length_set]; omega)) | with_reducible refine altF ?_ | with_reducible refine all fun _ => ?_ | with_reducible refine both ?_ ?_ | (with_reducible refine choT ?_ ?_; omega) | (with_reducible refine choF ?_ ?_; omega) | with_reducible refine cho (fun _ => ?_) (fun _ => ?_))
      rename_i w
      refine again (6, w) (by dsimp only; omega) (by dsimp only; omega) ?_
      dsimp only
      rw [e2]
      exact Sub.refl _ _
    | 6, _ =>
      have e2 : B ++ (be64 (8 * l.length)).take 7 = B ++ (be64 (8 * l.length)).take 6 ++ [UInt8.ofNat ((UInt64.ofNat l.length * 8) >>> UInt64.ofNat 8).toNat] := by
        rw [hb 8 (by decide), List.append_assoc]; rfl
      repeat' (first | with_reducible apply Stp.go | with_reducible refine imp fun _ => ?_ | (with_reducible refine hyp ?_ ?_; first | assumption | exact leftT_mem (by assumption)) | (with_reducible refine need ?_ ?_; first | trivial | omega | exact ⟨by assumption, by omega⟩ | (simp only [List.length_append, List.length_cons, List.length_nil, List.length_map, List.length_take, List.length_drop, List.length_replicate, List.length_set]; omega)) | (with_reducible refine fact ?_ ?_; first | trivial | exact ⟨rfl, rfl⟩ | kernel_rfl) | with_reducible refine choT (by assumption) ?_ | with_reducible refine choF (by assumption) ?_ | with_reducible refine choF' (by assumption) ?_ | (with_reducible refine altT ?_ ?_; first | omega | (simp only [List.length_append, List.length_cons, List.length_nil, List.length_map, List.length_take, List.length_drop, List.length_replicate, List.length_set]; omega)) | with_reducible refine altF ?_ | with_reducible refine all fun _ => ?_ | with_reducible refine both ?_ ?_ | (with_reducible refine choT ?_ ?_; omega) | (with_reducible refine choF ?_ ?_; omega) | with_reducible refine cho (fun _ => ?_) (fun _ => ?_))
      rename_i w
      refine again (7, w) (by dsimp only; omega) (by dsimp only; omega) ?_
      dsimp only
      rw [e2]
      exact Sub.refl _ _
    | 7, _ =>
      have e2 : B ++ (be64 (8 * l.length)).take 8 = B ++ (be64 (8 * l.length)).take 7 ++ [UInt8.ofNat ((UInt64.ofNat l.length * 8) >>> UInt64.ofNat 0).toNat] := by
        rw [hb 0 (by decide), Nat.pow_zero, Nat.div_one, List.append_assoc]; rfl
      repeat' (first | with_reducible apply Stp.go | with_reducible refine imp fun _ => ?_ | (with_reducible refine hyp ?_ ?_; first | assumption | exact leftT_mem (by assumption)) | (with_reducible refine need ?_ ?_; first | trivial | omega | exact ⟨by assumption, by omega⟩ | (simp only [List.length_append, List.length_cons, List.length_nil, List.length_map, List.length_take, List.length_drop, List.length_replicate, List.length_set]; omega)) | (with_reducible refine fact ?_ ?_; first | trivial | exact ⟨rfl, rfl⟩ | kernel_rfl) | with_reducible refine choT (by assumption) ?_ | with_reducible refine choF (by assumption) ?_ | with_reducible refine choF' (by assumption) ?_ | (with_reducible refine altT ?_ ?_; first | omega | (simp only [List.length_append, List.length_cons, List.length_nil, List.length_map, List.length_take, List.length_drop, List.length_replicate, List.length_set]; omega)) | with_reducible refine altF ?_ | with_reducible refine all fun _ => ?_ | with_reducible refine both ?_ ?_ | (with_reducible refine choT ?_ ?_; omega) | (with_reducible refine choF ?_ ?_; omega) | with_reducible refine cho (fun _ => ?_) (fun _ => ?_))
      rename_i w
      refine again (8, w) (by dsimp only; omega) (by dsimp only; omega) ?_
      dsimp only
      rw [e2]
      exact Sub.refl _ _
    | 8, _ =>
      repeat' (first | with_reducible apply Stp.go | with_reducible refine imp fun _ => ?_ | (with_reducible refine hyp ?_ ?_; first | assumption | exact leftT_mem (by assumption)) | (with_reducible refine need ?_ ?_; first | trivial | omega | exact ⟨by assumption, by omega⟩ | (simp only [List.length_append, List.length_cons, List.length_nil, List.length_map, List.length_take, List.length_drop, List.length_replicate, List.length_set]; omega)) | (with_reducible refine fact ?_ ?_; first | trivial | exact ⟨rfl, rfl⟩ | kernel_rfl) | with_reducible refine choT (by assumption) ?_ | with_reducible refine choF (by assumption) ?_ | with_reducible refine choF' (by assumption) ?_ | (with_reducible refine altT ?_ ?_; first | omega | (simp only [List.length_append, List.length_cons, List.length_nil, List.length_map, List.length_take, List.length_drop, List.length_replicate, List.length_set]; omega)) | with_reducible refine altF ?_ | with_reducible refine all fun _ => ?_ | with_reducible refine both ?_ ?_ | (with_reducible refine choT ?_ ?_; omega) | (with_reducible refine choF ?_ ?_; omega) | with_reducible refine cho (fun _ => ?_) (fun _ => ?_))
      exact ⟨_, _, _, rfl, retOwn (Sub.refl _ _), rfl, rfl⟩
instance {l : List UInt8} : PC Go.Proofs.Try.prog 52 [S l] (l.length ≤ 100000000000000) (.lst 1 ((l ++ shaTail l.length).map byt) .ro) := ⟨fun hl => PC.of (Padded_ok l hl)⟩
end Go.Ab

/- The document's sum of a text: turned, Constants. -/
set_option linter.unusedVariables false
set_option linter.unusedSimpArgs false
namespace Go.Ab
def ref02_turned.mark : Mark := ⟨fun t => false, fun t => false, fun t => false, fun t => false, fun t => false⟩
def ref02_turned.ann : Ann := ⟨fun n => [], fun n => none, fun n => none⟩
/-- 'marlstone/marlstoneref02.turned' -/
def ref02_turned.sh (a0 a1 : AV) (σ : Store) (Q : AEnd → Store → Prop) : Prop :=
  Do (fun x => aConvN 3 85 a1 x Go.Proofs.Try.prog) fun t7 =>
  Do (aBin Go.Proofs.Try.prog .shr 79 a0 t7) fun t8 =>
  Do (aBin Go.Proofs.Try.prog .sub 3 (.val (.int .i64 32)) a1) fun t11 =>
  Do (fun x => aConvN 3 85 t11 x Go.Proofs.Try.prog) fun t12 =>
  Do (aBin Go.Proofs.Try.prog .shl 79 a0 t12) fun t13 =>
  Do (aBin Go.Proofs.Try.prog .or 79 t8 t13) fun t14 =>
  Q (.ret t14) σ
theorem ref02_turned.eq (a0 a1 : AV) (σ : Store) (Q : AEnd → Store → Prop) : vc (semOf Go.Proofs.Try.prog ref02_turned.mark) Go.Proofs.Try.f54.ntmps ref02_turned.ann (bodyOf Go.Proofs.Try.f54) (endK [.tmp 4] Q) (argFr [a0, a1]) σ = ref02_turned.sh a0 a1 σ Q := by kernel_rfl
theorem ref02_turned.go {a0 a1 : AV} {σ : Store} {Q : AEnd → Store → Prop} (h : ref02_turned.sh a0 a1 σ Q) : ACalls Go.Proofs.Try.prog 54 [a0, a1] σ Q :=
  acalls_of_eq [.tmp 4] Go.Proofs.Try.func54 (by kernel_rfl) (by kernel_rfl) (by kernel_rfl) (by kernel_rfl) (ref02_turned.eq a0 a1 σ Q) h
theorem turned_ok (x : UInt32) (n : Nat) (h1 : 1 ≤ n) (hn : n ≤ 31) : aPure Go.Proofs.Try.prog 54 [W32 x, I .i64 (n : Nat)] (W32 (rotr x n)) := by
  refine ACalls.fin (ref02_turned.go ?_)
  unfold ref02_turned.sh
  have e1 : n % 18446744073709551616 = n := Nat.mod_eq_of_lt (by omega)
  have e2 : (32 - n) % 18446744073709551616 = 32 - n := Nat.mod_eq_of_lt (by omega)
  repeat' (first | with_reducible apply Stp.go | with_reducible refine imp fun _ => ?_ | (with_reducible refine hyp ?_ ?_; first | assumption | exact leftT_mem (by assumption)) | (with_reducible refine need ?_ ?_; first | trivial | omega | exact ⟨by assumption, by omega⟩ | (simp only [List.length_append, List.length_cons, List.length_nil, List.length_map, List.length_take, List.length_drop, List.length_replicate, List.length_set]; omega)) | (with_reducible refine fact ?_ ?_; first | trivial | exact ⟨rfl, rfl⟩ | kernel_rfl) | with_reducible refine choT (by assumption) ?_ | with_reducible refine choF (by assumption) ?_ | with_reducible refine choF' (by assumption) ?_ | (with_reducible refine altT ?_ ?_; first | omega | (simp only [List.length_append, List.length_cons, List.length_nil, List.length_map, List.length_take, List.length_drop, List.length_replicate, List.length_set]; omega)) | with_reducible refine altF ?_ | with_reducible refine all fun _ => ?_ | with_reducible refine both ?_ ?_ | (with_reducible refine choT ?_ ?_; omega) | (with_reducible refine choF ?_ ?_; omega) | with_reducible refine cho (fun _ => ?_) (fun _ => ?_))
  refine ⟨_, _, _, rfl, Sub.refl _ _, ?_, rfl⟩
  rw [e1, e2]
  rfl
instance {x : UInt32} {n : Nat} {y : Int} [hy : NatOf y n] : PC Go.Proofs.Try.prog 54 [W32 x, .val (.int .i64 y)] (1 ≤ n ∧ n ≤ 31) (W32 (rotr x n)) := ⟨fun h => by rw [hy.eq]; exact PC.of (turned_ok x n h.1 h.2)⟩
def ref02_Constants.mark : Mark := ⟨fun t => false, fun t => false, fun t => false, fun t => false, fun t => false⟩
def ref02_Constants.ann : Ann := ⟨fun n => [], fun n => none, fun n => none⟩
/-- 'marlstone/marlstoneref02.Constants' -/
def ref02_Constants.sh (σ : Store) (Q : AEnd → Store → Prop) : Prop :=
  Do (aSlLit (mkE [.val (.int .u32 0)]) 1 64 ([(0, (W32 1116352408)), (1, (W32 1899447441)), (2, (W32 3049323471)), (3, (W32 3921009573)), (4, (W32 961987163)), (5, (W32 1508970993)), (6, (W32 2453635748)), (7, (W32 2870763221)), (8, (W32 3624381080)), (9, (W32 310598401)), (10, (W32 607225278)), (11, (W32 1426881987)), (12, (W32 1925078388)), (13, (W32 2162078206)), (14, (W32 2614888103)), (15, (W32 3248222580)), (16, (W32 3835390401)), (17, (W32 4022224774)), (18, (W32 264347078)), (19, (W32 604807628)), (20, (W32 770255983)), (21, (W32 1249150122)), (22, (W32 1555081692)), (23, (W32 1996064986)), (24, (W32 2554220882)), (25, (W32 2821834349)), (26, (W32 2952996808)), (27, (W32 3210313671)), (28, (W32 3336571891)), (29, (W32 3584528711)), (30, (W32 113926993)), (31, (W32 338241895))] ++ ([(32, (W32 666307205)), (33, (W32 773529912)), (34, (W32 1294757372)), (35, (W32 1396182291)), (36, (W32 1695183700)), (37, (W32 1986661051)), (38, (W32 2177026350)), (39, (W32 2456956037)), (40, (W32 2730485921)), (41, (W32 2820302411)), (42, (W32 3259730800)), (43, (W32 3345764771)), (44, (W32 3516065817)), (45, (W32 3600352804)), (46, (W32 4094571909)), (47, (W32 275423344)), (48, (W32 430227734)), (49, (W32 506948616)), (50, (W32 659060556)), (51, (W32 883997877)), (52, (W32 958139571)), (53, (W32 1322822218)), (54, (W32 1537002063)), (55, (W32 1747873779)), (56, (W32 1955562222)), (57, (W32 2024104815)), (58, (W32 2227730452)), (59, (W32 2361852424)), (60, (W32 2428436474)), (61, (W32 2756734187)), (62, (W32 3204031479)), (63, (W32 3329325298))]))) fun t1 =>
  Q (.ret t1) σ
theorem ref02_Constants.eq (σ : Store) (Q : AEnd → Store → Prop) : vc (semOf Go.Proofs.Try.prog ref02_Constants.mark) Go.Proofs.Try.f51.ntmps ref02_Constants.ann (bodyOf Go.Proofs.Try.f51) (endK [.tmp 0] Q) (argFr []) σ = ref02_Constants.sh  σ Q := by kernel_rfl
theorem ref02_Constants.go {σ : Store} {Q : AEnd → Store → Prop} (h : ref02_Constants.sh  σ Q) : ACalls Go.Proofs.Try.prog 51 [] σ Q :=
  acalls_of_eq [.tmp 0] Go.Proofs.Try.func51 (by kernel_rfl) (by kernel_rfl) (by kernel_rfl) (by kernel_rfl) (ref02_Constants.eq  σ Q) h
theorem Constants_ok : aPure Go.Proofs.Try.prog 51 [] (.lst 1 (shaK.map wrd) .ro) := by
  refine ACalls.fin (ref02_Constants.go ?_)
  unfold ref02_Constants.sh
  refine ⟨.lst 1 (shaK.map wrd) .full, ⟨by unfold partsOne; decide +kernel, ⟨shaK.map wrd, rfl, told_len (inferInstance : Enc wrd 1).told shaK, by kernel_rfl, rfl⟩, fun l hl => ?_⟩, ?_⟩
  · cases hl
    exact flat_one (inferInstance : Enc wrd 1) shaK
  exact ⟨_, _, _, rfl, retLst (Sub.app_nil _), rfl, rfl⟩
instance : PC Go.Proofs.Try.prog 51 [] True (.lst 1 (shaK.map wrd) .ro) := ⟨fun _ => PC.of Constants_ok⟩
end Go.Ab

/- The document's sum of a text: the words of a block. -/
set_option linter.unusedVariables false
set_option linter.unusedSimpArgs false
namespace Go.Ab
def wAcc (b : List UInt8) (t : Nat) : Nat → UInt32
  | 0 => 0
  | k + 1 => wAcc b t k * 256 + UInt32.ofNat (b.getD (4 * t + k) 0).toNat
theorem wAcc_four (b : List UInt8) (t : Nat) : wAcc b t 4 = be32 (b.getD (4 * t) 0) (b.getD (4 * t + 1) 0) (b.getD (4 * t + 2) 0) (b.getD (4 * t + 3) 0) := by
  simp only [wAcc, be32, Nat.add_zero, UInt32.ofNat_add, UInt32.ofNat_mul]
  simp
def ref02_schedule.mark : Mark := ⟨fun t => Nat.beq t 51 || Nat.beq t 53 || Nat.beq t 59 || Nat.beq t 61, fun t => Nat.beq t 12, fun t => false, fun t => Nat.beq t 29, fun t => false⟩
def ref02_schedule.ann : Ann := ⟨fun n => bif Nat.beq n 3 then [0, 3, 4] else bif Nat.beq n 7 then [0, 3, 4, 5, 6] else bif Nat.beq n 12 then [3, 7] else [], fun n => none, fun n => bif Nat.beq n 18 then some [3, 7] else none⟩
/-- 'marlstone/marlstoneref02.schedule' -/
def ref02_schedule.sh (a0 : AV) (σ : Store) (Q : AEnd → Store → Prop) : Prop :=
  aRowL 79 (mkE [.val (.int .u32 0)]) 1 0 [] σ fun t12 σ =>
  aLoop (fun go vs σ_1 =>
    At vs 0 fun s0 => At vs 1 fun s3 => At vs 2 fun s4 => Do (aBin Go.Proofs.Try.prog .lss 3 s4 (.val (.int .i64 16))) fun t14 =>
    aCond t14
      (aLoop (fun go_1 vs_1 σ_2 =>
      At vs_1 0 fun s0_1 => At vs_1 1 fun s3_1 => At vs_1 2 fun s4_1 => At vs_1 3 fun s5 => At vs_1 4 fun s6 => Do (aBin Go.Proofs.Try.prog .lss 3 s6 (.val (.int .i64 4))) fun t18 =>
      aCond t18
        (Do (aBin Go.Proofs.Try.prog .mul 79 s5 (W32 256)) fun t22 =>
      Do (aBin Go.Proofs.Try.prog .mul 3 (.val (.int .i64 4)) s4_1) fun t25 =>
      Do (aBin Go.Proofs.Try.prog .add 3 t25 s6) fun t27 =>
      Do (aIndexAddr .slice 1 s0_1 t27) fun t28 =>
      Do (loadF false 1 t28) fun t29 =>
      Do (fun x => aConvN 5 79 t29 x Go.Proofs.Try.prog) fun t30 =>
      Do (aBin Go.Proofs.Try.prog .add 79 t22 t30) fun t31 =>
      Do (aBin Go.Proofs.Try.prog .add 3 s6 (.val (.int .i64 1))) fun t20 =>
      go_1 [s0_1, s3_1, s4_1, t31, t20] σ_2)
        (Do (aSlLit (mkE [.val (.int .u32 0)]) 1 1 [(0, s5)]) fun t34 =>
    aAppend 79 1 4 s3_1 t34 σ_2 (subK fun t35 σ_3 =>
    Do (aBin Go.Proofs.Try.prog .add 3 s4_1 (.val (.int .i64 1))) fun t16 =>
    go [s0_1, t35, t16] σ_3)))
      [s0, s3, s4, (W32 0), (.val (.int .i64 0))] σ_1)
      (aLoop (fun go_2 vs_2 σ_4 =>
    At vs_2 0 fun s3_2 => At vs_2 1 fun s7 => Do (aBin Go.Proofs.Try.prog .lss 3 s7 (.val (.int .i64 64))) fun t37 =>
    aCond t37
      (Do (aBin Go.Proofs.Try.prog .sub 3 s7 (.val (.int .i64 15))) fun t42 =>
    Do (aIndexAddr .slice 1 s3_2 t42) fun t43 =>
    Do (loadA false 1 t43 σ_4) fun t44 =>
    Do (aBin Go.Proofs.Try.prog .sub 3 s7 (.val (.int .i64 2))) fun t47 =>
    Do (aIndexAddr .slice 1 s3_2 t47) fun t48 =>
    Do (loadA false 1 t48 σ_4) fun t49 =>
    Do (aPureC Go.Proofs.Try.prog 54 [t44, (.val (.int .i64 7))]) fun t51 =>
    Do (aPureC Go.Proofs.Try.prog 54 [t44, (.val (.int .i64 18))]) fun t53 =>
    Do (aBin Go.Proofs.Try.prog .xor 79 t51 t53) fun t54 =>
    Do (aBin Go.Proofs.Try.prog .shr 79 t44 (W64 3)) fun t56 =>
    Do (aBin Go.Proofs.Try.prog .xor 79 t54 t56) fun t57 =>
    Do (aPureC Go.Proofs.Try.prog 54 [t49, (.val (.int .i64 17))]) fun t59 =>
    Do (aPureC Go.Proofs.Try.prog 54 [t49, (.val (.int .i64 19))]) fun t61 =>
    Do (aBin Go.Proofs.Try.prog .xor 79 t59 t61) fun t62 =>
    Do (aBin Go.Proofs.Try.prog .shr 79 t49 (W64 10)) fun t64 =>
    Do (aBin Go.Proofs.Try.prog .xor 79 t62 t64) fun t65 =>
    aJoin (fun j =>
      Do (aBin Go.Proofs.Try.prog .sub 3 s7 (.val (.int .i64 7))) fun t70 =>
      Do (aIndexAddr .slice 1 s3_2 t70) fun t71 =>
      Do (aBin Go.Proofs.Try.prog .sub 3 s7 (.val (.int .i64 16))) fun t78 =>
      Do (aIndexAddr .slice 1 s3_2 t78) fun t79 =>
      Both (Do (loadA false 1 t71 σ_4) fun t72 =>
      Do (aBin Go.Proofs.Try.prog .add 79 t65 t72) fun t73 =>
      Do (aBin Go.Proofs.Try.prog .add 79 t73 t57) fun t75 =>
      Do (loadA false 1 t79 σ_4) fun t80 =>
      Do (aBin Go.Proofs.Try.prog .add 79 t75 t80) fun t81 =>
      Do (aSlLit (mkE [.val (.int .u32 0)]) 1 1 [(0, t81)]) fun t82 =>
      aAppend 79 1 4 s3_2 t82 σ_4 (subK fun t83 σ_6 =>
      j [t83, s7] σ_6)) (Do (loadA false 1 t79 σ_4) fun t80_1 =>
      Do (loadA false 1 t71 σ_4) fun t72_1 =>
      Do (aBin Go.Proofs.Try.prog .add 79 t65 t72_1) fun t73_1 =>
      Do (aBin Go.Proofs.Try.prog .add 79 t73_1 t57) fun t75_1 =>
      Do (aBin Go.Proofs.Try.prog .add 79 t75_1 t80_1) fun t81_1 =>
      Do (aSlLit (mkE [.val (.int .u32 0)]) 1 1 [(0, t81_1)]) fun t82_1 =>
      aAppend 79 1 4 s3_2 t82_1 σ_4 (subK fun t83_1 σ_7 =>
      j [t83_1, s7] σ_7))) fun vs_3 σ_5 =>
    At vs_3 0 fun s3_3 => At vs_3 1 fun s7_1 => Do (aBin Go.Proofs.Try.prog .add 3 s7_1 (.val (.int .i64 1))) fun t39 =>
    go_2 [s3_3, t39] σ_5)
      (Q (.ret s3_2) σ_4))
    [s3, (.val (.int .i64 16))] σ_1))
    [a0, t12, (.val (.int .i64 0))] σ
theorem ref02_schedule.eq (a0 : AV) (σ : Store) (Q : AEnd → Store → Prop) : vc (semOf Go.Proofs.Try.prog ref02_schedule.mark) Go.Proofs.Try.f53.ntmps ref02_schedule.ann (bodyOf Go.Proofs.Try.f53) (endK [.tmp 2] Q) (argFr [a0]) σ = ref02_schedule.sh a0 σ Q := by kernel_rfl
theorem ref02_schedule.go {a0 : AV} {σ : Store} {Q : AEnd → Store → Prop} (h : ref02_schedule.sh a0 σ Q) : ACalls Go.Proofs.Try.prog 53 [a0] σ Q :=
  acalls_of_eq [.tmp 2] Go.Proofs.Try.func53 (by kernel_rfl) (by kernel_rfl) (by kernel_rfl) (by kernel_rfl) (ref02_schedule.eq a0 σ Q) h
theorem schedule_ok (b : List UInt8) (m : SM) (hb : b.length = 64) : aPure Go.Proofs.Try.prog 53 [.lst 1 (b.map byt) m] (.lst 1 ((sched b 64).map wrd) .ro) := by
  refine ACalls.fin (ref02_schedule.go ?_)
  unfold ref02_schedule.sh
  repeat' (first | with_reducible apply Stp.go | with_reducible refine imp fun _ => ?_ | (with_reducible refine hyp ?_ ?_; first | assumption | exact leftT_mem (by assumption)) | (with_reducible refine need ?_ ?_; first | trivial | omega | exact ⟨by assumption, by omega⟩ | (simp only [List.length_append, List.length_cons, List.length_nil, List.length_map, List.length_take, List.length_drop, List.length_replicate, List.length_set]; omega)) | (with_reducible refine fact ?_ ?_; first | trivial | exact ⟨rfl, rfl⟩ | kernel_rfl) | with_reducible refine choT (by assumption) ?_ | with_reducible refine choF (by assumption) ?_ | with_reducible refine choF' (by assumption) ?_ | (with_reducible refine altT ?_ ?_; first | omega | (simp only [List.length_append, List.length_cons, List.length_nil, List.length_map, List.length_take, List.length_drop, List.length_replicate, List.length_set]; omega)) | with_reducible refine altF ?_ | with_reducible refine all fun _ => ?_ | with_reducible refine both ?_ ?_ | (with_reducible refine choT ?_ ?_; omega) | (with_reducible refine choF ?_ ?_; omega) | with_reducible refine cho (fun _ => ?_) (fun _ => ?_))
  rename_i v0
  refine loopI (β := Nat × Value) (fun x => x.1 ≤ 16) (fun x => [.lst 1 (b.map byt) m, .own x.2 (sched b x.1).length, I .i64 (x.1 : Nat)]) (fun x => [.row x.2 79 1 ((sched b x.1).map wrd) 0]) (fun x => 16 - x.1) (0, v0) (Nat.zero_le _) (Sub.refl _ _) ?_
  rintro ⟨t, v⟩ ht
  dsimp only at ht ⊢
  have hsl := sched_length b t
  by_cases hlt : t < 16
  · repeat' (first | with_reducible apply Stp.go | with_reducible refine imp fun _ => ?_ | (with_reducible refine hyp ?_ ?_; first | assumption | exact leftT_mem (by assumption)) | (with_reducible refine need ?_ ?_; first | trivial | omega | exact ⟨by assumption, by omega⟩ | (simp only [List.length_append, List.length_cons, List.length_nil, List.length_map, List.length_take, List.length_drop, List.length_replicate, List.length_set]; omega)) | (with_reducible refine fact ?_ ?_; first | trivial | exact ⟨rfl, rfl⟩ | kernel_rfl) | with_reducible refine choT (by assumption) ?_ | with_reducible refine choF (by assumption) ?_ | with_reducible refine choF' (by assumption) ?_ | (with_reducible refine altT ?_ ?_; first | omega | (simp only [List.length_append, List.length_cons, List.length_nil, List.length_map, List.length_take, List.length_drop, List.length_replicate, List.length_set]; omega)) | with_reducible refine altF ?_ | with_reducible refine all fun _ => ?_ | with_reducible refine both ?_ ?_ | (with_reducible refine choT ?_ ?_; omega) | (with_reducible refine choF ?_ ?_; omega) | with_reducible refine cho (fun _ => ?_) (fun _ => ?_))
    refine loopI (β := Nat) (fun k => k ≤ 4) (fun k => [.lst 1 (b.map byt) m, .own v (sched b t).length, I .i64 (t : Nat), W32 (wAcc b t k), I .i64 (k : Nat)]) (fun _ => [.row v 79 1 ((sched b t).map wrd) 0]) (fun k => 4 - k) 0 (Nat.zero_le _) (Sub.refl _ _) ?_
    intro k hk
    by_cases hkl : k < 4
    · repeat' (first | with_reducible apply Stp.go | with_reducible refine imp fun _ => ?_ | (with_reducible refine hyp ?_ ?_; first | assumption | exact leftT_mem (by assumption)) | (with_reducible refine need ?_ ?_; first | trivial | omega | exact ⟨by assumption, by omega⟩ | (simp only [List.length_append, List.length_cons, List.length_nil, List.length_map, List.length_take, List.length_drop, List.length_replicate, List.length_set]; omega)) | (with_reducible refine fact ?_ ?_; first | trivial | exact ⟨rfl, rfl⟩ | kernel_rfl) | with_reducible refine choT (by assumption) ?_ | with_reducible refine choF (by assumption) ?_ | with_reducible refine choF' (by assumption) ?_ | (with_reducible refine altT ?_ ?_; first | omega | (simp only [List.length_append, List.length_cons, List.length_nil, List.length_map, List.length_take, List.length_drop, List.length_replicate, List.length_set]; omega)) | with_reducible refine altF ?_ | with_reducible refine all fun _ => ?_ | with_reducible refine both ?_ ?_ | (with_reducible refine choT ?_ ?_; omega) | (with_reducible refine choF ?_ ?_; omega) | with_reducible refine cho (fun _ => ?_) (fun _ => ?_))
      exact again (k + 1) (by omega) (by omega) (Sub.refl _ _)
    · have e : k = 4 := by omega
      subst e
      repeat' (first | with_reducible apply Stp.go | with_reducible refine imp fun _ => ?_ | (with_reducible refine hyp ?_ ?_; first | assumption | exact leftT_mem (by assumption)) | (with_reducible refine need ?_ ?_; first | trivial | omega | exact ⟨by assumption, by omega⟩ | (simp only [List.length_append, List.length_cons, List.length_nil, List.length_map, List.length_take, List.length_drop, List.length_replicate, List.length_set]; omega)) | (with_reducible refine fact ?_ ?_; first | trivial | exact ⟨rfl, rfl⟩ | kernel_rfl) | with_reducible refine choT (by assumption) ?_ | with_reducible refine choF (by assumption) ?_ | with_reducible refine choF' (by assumption) ?_ | (with_reducible refine altT ?_ ?_; first | omega | (simp only [List.length_append, List.length_cons, List.length_nil, List.length_map, List.length_take, List.length_drop, List.length_replicate, List.length_set]; omega)) | with_reducible refine altF ?_ | with_reducible refine all fun _ => ?_ | with_reducible refine both ?_ ?_ | (with_reducible refine choT ?_ ?_; omega) | (with_reducible refine choF ?_ ?_; omega) | with_reducible refine cho (fun _ => ?_) (fun _ => ?_))
      rename_i w
      refine again (t + 1, w) (by dsimp only; omega) (by dsimp only; omega) ?_
      dsimp only
      rw [show sched b (t + 1) = sched b t ++ [wAcc b t 4] by rw [wAcc_four, sched, if_pos hlt]]
      exact subS _
  · have e : t = 16 := by omega
    subst e
    repeat' (first | with_reducible apply Stp.go | with_reducible refine imp fun _ => ?_ | (with_reducible refine hyp ?_ ?_; first | assumption | exact leftT_mem (by assumption)) | (with_reducible refine need ?_ ?_; first | trivial | omega | exact ⟨by assumption, by omega⟩ | (simp only [List.length_append, List.length_cons, List.length_nil, List.length_map, List.length_take, List.length_drop, List.length_replicate, List.length_set]; omega)) | (with_reducible refine fact ?_ ?_; first | trivial | exact ⟨rfl, rfl⟩ | kernel_rfl) | with_reducible refine choT (by assumption) ?_ | with_reducible refine choF (by assumption) ?_ | with_reducible refine choF' (by assumption) ?_ | (with_reducible refine altT ?_ ?_; first | omega | (simp only [List.length_append, List.length_cons, List.length_nil, List.length_map, List.length_take, List.length_drop, List.length_replicate, List.length_set]; omega)) | with_reducible refine altF ?_ | with_reducible refine all fun _ => ?_ | with_reducible refine both ?_ ?_ | (with_reducible refine choT ?_ ?_; omega) | (with_reducible refine choF ?_ ?_; omega) | with_reducible refine cho (fun _ => ?_) (fun _ => ?_))
    refine loopI (β := Nat × Value) (fun x => 16 ≤ x.1 ∧ x.1 ≤ 64) (fun x => [.own x.2 (sched b x.1).length, I .i64 (x.1 : Nat)]) (fun x => [.row x.2 79 1 ((sched b x.1).map wrd) 0]) (fun x => 64 - x.1) (16, v) ⟨Nat.le_refl 16, show 16 ≤ 64 by decide⟩ (Sub.refl _ _) ?_
    rintro ⟨t, v⟩ ⟨ht, ht2⟩
    dsimp only at ht ht2 ⊢
    have hsl := sched_length b t
    by_cases hlt : t < 64
    · have hs : sched b (t + 1) = sched b t ++ [wNext (sched b t)] := by rw [sched, if_neg (by omega)]
      have hw : wNext (sched b t) = (rotr ((sched b t).getD (t - 2) default) 17 ^^^ rotr ((sched b t).getD (t - 2) default) 19 ^^^ (sched b t).getD (t - 2) default >>> UInt32.ofNat 10) + (sched b t).getD (t - 7) default + (rotr ((sched b t).getD (t - 15) default) 7 ^^^ rotr ((sched b t).getD (t - 15) default) 18 ^^^ (sched b t).getD (t - 15) default >>> UInt32.ofNat 3) + (sched b t).getD (t - 16) default := by
        unfold wNext; rw [hsl]; rfl
      repeat' (first | with_reducible apply Stp.go | with_reducible refine imp fun _ => ?_ | (with_reducible refine hyp ?_ ?_; first | assumption | exact leftT_mem (by assumption)) | (with_reducible refine need ?_ ?_; first | trivial | omega | exact ⟨by assumption, by omega⟩ | (simp only [List.length_append, List.length_cons, List.length_nil, List.length_map, List.length_take, List.length_drop, List.length_replicate, List.length_set]; omega)) | (with_reducible refine fact ?_ ?_; first | trivial | exact ⟨rfl, rfl⟩ | kernel_rfl) | with_reducible refine choT (by assumption) ?_ | with_reducible refine choF (by assumption) ?_ | with_reducible refine choF' (by assumption) ?_ | (with_reducible refine altT ?_ ?_; first | omega | (simp only [List.length_append, List.length_cons, List.length_nil, List.length_map, List.length_take, List.length_drop, List.length_replicate, List.length_set]; omega)) | with_reducible refine altF ?_ | with_reducible refine all fun _ => ?_ | with_reducible refine both ?_ ?_ | (with_reducible refine choT ?_ ?_; omega) | (with_reducible refine choF ?_ ?_; omega) | with_reducible refine cho (fun _ => ?_) (fun _ => ?_))
      refine joinI (β := Value) (fun _ => True) (fun w => [.own w (sched b (t + 1)).length, I .i64 (t : Nat)]) (fun w => [.row w 79 1 ((sched b (t + 1)).map wrd) 0]) ?_ ?_
      · rw [hs, hw]
        generalize sched b t = W at *
        repeat' (first | with_reducible apply Stp.go | with_reducible refine imp fun _ => ?_ | (with_reducible refine hyp ?_ ?_; first | assumption | exact leftT_mem (by assumption)) | (with_reducible refine need ?_ ?_; first | trivial | omega | exact ⟨by assumption, by omega⟩ | (simp only [List.length_append, List.length_cons, List.length_nil, List.length_map, List.length_take, List.length_drop, List.length_replicate, List.length_set]; omega)) | (with_reducible refine fact ?_ ?_; first | trivial | exact ⟨rfl, rfl⟩ | kernel_rfl) | with_reducible refine choT (by assumption) ?_ | with_reducible refine choF (by assumption) ?_ | with_reducible refine choF' (by assumption) ?_ | (with_reducible refine altT ?_ ?_; first | omega | (simp only [List.length_append, List.length_cons, List.length_nil, List.length_map, List.length_take, List.length_drop, List.length_replicate, List.length_set]; omega)) | with_reducible refine altF ?_ | with_reducible refine all fun _ => ?_ | with_reducible refine both ?_ ?_ | (with_reducible refine choT ?_ ?_; omega) | (with_reducible refine choF ?_ ?_; omega) | with_reducible refine cho (fun _ => ?_) (fun _ => ?_))
        all_goals
          rename_i w
          exact meet w trivial (subS _)
      · rintro w _
        repeat' (first | with_reducible apply Stp.go | with_reducible refine imp fun _ => ?_ | (with_reducible refine hyp ?_ ?_; first | assumption | exact leftT_mem (by assumption)) | (with_reducible refine need ?_ ?_; first | trivial | omega | exact ⟨by assumption, by omega⟩ | (simp only [List.length_append, List.length_cons, List.length_nil, List.length_map, List.length_take, List.length_drop, List.length_replicate, List.length_set]; omega)) | (with_reducible refine fact ?_ ?_; first | trivial | exact ⟨rfl, rfl⟩ | kernel_rfl) | with_reducible refine choT (by assumption) ?_ | with_reducible refine choF (by assumption) ?_ | with_reducible refine choF' (by assumption) ?_ | (with_reducible refine altT ?_ ?_; first | omega | (simp only [List.length_append, List.length_cons, List.length_nil, List.length_map, List.length_take, List.length_drop, List.length_replicate, List.length_set]; omega)) | with_reducible refine altF ?_ | with_reducible refine all fun _ => ?_ | with_reducible refine both ?_ ?_ | (with_reducible refine choT ?_ ?_; omega) | (with_reducible refine choF ?_ ?_; omega) | with_reducible refine cho (fun _ => ?_) (fun _ => ?_))
        exact again (t + 1, w) (by dsimp only; omega) ⟨by dsimp only; omega, by dsimp only; omega⟩ (Sub.refl _ _)
    · have e : t = 64 := by omega
      subst e
      repeat' (first | with_reducible apply Stp.go | with_reducible refine imp fun _ => ?_ | (with_reducible refine hyp ?_ ?_; first | assumption | exact leftT_mem (by assumption)) | (with_reducible refine need ?_ ?_; first | trivial | omega | exact ⟨by assumption, by omega⟩ | (simp only [List.length_append, List.length_cons, List.length_nil, List.length_map, List.length_take, List.length_drop, List.length_replicate, List.length_set]; omega)) | (with_reducible refine fact ?_ ?_; first | trivial | exact ⟨rfl, rfl⟩ | kernel_rfl) | with_reducible refine choT (by assumption) ?_ | with_reducible refine choF (by assumption) ?_ | with_reducible refine choF' (by assumption) ?_ | (with_reducible refine altT ?_ ?_; first | omega | (simp only [List.length_append, List.length_cons, List.length_nil, List.length_map, List.length_take, List.length_drop, List.length_replicate, List.length_set]; omega)) | with_reducible refine altF ?_ | with_reducible refine all fun _ => ?_ | with_reducible refine both ?_ ?_ | (with_reducible refine choT ?_ ?_; omega) | (with_reducible refine choF ?_ ?_; omega) | with_reducible refine cho (fun _ => ?_) (fun _ => ?_))
      exact ⟨_, _, _, rfl, retOwn (Sub.refl _ _), rfl, rfl⟩
instance {a : AV} {b : List UInt8} {m : SM} [h : IsL a byt 1 b m] : PC Go.Proofs.Try.prog 53 [a] (b.length = 64) (.lst 1 ((sched b 64).map wrd) .ro) := ⟨fun hl => ⟨[.lst 1 (b.map byt) m], ⟨h.sub, trivial⟩, schedule_ok b m hl⟩⟩
end Go.Ab

/- The sum of a text: what its functions do. -/
set_option linter.unusedVariables false
set_option linter.unusedSimpArgs false
namespace Go.Ab
def math_bits_RotateLeft32.mark : Mark := ⟨fun t => false, fun t => false, fun t => false, fun t => false, fun t => false⟩
def math_bits_RotateLeft32.ann : Ann := ⟨fun n => [], fun n => none, fun n => none⟩
/-- 'math/bits.RotateLeft32' -/
def math_bits_RotateLeft32.sh (a0 a1 : AV) (σ : Store) (Q : AEnd → Store → Prop) : Prop :=
  Do (fun x => aConvN 3 85 a1 x Go.Proofs.Try.prog) fun t7 =>
  Do (aBin Go.Proofs.Try.prog .and 85 t7 (W64 31)) fun t8 =>
  Do (aBin Go.Proofs.Try.prog .shl 79 a0 t8) fun t11 =>
  Do (aBin Go.Proofs.Try.prog .sub 85 (W64 32) t8) fun t14 =>
  Do (aBin Go.Proofs.Try.prog .shr 79 a0 t14) fun t15 =>
  Do (aBin Go.Proofs.Try.prog .or 79 t11 t15) fun t16 =>
  Q (.ret t16) σ
theorem math_bits_RotateLeft32.eq (a0 a1 : AV) (σ : Store) (Q : AEnd → Store → Prop) : vc (semOf Go.Proofs.Try.prog math_bits_RotateLeft32.mark) Go.Proofs.Try.f76.ntmps math_bits_RotateLeft32.ann (bodyOf Go.Proofs.Try.f76) (endK [.tmp 4] Q) (argFr [a0, a1]) σ = math_bits_RotateLeft32.sh a0 a1 σ Q := by kernel_rfl
theorem math_bits_RotateLeft32.go {a0 a1 : AV} {σ : Store} {Q : AEnd → Store → Prop} (h : math_bits_RotateLeft32.sh a0 a1 σ Q) : ACalls Go.Proofs.Try.prog 76 [a0, a1] σ Q :=
  acalls_of_eq [.tmp 4] Go.Proofs.Try.func76 (by kernel_rfl) (by kernel_rfl) (by kernel_rfl) (by kernel_rfl) (math_bits_RotateLeft32.eq a0 a1 σ Q) h
theorem rot_ok (x : UInt32) (n : Nat) (h0 : 0 < n) (h1 : n < 32) : aPure Go.Proofs.Try.prog 76 [W32 x, I .i64 (-(n : Int))] (W32 (rotr x n)) := by
  refine math_bits_RotateLeft32.go ?_
  unfold math_bits_RotateLeft32.sh
  refine s_conv (k := .i64) (k' := .u64) (by kernel_rfl) (by kernel_rfl) ?_
  have e : IntKind.wrap .u64 (-(n : Int)) = (((UInt64.ofNat (18446744073709551616 - n)).toNat : Nat) : Int) := by
    rw [u64_len (by omega)]
    simp only [IntKind.wrap, IntKind.bits, IntKind.signed, Bool.false_and]
    rw [if_neg (by simp)]
    omega
  rw [e]
  have e2 : (UInt64.ofNat (18446744073709551616 - n) &&& 31).toNat = 32 - n := by
    rw [UInt64.toNat_and, u64_len (by omega), show UInt64.toNat 31 = 2 ^ 5 - 1 from rfl, Nat.and_two_pow_sub_one_eq_mod]
    omega
  have e3 : (32 - (UInt64.ofNat (18446744073709551616 - n) &&& 31)).toNat = n := by
    rw [UInt64.toNat_sub, e2, show UInt64.toNat 32 = 32 from rfl]
    omega
  repeat' (first | with_reducible apply Stp.go | with_reducible refine imp fun _ => ?_ | (with_reducible refine hyp ?_ ?_; first | assumption | exact leftT_mem (by assumption)) | (with_reducible refine need ?_ ?_; first | trivial | omega | exact ⟨by assumption, by omega⟩ | (simp only [List.length_append, List.length_cons, List.length_nil, List.length_map, List.length_take, List.length_drop, List.length_replicate, List.length_set]; omega)) | (with_reducible refine fact ?_ ?_; first | trivial | exact ⟨rfl, rfl⟩ | kernel_rfl) | with_reducible refine choT (by assumption) ?_ | with_reducible refine choF (by assumption) ?_ | with_reducible refine choF' (by assumption) ?_ | (with_reducible refine altT ?_ ?_; first | omega | (simp only [List.length_append, List.length_cons, List.length_nil, List.length_map, List.length_take, List.length_drop, List.length_replicate, List.length_set]; omega)) | with_reducible refine altF ?_ | with_reducible refine all fun _ => ?_ | with_reducible refine both ?_ ?_ | (with_reducible refine choT ?_ ?_; omega) | (with_reducible refine choF ?_ ?_; omega) | with_reducible refine cho (fun _ => ?_) (fun _ => ?_))
  rw [e2, e3]
  refine ⟨?_, rfl⟩
  rw [UInt32.or_comm]
  rfl
instance {x : UInt32} : PC Go.Proofs.Try.prog 76 [.val (.int .u32 (x.toNat : Nat)), .val (.int .i64 (-2))] True (W32 (rotr x 2)) := ⟨fun _ => PC.of (rot_ok x 2 (by decide) (by decide))⟩
instance {x : UInt32} : PC Go.Proofs.Try.prog 76 [.val (.int .u32 (x.toNat : Nat)), .val (.int .i64 (-6))] True (W32 (rotr x 6)) := ⟨fun _ => PC.of (rot_ok x 6 (by decide) (by decide))⟩
instance {x : UInt32} : PC Go.Proofs.Try.prog 76 [.val (.int .u32 (x.toNat : Nat)), .val (.int .i64 (-7))] True (W32 (rotr x 7)) := ⟨fun _ => PC.of (rot_ok x 7 (by decide) (by decide))⟩
instance {x : UInt32} : PC Go.Proofs.Try.prog 76 [.val (.int .u32 (x.toNat : Nat)), .val (.int .i64 (-11))] True (W32 (rotr x 11)) := ⟨fun _ => PC.of (rot_ok x 11 (by decide) (by decide))⟩
instance {x : UInt32} : PC Go.Proofs.Try.prog 76 [.val (.int .u32 (x.toNat : Nat)), .val (.int .i64 (-13))] True (W32 (rotr x 13)) := ⟨fun _ => PC.of (rot_ok x 13 (by decide) (by decide))⟩
instance {x : UInt32} : PC Go.Proofs.Try.prog 76 [.val (.int .u32 (x.toNat : Nat)), .val (.int .i64 (-17))] True (W32 (rotr x 17)) := ⟨fun _ => PC.of (rot_ok x 17 (by decide) (by decide))⟩
instance {x : UInt32} : PC Go.Proofs.Try.prog 76 [.val (.int .u32 (x.toNat : Nat)), .val (.int .i64 (-18))] True (W32 (rotr x 18)) := ⟨fun _ => PC.of (rot_ok x 18 (by decide) (by decide))⟩
instance {x : UInt32} : PC Go.Proofs.Try.prog 76 [.val (.int .u32 (x.toNat : Nat)), .val (.int .i64 (-19))] True (W32 (rotr x 19)) := ⟨fun _ => PC.of (rot_ok x 19 (by decide) (by decide))⟩
instance {x : UInt32} : PC Go.Proofs.Try.prog 76 [.val (.int .u32 (x.toNat : Nat)), .val (.int .i64 (-22))] True (W32 (rotr x 22)) := ⟨fun _ => PC.of (rot_ok x 22 (by decide) (by decide))⟩
instance {x : UInt32} : PC Go.Proofs.Try.prog 76 [.val (.int .u32 (x.toNat : Nat)), .val (.int .i64 (-25))] True (W32 (rotr x 25)) := ⟨fun _ => PC.of (rot_ok x 25 (by decide) (by decide))⟩
instance : FoldC (List.replicate 64 (.val (.int .u32 0))) ((List.replicate 64 (0 : UInt32)).map wrd) := ⟨rfl⟩
instance : FoldC [.val (.int .u32 0), .val (.int .u32 0), .val (.int .u32 0), .val (.int .u32 0), .val (.int .u32 0), .val (.int .u32 0), .val (.int .u32 0), .val (.int .u32 0)] ((List.replicate 8 (0 : UInt32)).map wrd) := ⟨rfl⟩
instance : FoldC [.val (.int .u8 0), .val (.int .u8 0), .val (.int .u8 0), .val (.int .u8 0), .val (.int .u8 0), .val (.int .u8 0), .val (.int .u8 0), .val (.int .u8 0), .val (.int .u8 0), .val (.int .u8 0), .val (.int .u8 0), .val (.int .u8 0), .val (.int .u8 0), .val (.int .u8 0), .val (.int .u8 0), .val (.int .u8 0), .val (.int .u8 0), .val (.int .u8 0), .val (.int .u8 0), .val (.int .u8 0), .val (.int .u8 0), .val (.int .u8 0), .val (.int .u8 0), .val (.int .u8 0), .val (.int .u8 0), .val (.int .u8 0), .val (.int .u8 0), .val (.int .u8 0), .val (.int .u8 0), .val (.int .u8 0), .val (.int .u8 0), .val (.int .u8 0)] ((List.replicate 32 (0 : UInt8)).map byt) := ⟨rfl⟩
def sum_words.mark : Mark := ⟨fun t => false, fun t => false, fun t => false, fun t => false, fun t => false⟩
def sum_words.ann : Ann := ⟨fun n => [], fun n => none, fun n => none⟩
/-- 'marlstone/sum.words' -/
def sum_words.sh (σ : Store) (Q : AEnd → Store → Prop) : Prop :=
  aNewVar 90 ((List.replicate 64 (.val (.int .u32 0)))) σ fun t0 σ =>
  Do (aLit ((List.replicate 64 (.val (.int .u32 0)))) ((List.range 64).map fun i => (i * 1, 1)) ([(0, (W32 1116352408)), (1, (W32 1899447441)), (2, (W32 3049323471)), (3, (W32 3921009573)), (4, (W32 961987163)), (5, (W32 1508970993)), (6, (W32 2453635748)), (7, (W32 2870763221)), (8, (W32 3624381080)), (9, (W32 310598401)), (10, (W32 607225278)), (11, (W32 1426881987)), (12, (W32 1925078388)), (13, (W32 2162078206)), (14, (W32 2614888103)), (15, (W32 3248222580)), (16, (W32 3835390401)), (17, (W32 4022224774)), (18, (W32 264347078)), (19, (W32 604807628)), (20, (W32 770255983)), (21, (W32 1249150122)), (22, (W32 1555081692)), (23, (W32 1996064986)), (24, (W32 2554220882)), (25, (W32 2821834349)), (26, (W32 2952996808)), (27, (W32 3210313671)), (28, (W32 3336571891)), (29, (W32 3584528711)), (30, (W32 113926993)), (31, (W32 338241895))] ++ ([(32, (W32 666307205)), (33, (W32 773529912)), (34, (W32 1294757372)), (35, (W32 1396182291)), (36, (W32 1695183700)), (37, (W32 1986661051)), (38, (W32 2177026350)), (39, (W32 2456956037)), (40, (W32 2730485921)), (41, (W32 2820302411)), (42, (W32 3259730800)), (43, (W32 3345764771)), (44, (W32 3516065817)), (45, (W32 3600352804)), (46, (W32 4094571909)), (47, (W32 275423344)), (48, (W32 430227734)), (49, (W32 506948616)), (50, (W32 659060556)), (51, (W32 883997877)), (52, (W32 958139571)), (53, (W32 1322822218)), (54, (W32 1537002063)), (55, (W32 1747873779)), (56, (W32 1955562222)), (57, (W32 2024104815)), (58, (W32 2227730452)), (59, (W32 2361852424)), (60, (W32 2428436474)), (61, (W32 2756734187)), (62, (W32 3204031479)), (63, (W32 3329325298))]))) fun t1 =>
  storeA 64 t0 t1 σ fun u σ_1 =>
  Do (loadA true 64 t0 σ_1) fun r0 => Q (.ret r0) σ_1
theorem sum_words.eq (σ : Store) (Q : AEnd → Store → Prop) : vc (semOf Go.Proofs.Try.prog sum_words.mark) Go.Proofs.Try.f59.ntmps sum_words.ann (bodyOf Go.Proofs.Try.f59) (endK [.cell 0 true 64] Q) (argFr []) σ = sum_words.sh  σ Q := by kernel_rfl
theorem sum_words.go {σ : Store} {Q : AEnd → Store → Prop} (h : sum_words.sh  σ Q) : ACalls Go.Proofs.Try.prog 59 [] σ Q :=
  acalls_of_eq [.cell 0 true 64] Go.Proofs.Try.func59 (by kernel_rfl) (by kernel_rfl) (by kernel_rfl) (by kernel_rfl) (sum_words.eq  σ Q) h
theorem words_ok : aPure Go.Proofs.Try.prog 59 [] (.agg (shaK.map wrd)) := by
  refine ACalls.fin (sum_words.go ?_)
  unfold sum_words.sh
  repeat' (first | with_reducible apply Stp.go | with_reducible refine imp fun _ => ?_ | (with_reducible refine hyp ?_ ?_; first | assumption | exact leftT_mem (by assumption)) | (with_reducible refine need ?_ ?_; first | trivial | omega | exact ⟨by assumption, by omega⟩ | (simp only [List.length_append, List.length_cons, List.length_nil, List.length_map, List.length_take, List.length_drop, List.length_replicate, List.length_set]; omega)) | (with_reducible refine fact ?_ ?_; first | trivial | exact ⟨rfl, rfl⟩ | kernel_rfl) | with_reducible refine choT (by assumption) ?_ | with_reducible refine choF (by assumption) ?_ | with_reducible refine choF' (by assumption) ?_ | (with_reducible refine altT ?_ ?_; first | omega | (simp only [List.length_append, List.length_cons, List.length_nil, List.length_map, List.length_take, List.length_drop, List.length_replicate, List.length_set]; omega)) | with_reducible refine altF ?_ | with_reducible refine all fun _ => ?_ | with_reducible refine both ?_ ?_ | (with_reducible refine choT ?_ ?_; omega) | (with_reducible refine choF ?_ ?_; omega) | with_reducible refine cho (fun _ => ?_) (fun _ => ?_))
  refine ⟨.agg (shaK.map wrd), ⟨by unfold partsOne; decide +kernel, shaK.map wrd, by kernel_rfl, rfl⟩, ?_⟩
  repeat' (first | with_reducible apply Stp.go | with_reducible refine imp fun _ => ?_ | (with_reducible refine hyp ?_ ?_; first | assumption | exact leftT_mem (by assumption)) | (with_reducible refine need ?_ ?_; first | trivial | omega | exact ⟨by assumption, by omega⟩ | (simp only [List.length_append, List.length_cons, List.length_nil, List.length_map, List.length_take, List.length_drop, List.length_replicate, List.length_set]; omega)) | (with_reducible refine fact ?_ ?_; first | trivial | exact ⟨rfl, rfl⟩ | kernel_rfl) | with_reducible refine choT (by assumption) ?_ | with_reducible refine choF (by assumption) ?_ | with_reducible refine choF' (by assumption) ?_ | (with_reducible refine altT ?_ ?_; first | omega | (simp only [List.length_append, List.length_cons, List.length_nil, List.length_map, List.length_take, List.length_drop, List.length_replicate, List.length_set]; omega)) | with_reducible refine altF ?_ | with_reducible refine all fun _ => ?_ | with_reducible refine both ?_ ?_ | (with_reducible refine choT ?_ ?_; omega) | (with_reducible refine choF ?_ ?_; omega) | with_reducible refine cho (fun _ => ?_) (fun _ => ?_))
  refine ⟨_, _, _, rfl, Sub.app_nil _, rfl, rfl⟩
instance : PC Go.Proofs.Try.prog 59 [] True (.agg (shaK.map wrd)) := ⟨fun _ => PC.of words_ok⟩
/-- What sums: its words, the constants, the part of a block that is held. -/
def hsCs (h k : List UInt32) (p : List UInt8) (q : Nat) (s : UInt64) : List AV := h.map wrd ++ (k.map wrd ++ (p.map byt ++ [I .i64 (q : Nat), W64 s]))
section hs
variable {h k : List UInt32} {p : List UInt8} {q : Nat} {s : UInt64} {o a b : Nat}
def hsOk (h k : List UInt32) (p : List UInt8) : Prop := h.length = 8 ∧ k.length = 64 ∧ p.length = 64
theorem hs_len (hh : hsOk h k p) : (hsCs h k p q s).length = 138 := by
  obtain ⟨h1, h2, h3⟩ := hh
  simp [hsCs, h1, h2, h3]
theorem hs_drop8 (hh : hsOk h k p) : (hsCs h k p q s).drop 8 = k.map wrd ++ (p.map byt ++ [I .i64 (q : Nat), W64 s]) := by
  rw [hsCs, show 8 = (h.map wrd).length by simp [hh.1], List.drop_left]
theorem hs_drop72 (hh : hsOk h k p) : (hsCs h k p q s).drop 72 = p.map byt ++ [I .i64 (q : Nat), W64 s] := by
  rw [show 72 = 8 + 64 from rfl, ← List.drop_drop, hs_drop8 hh, show 64 = (k.map wrd).length by simp [hh.2.1], List.drop_left]
theorem hs_drop136 (hh : hsOk h k p) : (hsCs h k p q s).drop 136 = [I .i64 (q : Nat), W64 s] := by
  rw [show 136 = 72 + 64 from rfl, ← List.drop_drop, hs_drop72 hh, show 64 = (p.map byt).length by simp [hh.2.2], List.drop_left]
instance (priority := 900) : ElemAt (hsCs h k p q s) o (hsOk h k p ∧ o < 8) (W32 (h.getD o default)) := ⟨fun ⟨hh, ho⟩ => ⟨by rw [hs_len hh]; omega, by
  have h1 := hh.1
  rw [hsCs, List.drop_append_of_le_length (by simp; omega), List.take_append_of_le_length (by simp; omega), drop_one (inferInstance : EncOne wrd) (by omega)]; rfl⟩⟩
instance (priority := 1100) : ElemAt (hsCs h k p q s) (8 + a) (hsOk h k p ∧ a < 64) (W32 (k.getD a default)) := ⟨fun ⟨hh, ho⟩ => ⟨by rw [hs_len hh]; omega, by
  have h1 := hh.2.1
  rw [← List.drop_drop, hs_drop8 hh, List.drop_append_of_le_length (by simp; omega), List.take_append_of_le_length (by simp; omega), drop_one (inferInstance : EncOne wrd) (by omega)]; rfl⟩⟩
instance (priority := 1100) : ElemAt (hsCs h k p q s) (72 + a) (hsOk h k p ∧ a < 64) (W8 (p.getD a default)) := ⟨fun ⟨hh, ho⟩ => ⟨by rw [hs_len hh]; omega, by
  have h1 := hh.2.2
  rw [← List.drop_drop, hs_drop72 hh, List.drop_append_of_le_length (by simp; omega), List.take_append_of_le_length (by simp; omega), drop_one (inferInstance : EncOne byt) (by omega)]; rfl⟩⟩
instance (priority := 1200) : ElemAt (hsCs h k p q s) 136 (hsOk h k p) (I .i64 (q : Nat)) := ⟨fun hh => ⟨by rw [hs_len hh]; omega, by rw [hs_drop136 hh]; rfl⟩⟩
instance (priority := 1200) : ElemAt (hsCs h k p q s) 137 (hsOk h k p) (W64 s) := ⟨fun hh => ⟨by rw [hs_len hh]; omega, by rw [show 137 = 136 + 1 from rfl, ← List.drop_drop, hs_drop136 hh]; rfl⟩⟩
theorem splice_at {cs pre post : List AV} {o : Nat} {x y : AV} (e : cs = pre ++ x :: post) (ho : o = pre.length) : splice cs o [y] = pre ++ y :: post := by
  subst e; subst ho
  simp [splice, List.drop_append]
theorem hs_136 (hh : hsOk h k p) : hsCs h k p q s = (h.map wrd ++ (k.map wrd ++ p.map byt)) ++ I .i64 (q : Nat) :: [W64 s] := by simp [hsCs]
instance (priority := 1200) {x : Int} {n : Nat} [hx : NatOf x n] : SetAt (hsCs h k p q s) 136 (.val (.int .i64 x)) (hsOk h k p) (hsCs h k p n s) := ⟨fun hh => ⟨by rw [hs_len hh]; omega, by
  rw [splice_at (hs_136 hh) (by simp [hh.1, hh.2.1, hh.2.2]), hx.eq]
  simp [hsCs]⟩, rfl, rfl⟩
instance (priority := 1200) {x : Int} {w : UInt64} [hx : U64Of x w] : SetAt (hsCs h k p q s) 137 (.val (.int .u64 x)) (hsOk h k p) (hsCs h k p q w) := ⟨fun hh => ⟨by rw [hs_len hh]; omega, by
  rw [splice_at (pre := h.map wrd ++ (k.map wrd ++ (p.map byt ++ [I .i64 (q : Nat)]))) (x := W64 s) (post := []) (by simp [hsCs]) (by simp [hh.1, hh.2.1, hh.2.2]), hx.eq]
  simp [hsCs]⟩, rfl, rfl⟩
instance (priority := 900) {x : Int} {w : UInt32} [hx : U32Of x w] : SetAt (hsCs h k p q s) o (.val (.int .u32 x)) (hsOk h k p ∧ o < 8) (hsCs (h.set o w) k p q s) := ⟨fun ⟨hh, ho⟩ => ⟨by rw [hs_len hh]; omega, by
  have h1 := hh.1
  have e := splice_map (f := wrd) (l := h) (o := o) (by omega) w
  have e2 : wrd w = .val (.int .u32 x) := by rw [hx.eq]; rfl
  rw [e2] at e
  rw [hsCs, hsCs, ← e]
  unfold splice
  rw [List.take_append_of_le_length (by simp; omega), List.drop_append_of_le_length (by simp; omega)]
  simp⟩, rfl, rfl⟩
instance (priority := 65) ldHs {t : TypeId} {σ rest : Store} {put : Ent → Store} {K : AV → Prop} [hv : VarAt b σ t (hsCs h k p q s) put rest] : Stp (Do (loadA true 8 (ptrAt b 0) σ) K) (Need (hsOk h k p) (K (.agg (h.map wrd)))) := ⟨fun ⟨hh, hK⟩ => by
  obtain ⟨σ1, σ2, e, _⟩ := hv.at_
  refine ⟨_, ⟨by decide, fun h => by (cases h), rfl, t, _, by rw [e]; exact List.mem_append.2 (.inr (List.mem_cons_self ..)), by rw [hs_len hh]; exact Nat.le_of_ble_eq_true rfl, ?_⟩, hK⟩
  have h1 := hh.1
  show _ = mkV true (((hsCs h k p q s).drop 0).take 8)
  rw [List.drop_zero, hsCs, show 8 = (h.map wrd).length by simp [h1], List.take_left]
  rfl⟩
end hs
def sum_Hash_block.mark : Mark := ⟨fun t => Nat.beq t 70 || Nat.beq t 72 || Nat.beq t 78 || Nat.beq t 80 || Nat.beq t 114 || Nat.beq t 116 || Nat.beq t 119 || Nat.beq t 145 || Nat.beq t 147 || Nat.beq t 150, fun t => false, fun t => false, fun t => false, fun t => false⟩
def sum_Hash_block.ann : Ann := ⟨fun n => bif Nat.beq n 2 then [0, 1, 4, 18] else bif Nat.beq n 7 then [0, 4, 6] else bif Nat.beq n 15 then [0, 4, 11, 104] else bif Nat.beq n 23 then [0, 11, 187] else [], fun n => none, fun n => none⟩
/-- '(*marlstone/sum.Hash).block' -/
def sum_Hash_block.sh (a0 a1 : AV) (σ : Store) (Q : AEnd → Store → Prop) : Prop :=
  aNewVar 90 ((List.replicate 64 (.val (.int .u32 0)))) σ fun t4 σ =>
  aLoop (fun go vs σ_1 =>
    At vs 0 fun s0 => At vs 1 fun s1 => At vs 2 fun s4 => At vs 3 fun s18 => Do (aBin Go.Proofs.Try.prog .lss 3 s18 (.val (.int .i64 16))) fun t19 =>
    aCond t19
      (Do (aBin Go.Proofs.Try.prog .mul 3 (.val (.int .i64 4)) s18) fun t24 =>
    Do (aIndexAddr .slice 1 s1 t24) fun t25 =>
    Do (loadA false 1 t25 σ_1) fun t26 =>
    Do (fun x => aConvN 5 79 t26 x Go.Proofs.Try.prog) fun t27 =>
    Do (aBin Go.Proofs.Try.prog .shl 79 t27 (W64 24)) fun t28 =>
    Do (aBin Go.Proofs.Try.prog .mul 3 (.val (.int .i64 4)) s18) fun t31 =>
    Do (aBin Go.Proofs.Try.prog .add 3 t31 (.val (.int .i64 1))) fun t32 =>
    Do (aIndexAddr .slice 1 s1 t32) fun t33 =>
    Do (loadA false 1 t33 σ_1) fun t34 =>
    Do (fun x => aConvN 5 79 t34 x Go.Proofs.Try.prog) fun t35 =>
    Do (aBin Go.Proofs.Try.prog .shl 79 t35 (W64 16)) fun t36 =>
    Do (aBin Go.Proofs.Try.prog .or 79 t28 t36) fun t37 =>
    Do (aBin Go.Proofs.Try.prog .mul 3 (.val (.int .i64 4)) s18) fun t40 =>
    Do (aBin Go.Proofs.Try.prog .add 3 t40 (.val (.int .i64 2))) fun t41 =>
    Do (aIndexAddr .slice 1 s1 t41) fun t42 =>
    Do (loadA false 1 t42 σ_1) fun t43 =>
    Do (fun x => aConvN 5 79 t43 x Go.Proofs.Try.prog) fun t44 =>
    Do (aBin Go.Proofs.Try.prog .shl 79 t44 (W64 8)) fun t45 =>
    Do (aBin Go.Proofs.Try.prog .or 79 t37 t45) fun t46 =>
    Do (aBin Go.Proofs.Try.prog .mul 3 (.val (.int .i64 4)) s18) fun t49 =>
    Do (aBin Go.Proofs.Try.prog .add 3 t49 (.val (.int .i64 3))) fun t50 =>
    Do (aIndexAddr .slice 1 s1 t50) fun t51 =>
    Do (loadA false 1 t51 σ_1) fun t52 =>
    Do (fun x => aConvN 5 79 t52 x Go.Proofs.Try.prog) fun t53 =>
    Do (aBin Go.Proofs.Try.prog .or 79 t46 t53) fun t54 =>
    Do (aIndexAddr (.array 64) 1 s4 s18) fun t55 =>
    storeA 1 t55 t54 σ_1 fun u σ_2 =>
    Do (aBin Go.Proofs.Try.prog .add 3 s18 (.val (.int .i64 1))) fun t56 =>
    go [s0, s1, s4, t56] σ_2)
      (aLoop (fun go_1 vs_1 σ_3 =>
    At vs_1 0 fun s0_1 => At vs_1 1 fun s4_1 => At vs_1 2 fun s6 => Do (aBin Go.Proofs.Try.prog .lss 3 s6 (.val (.int .i64 64))) fun t58 =>
    aCond t58
      (Do (aBin Go.Proofs.Try.prog .sub 3 s6 (.val (.int .i64 15))) fun t62 =>
    Do (aIndexAddr (.array 64) 1 s4_1 t62) fun t63 =>
    Do (loadA false 1 t63 σ_3) fun t64 =>
    Do (aBin Go.Proofs.Try.prog .sub 3 s6 (.val (.int .i64 2))) fun t66 =>
    Do (aIndexAddr (.array 64) 1 s4_1 t66) fun t67 =>
    Do (loadA false 1 t67 σ_3) fun t68 =>
    Do (aPureC Go.Proofs.Try.prog 76 [t64, (.val (.int .i64 (-7)))]) fun t70 =>
    Do (aPureC Go.Proofs.Try.prog 76 [t64, (.val (.int .i64 (-18)))]) fun t72 =>
    Do (aBin Go.Proofs.Try.prog .xor 79 t70 t72) fun t73 =>
    Do (aBin Go.Proofs.Try.prog .shr 79 t64 (W64 3)) fun t75 =>
    Do (aBin Go.Proofs.Try.prog .xor 79 t73 t75) fun t76 =>
    Do (aPureC Go.Proofs.Try.prog 76 [t68, (.val (.int .i64 (-17)))]) fun t78 =>
    Do (aPureC Go.Proofs.Try.prog 76 [t68, (.val (.int .i64 (-19)))]) fun t80 =>
    Do (aBin Go.Proofs.Try.prog .xor 79 t78 t80) fun t81 =>
    Do (aBin Go.Proofs.Try.prog .shr 79 t68 (W64 10)) fun t83 =>
    Do (aBin Go.Proofs.Try.prog .xor 79 t81 t83) fun t84 =>
    Do (aBin Go.Proofs.Try.prog .sub 3 s6 (.val (.int .i64 7))) fun t88 =>
    Do (aIndexAddr (.array 64) 1 s4_1 t88) fun t89 =>
    Do (loadA false 1 t89 σ_3) fun t90 =>
    Do (aBin Go.Proofs.Try.prog .add 79 t84 t90) fun t91 =>
    Do (aBin Go.Proofs.Try.prog .add 79 t91 t76) fun t93 =>
    Do (aBin Go.Proofs.Try.prog .sub 3 s6 (.val (.int .i64 16))) fun t95 =>
    Do (aIndexAddr (.array 64) 1 s4_1 t95) fun t96 =>
    Do (loadA false 1 t96 σ_3) fun t97 =>
    Do (aBin Go.Proofs.Try.prog .add 79 t93 t97) fun t98 =>
    Do (aIndexAddr (.array 64) 1 s4_1 s6) fun t99 =>
    storeA 1 t99 t98 σ_3 fun u_1 σ_4 =>
    Do (aBin Go.Proofs.Try.prog .add 3 s6 (.val (.int .i64 1))) fun t60 =>
    go_1 [s0_1, s4_1, t60] σ_4)
      (Do (aNil s0_1) fun t101 =>
  Do (aFieldAddr 0 8 t101) fun t102 =>
  Do (loadA true 8 t102 σ_3) fun t103 =>
  aNewVar 89 [.val (.int .u32 0), .val (.int .u32 0), .val (.int .u32 0), .val (.int .u32 0), .val (.int .u32 0), .val (.int .u32 0), .val (.int .u32 0), .val (.int .u32 0)] σ_3 fun t11 σ_5 =>
  storeA 8 t11 t103 σ_5 fun u_2 σ_6 =>
  aLoop (fun go_2 vs_2 σ_7 =>
    At vs_2 0 fun s0_2 => At vs_2 1 fun s4_2 => At vs_2 2 fun s11 => At vs_2 3 fun s104 => Do (aBin Go.Proofs.Try.prog .lss 3 s104 (.val (.int .i64 64))) fun t105 =>
    aCond t105
      (Do (aIndexAddr (.array 8) 1 s11 (.val (.int .i64 0))) fun t107 =>
    Do (loadA false 1 t107 σ_7) fun t108 =>
    Do (aIndexAddr (.array 8) 1 s11 (.val (.int .i64 4))) fun t109 =>
    Do (loadA false 1 t109 σ_7) fun t110 =>
    Do (aIndexAddr (.array 8) 1 s11 (.val (.int .i64 7))) fun t111 =>
    Do (loadA false 1 t111 σ_7) fun t112 =>
    Do (aPureC Go.Proofs.Try.prog 76 [t110, (.val (.int .i64 (-6)))]) fun t114 =>
    Do (aPureC Go.Proofs.Try.prog 76 [t110, (.val (.int .i64 (-11)))]) fun t116 =>
    Do (aBin Go.Proofs.Try.prog .xor 79 t114 t116) fun t117 =>
    Do (aPureC Go.Proofs.Try.prog 76 [t110, (.val (.int .i64 (-25)))]) fun t119 =>
    Do (aBin Go.Proofs.Try.prog .xor 79 t117 t119) fun t120 =>
    Do (aBin Go.Proofs.Try.prog .add 79 t112 t120) fun t121 =>
    Do (aIndexAddr (.array 8) 1 s11 (.val (.int .i64 5))) fun t123 =>
    Do (loadA false 1 t123 σ_7) fun t124 =>
    Do (aBin Go.Proofs.Try.prog .and 79 t110 t124) fun t125 =>
    Do (aUn Go.Proofs.Try.prog .xor t110) fun t127 =>
    Do (aIndexAddr (.array 8) 1 s11 (.val (.int .i64 6))) fun t128 =>
    Do (loadA false 1 t128 σ_7) fun t129 =>
    Do (aBin Go.Proofs.Try.prog .and 79 t127 t129) fun t130 =>
    Do (aBin Go.Proofs.Try.prog .xor 79 t125 t130) fun t131 =>
    Do (aBin Go.Proofs.Try.prog .add 79 t121 t131) fun t132 =>
    Do (aNil s0_2) fun t135 =>
    Do (aFieldAddr 8 64 t135) fun t136 =>
    Do (aIndexAddr (.array 64) 1 t136 s104) fun t137 =>
    Do (loadA false 1 t137 σ_7) fun t138 =>
    Do (aBin Go.Proofs.Try.prog .add 79 t132 t138) fun t139 =>
    Do (aIndexAddr (.array 64) 1 s4_2 s104) fun t141 =>
    Do (loadA false 1 t141 σ_7) fun t142 =>
    Do (aBin Go.Proofs.Try.prog .add 79 t139 t142) fun t143 =>
    Do (aPureC Go.Proofs.Try.prog 76 [t108, (.val (.int .i64 (-2)))]) fun t145 =>
    Do (aPureC Go.Proofs.Try.prog 76 [t108, (.val (.int .i64 (-13)))]) fun t147 =>
    Do (aBin Go.Proofs.Try.prog .xor 79 t145 t147) fun t148 =>
    Do (aPureC Go.Proofs.Try.prog 76 [t108, (.val (.int .i64 (-22)))]) fun t150 =>
    Do (aBin Go.Proofs.Try.prog .xor 79 t148 t150) fun t151 =>
    Do (aIndexAddr (.array 8) 1 s11 (.val (.int .i64 1))) fun t153 =>
    Do (loadA false 1 t153 σ_7) fun t154 =>
    Do (aBin Go.Proofs.Try.prog .and 79 t108 t154) fun t155 =>
    Do (aIndexAddr (.array 8) 1 s11 (.val (.int .i64 2))) fun t157 =>
    Do (loadA false 1 t157 σ_7) fun t158 =>
    Do (aBin Go.Proofs.Try.prog .and 79 t108 t158) fun t159 =>
    Do (aBin Go.Proofs.Try.prog .xor 79 t155 t159) fun t160 =>
    Do (aIndexAddr (.array 8) 1 s11 (.val (.int .i64 1))) fun t161 =>
    Do (loadA false 1 t161 σ_7) fun t162 =>
    Do (aIndexAddr (.array 8) 1 s11 (.val (.int .i64 2))) fun t163 =>
    Do (loadA false 1 t163 σ_7) fun t164 =>
    Do (aBin Go.Proofs.Try.prog .and 79 t162 t164) fun t165 =>
    Do (aBin Go.Proofs.Try.prog .xor 79 t160 t165) fun t166 =>
    Do (aBin Go.Proofs.Try.prog .add 79 t151 t166) fun t167 =>
    Do (aBin Go.Proofs.Try.prog .add 79 t143 t167) fun t170 =>
    Do (aIndexAddr (.array 8) 1 s11 (.val (.int .i64 1))) fun t172 =>
    Do (loadA false 1 t172 σ_7) fun t173 =>
    Do (aIndexAddr (.array 8) 1 s11 (.val (.int .i64 2))) fun t174 =>
    Do (loadA false 1 t174 σ_7) fun t175 =>
    Do (aIndexAddr (.array 8) 1 s11 (.val (.int .i64 3))) fun t176 =>
    Do (loadA false 1 t176 σ_7) fun t177 =>
    Do (aBin Go.Proofs.Try.prog .add 79 t177 t143) fun t179 =>
    Do (aIndexAddr (.array 8) 1 s11 (.val (.int .i64 5))) fun t181 =>
    Do (loadA false 1 t181 σ_7) fun t182 =>
    Do (aIndexAddr (.array 8) 1 s11 (.val (.int .i64 6))) fun t183 =>
    Do (loadA false 1 t183 σ_7) fun t184 =>
    Do (aLit [.val (.int .u32 0), .val (.int .u32 0), .val (.int .u32 0), .val (.int .u32 0), .val (.int .u32 0), .val (.int .u32 0), .val (.int .u32 0), .val (.int .u32 0)] [(0, 1), (1, 1), (2, 1), (3, 1), (4, 1), (5, 1), (6, 1), (7, 1)] [(0, t170), (1, t108), (2, t173), (3, t175), (4, t179), (5, t110), (6, t182), (7, t184)]) fun t185 =>
    storeA 8 s11 t185 σ_7 fun u_3 σ_8 =>
    Do (aBin Go.Proofs.Try.prog .add 3 s104 (.val (.int .i64 1))) fun t186 =>
    go_2 [s0_2, s4_2, s11, t186] σ_8)
      (aLoop (fun go_3 vs_3 σ_9 =>
    At vs_3 0 fun s0_3 => At vs_3 1 fun s11_1 => At vs_3 2 fun s187 => Do (aBin Go.Proofs.Try.prog .lss 3 s187 (.val (.int .i64 8))) fun t188 =>
    aCond t188
      (Do (aNil s0_3) fun t192 =>
    Do (aFieldAddr 0 8 t192) fun t193 =>
    Do (aIndexAddr (.array 8) 1 t193 s187) fun t194 =>
    Do (loadA false 1 t194 σ_9) fun t195 =>
    Do (aIndexAddr (.array 8) 1 s11_1 s187) fun t197 =>
    Do (loadA false 1 t197 σ_9) fun t198 =>
    Do (aBin Go.Proofs.Try.prog .add 79 t195 t198) fun t199 =>
    Do (aNil s0_3) fun t200 =>
    Do (aFieldAddr 0 8 t200) fun t201 =>
    Do (aIndexAddr (.array 8) 1 t201 s187) fun t202 =>
    storeA 1 t202 t199 σ_9 fun u_4 σ_10 =>
    Do (aBin Go.Proofs.Try.prog .add 3 s187 (.val (.int .i64 1))) fun t203 =>
    go_3 [s0_3, s11_1, t203] σ_10)
      (Q (.ret (.tuple [])) σ_9))
    [s0_2, s11, (.val (.int .i64 0))] σ_7))
    [s0_1, s4_1, t11, (.val (.int .i64 0))] σ_6))
    [s0, s4, (.val (.int .i64 16))] σ_1))
    [a0, a1, t4, (.val (.int .i64 0))] σ
theorem sum_Hash_block.eq (a0 a1 : AV) (σ : Store) (Q : AEnd → Store → Prop) : vc (semOf Go.Proofs.Try.prog sum_Hash_block.mark) Go.Proofs.Try.f60.ntmps sum_Hash_block.ann (bodyOf Go.Proofs.Try.f60) (endK [] Q) (argFr [a0, a1]) σ = sum_Hash_block.sh a0 a1 σ Q := by kernel_rfl
theorem sum_Hash_block.go {a0 a1 : AV} {σ : Store} {Q : AEnd → Store → Prop} (h : sum_Hash_block.sh a0 a1 σ Q) : ACalls Go.Proofs.Try.prog 60 [a0, a1] σ Q :=
  acalls_of_eq [] Go.Proofs.Try.func60 (by kernel_rfl) (by kernel_rfl) (by kernel_rfl) (by kernel_rfl) (sum_Hash_block.eq a0 a1 σ Q) h
theorem set_sched {b : List UInt8} {t n : Nat} (h : t < n) (x : UInt32) (hx : x = (sched b (t + 1)).getD t 0) : (sched b t ++ List.replicate (n - t) 0).set t x = sched b (t + 1) ++ List.replicate (n - (t + 1)) 0 := by
  obtain ⟨m, hm⟩ : ∃ m, n - t = m + 1 := ⟨n - t - 1, by omega⟩
  rw [hm, show n - (t + 1) = m by omega, List.set_append_right _ _ (by rw [sched_length]; omega), sched_length, Nat.sub_self, List.replicate_succ, List.set_cons_zero]
  have e : sched b (t + 1) = sched b t ++ [x] := by
    rw [hx]
    conv => lhs; rw [sched]
    conv => rhs; rw [sched]
    rw [getD_app_r _ _ _ _ (by rw [sched_length]; omega), sched_length, Nat.sub_self]
    rfl
  rw [e]
  simp
theorem get_sched {b : List UInt8} {t j : Nat} (r : List UInt32) (h : j < t) : (sched b t ++ r).getD j default = (sched b t).getD j 0 := by
  rw [getD_app_l _ _ _ _ (by rw [sched_length]; exact h)]
  rfl
theorem sched_at (b : List UInt8) (t : Nat) : (sched b (t + 1)).getD t 0 = if t < 16 then be32 (b.getD (4 * t) 0) (b.getD (4 * t + 1) 0) (b.getD (4 * t + 2) 0) (b.getD (4 * t + 3) 0) else wNext (sched b t) := by
  conv => lhs; rw [sched]
  rw [getD_app_r _ _ _ _ (by rw [sched_length]; omega), sched_length, Nat.sub_self]
  rfl
/-- Words added, so far. -/
def addTo (h S : List UInt32) (i : Nat) : List UInt32 := addW (h.take i) (S.take i) ++ h.drop i
theorem addTo_length {h S : List UInt32} (hh : h.length = 8) (hS : S.length = 8) {i : Nat} (hi : i ≤ 8) : (addTo h S i).length = 8 := by
  simp [addTo, addW, hh, hS]; omega
theorem addTo_get {h S : List UInt32} (hh : h.length = 8) (hS : S.length = 8) {i : Nat} (hi : i < 8) : (addTo h S i).getD i default = h.getD i default := by
  have e : (addW (h.take i) (S.take i)).length = i := by simp [addW, hh, hS]; omega
  rw [addTo, getD_app_r _ _ _ _ (by omega), e, Nat.sub_self, drop_cons_d (by omega)]
  rfl
theorem addTo_set {h S : List UInt32} (hh : h.length = 8) (hS : S.length = 8) {i : Nat} (hi : i < 8) : (addTo h S i).set i ((addTo h S i).getD i default + S.getD i default) = addTo h S (i + 1) := by
  have e : (addW (h.take i) (S.take i)).length = i := by simp [addW, hh, hS]; omega
  rw [addTo_get hh hS hi, addTo, List.set_append_right _ _ (by omega), e, Nat.sub_self, drop_cons_d (show i < h.length by omega), List.set_cons_zero]
  rw [addTo, take_succ_d (show i < h.length by omega), take_succ_d (show i < S.length by omega)]
  unfold addW
  rw [List.zipWith_append (by simp [hh, hS])]
  simp
theorem addTo_all {h S : List UInt32} (hh : h.length = 8) (hS : S.length = 8) : addTo h S 8 = addW h S := by
  rw [addTo, List.take_of_length_le (by omega), List.take_of_length_le (by omega), List.drop_of_length_le (by omega), List.append_nil]
abbrev HT : TypeId := 94
set_option maxHeartbeats 1000000 in
theorem block_ok (b : Nat) (h : List UInt32) (p : List UInt8) (q : Nat) (s : UInt64) (hh : hsOk h shaK p) : ACalls Go.Proofs.Try.prog 60 [ptrAt b 0, .val (.slice (some ⟨b, 72, none⟩) 64 64)] [.var b HT (hsCs h shaK p q s)]
    fun x σ' => x = .ret (.tuple []) ∧ σ' = [.var b HT (hsCs (shaBlock h p) shaK p q s)] := by
  have h8 := hh.1
  refine ACalls.fin (sum_Hash_block.go ?_)
  unfold sum_Hash_block.sh
  repeat' (first | with_reducible apply Stp.go | with_reducible refine imp fun _ => ?_ | (with_reducible refine hyp ?_ ?_; first | assumption | exact leftT_mem (by assumption)) | (with_reducible refine need ?_ ?_; first | trivial | omega | exact ⟨by assumption, by omega⟩ | (simp only [List.length_append, List.length_cons, List.length_nil, List.length_map, List.length_take, List.length_drop, List.length_replicate, List.length_set]; omega)) | (with_reducible refine fact ?_ ?_; first | trivial | exact ⟨rfl, rfl⟩ | kernel_rfl) | with_reducible refine choT (by assumption) ?_ | with_reducible refine choF (by assumption) ?_ | with_reducible refine choF' (by assumption) ?_ | (with_reducible refine altT ?_ ?_; first | omega | (simp only [List.length_append, List.length_cons, List.length_nil, List.length_map, List.length_take, List.length_drop, List.length_replicate, List.length_set]; omega)) | with_reducible refine altF ?_ | with_reducible refine all fun _ => ?_ | with_reducible refine both ?_ ?_ | (with_reducible refine choT ?_ ?_; omega) | (with_reducible refine choF ?_ ?_; omega) | with_reducible refine cho (fun _ => ?_) (fun _ => ?_))
  rename_i w
  refine loopI (β := Nat) (fun t => t ≤ 16) (fun t => [ptrAt b 0, .val (.slice (some ⟨b, 72, none⟩) 64 64), ptrAt w 0, I .i64 (t : Nat)]) (fun t => [.var w 90 ((sched p t ++ List.replicate (64 - t) 0).map wrd), .var b HT (hsCs h shaK p q s)]) (fun t => 16 - t) 0 (Nat.zero_le _) (Sub.refl _ _) ?_
  intro t ht
  by_cases hlt : t < 16
  · have hlen : (sched p t ++ List.replicate (64 - t) 0).length = 64 := by simp [sched_length]; omega
    repeat' (first | with_reducible apply Stp.go | with_reducible refine imp fun _ => ?_ | (with_reducible refine hyp ?_ ?_; first | assumption | exact leftT_mem (by assumption)) | (with_reducible refine need ?_ ?_; first | trivial | omega | exact ⟨by assumption, by omega⟩ | (simp only [List.length_append, List.length_cons, List.length_nil, List.length_map, List.length_take, List.length_drop, List.length_replicate, List.length_set]; omega)) | (with_reducible refine fact ?_ ?_; first | trivial | exact ⟨rfl, rfl⟩ | kernel_rfl) | with_reducible refine choT (by assumption) ?_ | with_reducible refine choF (by assumption) ?_ | with_reducible refine choF' (by assumption) ?_ | (with_reducible refine altT ?_ ?_; first | omega | (simp only [List.length_append, List.length_cons, List.length_nil, List.length_map, List.length_take, List.length_drop, List.length_replicate, List.length_set]; omega)) | with_reducible refine altF ?_ | with_reducible refine all fun _ => ?_ | with_reducible refine both ?_ ?_ | (with_reducible refine choT ?_ ?_; omega) | (with_reducible refine choF ?_ ?_; omega) | with_reducible refine cho (fun _ => ?_) (fun _ => ?_))
    refine again (t + 1) (by omega) (by omega) ?_
    rw [set_sched (n := 64) (by omega) _ (by rw [sched_at, if_pos hlt]; exact be32_or _ _ _ _)]
    exact Sub.refl _ _
  · have e : t = 16 := by omega
    subst e
    repeat' (first | with_reducible apply Stp.go | with_reducible refine imp fun _ => ?_ | (with_reducible refine hyp ?_ ?_; first | assumption | exact leftT_mem (by assumption)) | (with_reducible refine need ?_ ?_; first | trivial | omega | exact ⟨by assumption, by omega⟩ | (simp only [List.length_append, List.length_cons, List.length_nil, List.length_map, List.length_take, List.length_drop, List.length_replicate, List.length_set]; omega)) | (with_reducible refine fact ?_ ?_; first | trivial | exact ⟨rfl, rfl⟩ | kernel_rfl) | with_reducible refine choT (by assumption) ?_ | with_reducible refine choF (by assumption) ?_ | with_reducible refine choF' (by assumption) ?_ | (with_reducible refine altT ?_ ?_; first | omega | (simp only [List.length_append, List.length_cons, List.length_nil, List.length_map, List.length_take, List.length_drop, List.length_replicate, List.length_set]; omega)) | with_reducible refine altF ?_ | with_reducible refine all fun _ => ?_ | with_reducible refine both ?_ ?_ | (with_reducible refine choT ?_ ?_; omega) | (with_reducible refine choF ?_ ?_; omega) | with_reducible refine cho (fun _ => ?_) (fun _ => ?_))
    refine loopI (β := Nat) (fun t => 16 ≤ t ∧ t ≤ 64) (fun t => [ptrAt b 0, ptrAt w 0, I .i64 (t : Nat)]) (fun t => [.var w 90 ((sched p t ++ List.replicate (64 - t) 0).map wrd), .var b HT (hsCs h shaK p q s)]) (fun t => 64 - t) 16 (by decide) (Sub.refl _ _) ?_
    rintro t ⟨ht0, ht1⟩
    by_cases hlt : t < 64
    · have hlen : (sched p t ++ List.replicate (64 - t) 0).length = 64 := by simp [sched_length]; omega
      repeat' (first | with_reducible apply Stp.go | with_reducible refine imp fun _ => ?_ | (with_reducible refine hyp ?_ ?_; first | assumption | exact leftT_mem (by assumption)) | (with_reducible refine need ?_ ?_; first | trivial | omega | exact ⟨by assumption, by omega⟩ | (simp only [List.length_append, List.length_cons, List.length_nil, List.length_map, List.length_take, List.length_drop, List.length_replicate, List.length_set]; omega)) | (with_reducible refine fact ?_ ?_; first | trivial | exact ⟨rfl, rfl⟩ | kernel_rfl) | with_reducible refine choT (by assumption) ?_ | with_reducible refine choF (by assumption) ?_ | with_reducible refine choF' (by assumption) ?_ | (with_reducible refine altT ?_ ?_; first | omega | (simp only [List.length_append, List.length_cons, List.length_nil, List.length_map, List.length_take, List.length_drop, List.length_replicate, List.length_set]; omega)) | with_reducible refine altF ?_ | with_reducible refine all fun _ => ?_ | with_reducible refine both ?_ ?_ | (with_reducible refine choT ?_ ?_; omega) | (with_reducible refine choF ?_ ?_; omega) | with_reducible refine cho (fun _ => ?_) (fun _ => ?_))
      refine again (t + 1) (by omega) ⟨by omega, by omega⟩ ?_
      rw [get_sched _ (show t - 15 < t by omega), get_sched _ (show t - 2 < t by omega), get_sched _ (show t - 7 < t by omega), get_sched _ (show t - 16 < t by omega)]
      rw [set_sched (n := 64) (by omega) _ (by
        rw [sched_at, if_neg (by omega)]
        unfold wNext
        rw [sched_length])]
      exact Sub.refl _ _
    · have e : t = 64 := by omega
      subst e
      have e : sched p 64 ++ List.replicate (64 - 64) 0 = sched p 64 := by simp
      rw [e]
      have hl64 : (sched p 64).length = 64 := sched_length _ _
      obtain ⟨W, hW⟩ : ∃ W, W = sched p 64 := ⟨_, rfl⟩
      rw [← hW] at hl64 ⊢
      repeat' (first | with_reducible apply Stp.go | with_reducible refine imp fun _ => ?_ | (with_reducible refine hyp ?_ ?_; first | assumption | exact leftT_mem (by assumption)) | (with_reducible refine need ?_ ?_; first | trivial | omega | exact ⟨by assumption, by omega⟩ | (simp only [List.length_append, List.length_cons, List.length_nil, List.length_map, List.length_take, List.length_drop, List.length_replicate, List.length_set]; omega)) | (with_reducible refine fact ?_ ?_; first | trivial | exact ⟨rfl, rfl⟩ | kernel_rfl) | with_reducible refine choT (by assumption) ?_ | with_reducible refine choF (by assumption) ?_ | with_reducible refine choF' (by assumption) ?_ | (with_reducible refine altT ?_ ?_; first | omega | (simp only [List.length_append, List.length_cons, List.length_nil, List.length_map, List.length_take, List.length_drop, List.length_replicate, List.length_set]; omega)) | with_reducible refine altF ?_ | with_reducible refine all fun _ => ?_ | with_reducible refine both ?_ ?_ | (with_reducible refine choT ?_ ?_; omega) | (with_reducible refine choF ?_ ?_; omega) | with_reducible refine cho (fun _ => ?_) (fun _ => ?_))
      rename_i v
      refine loopI (β := Nat) (fun t => t ≤ 64) (fun t => [ptrAt b 0, ptrAt w 0, ptrAt v 0, I .i64 (t : Nat)]) (fun t => [.var v 89 ((shaRounds W h t).map wrd), .var w 90 (W.map wrd), .var b HT (hsCs h shaK p q s)]) (fun t => 64 - t) 0 (Nat.zero_le _) (Sub.refl _ _) ?_
      intro t ht
      have hr8 := shaRounds_length W hh.1 t
      by_cases hlt : t < 64
      · repeat' (first | with_reducible apply Stp.go | with_reducible refine imp fun _ => ?_ | (with_reducible refine hyp ?_ ?_; first | assumption | exact leftT_mem (by assumption)) | (with_reducible refine need ?_ ?_; first | trivial | omega | exact ⟨by assumption, by omega⟩ | (simp only [List.length_append, List.length_cons, List.length_nil, List.length_map, List.length_take, List.length_drop, List.length_replicate, List.length_set]; omega)) | (with_reducible refine fact ?_ ?_; first | trivial | exact ⟨rfl, rfl⟩ | kernel_rfl) | with_reducible refine choT (by assumption) ?_ | with_reducible refine choF (by assumption) ?_ | with_reducible refine choF' (by assumption) ?_ | (with_reducible refine altT ?_ ?_; first | omega | (simp only [List.length_append, List.length_cons, List.length_nil, List.length_map, List.length_take, List.length_drop, List.length_replicate, List.length_set]; omega)) | with_reducible refine altF ?_ | with_reducible refine all fun _ => ?_ | with_reducible refine both ?_ ?_ | (with_reducible refine choT ?_ ?_; omega) | (with_reducible refine choF ?_ ?_; omega) | with_reducible refine cho (fun _ => ?_) (fun _ => ?_))
        refine need ⟨hr8, rfl⟩ ?_
        repeat' (first | with_reducible apply Stp.go | with_reducible refine imp fun _ => ?_ | (with_reducible refine hyp ?_ ?_; first | assumption | exact leftT_mem (by assumption)) | (with_reducible refine need ?_ ?_; first | trivial | omega | exact ⟨by assumption, by omega⟩ | (simp only [List.length_append, List.length_cons, List.length_nil, List.length_map, List.length_take, List.length_drop, List.length_replicate, List.length_set]; omega)) | (with_reducible refine fact ?_ ?_; first | trivial | exact ⟨rfl, rfl⟩ | kernel_rfl) | with_reducible refine choT (by assumption) ?_ | with_reducible refine choF (by assumption) ?_ | with_reducible refine choF' (by assumption) ?_ | (with_reducible refine altT ?_ ?_; first | omega | (simp only [List.length_append, List.length_cons, List.length_nil, List.length_map, List.length_take, List.length_drop, List.length_replicate, List.length_set]; omega)) | with_reducible refine altF ?_ | with_reducible refine all fun _ => ?_ | with_reducible refine both ?_ ?_ | (with_reducible refine choT ?_ ?_; omega) | (with_reducible refine choF ?_ ?_; omega) | with_reducible refine cho (fun _ => ?_) (fun _ => ?_))
        refine again (t + 1) (by omega) (by omega) ?_
        exact Sub.refl _ _
      · have e : t = 64 := by omega
        subst e
        obtain ⟨S, hS⟩ : ∃ S, S = shaRounds W h 64 := ⟨_, rfl⟩
        rw [← hS] at hr8 ⊢
        repeat' (first | with_reducible apply Stp.go | with_reducible refine imp fun _ => ?_ | (with_reducible refine hyp ?_ ?_; first | assumption | exact leftT_mem (by assumption)) | (with_reducible refine need ?_ ?_; first | trivial | omega | exact ⟨by assumption, by omega⟩ | (simp only [List.length_append, List.length_cons, List.length_nil, List.length_map, List.length_take, List.length_drop, List.length_replicate, List.length_set]; omega)) | (with_reducible refine fact ?_ ?_; first | trivial | exact ⟨rfl, rfl⟩ | kernel_rfl) | with_reducible refine choT (by assumption) ?_ | with_reducible refine choF (by assumption) ?_ | with_reducible refine choF' (by assumption) ?_ | (with_reducible refine altT ?_ ?_; first | omega | (simp only [List.length_append, List.length_cons, List.length_nil, List.length_map, List.length_take, List.length_drop, List.length_replicate, List.length_set]; omega)) | with_reducible refine altF ?_ | with_reducible refine all fun _ => ?_ | with_reducible refine both ?_ ?_ | (with_reducible refine choT ?_ ?_; omega) | (with_reducible refine choF ?_ ?_; omega) | with_reducible refine cho (fun _ => ?_) (fun _ => ?_))
        refine loopI (β := Nat) (fun i => i ≤ 8) (fun i => [ptrAt b 0, ptrAt v 0, I .i64 (i : Nat)]) (fun i => [.var v 89 (S.map wrd), .var w 90 (W.map wrd), .var b HT (hsCs (addTo h S i) shaK p q s)]) (fun i => 8 - i) 0 (Nat.zero_le _) (Sub.refl _ _) ?_
        intro i hi
        have hh2 : hsOk (addTo h S i) shaK p := ⟨addTo_length hh.1 hr8 hi, hh.2⟩
        by_cases hlt : i < 8
        · repeat' (first | with_reducible apply Stp.go | with_reducible refine imp fun _ => ?_ | (with_reducible refine hyp ?_ ?_; first | assumption | exact leftT_mem (by assumption)) | (with_reducible refine need ?_ ?_; first | trivial | omega | exact ⟨by assumption, by omega⟩ | (simp only [List.length_append, List.length_cons, List.length_nil, List.length_map, List.length_take, List.length_drop, List.length_replicate, List.length_set]; omega)) | (with_reducible refine fact ?_ ?_; first | trivial | exact ⟨rfl, rfl⟩ | kernel_rfl) | with_reducible refine choT (by assumption) ?_ | with_reducible refine choF (by assumption) ?_ | with_reducible refine choF' (by assumption) ?_ | (with_reducible refine altT ?_ ?_; first | omega | (simp only [List.length_append, List.length_cons, List.length_nil, List.length_map, List.length_take, List.length_drop, List.length_replicate, List.length_set]; omega)) | with_reducible refine altF ?_ | with_reducible refine all fun _ => ?_ | with_reducible refine both ?_ ?_ | (with_reducible refine choT ?_ ?_; omega) | (with_reducible refine choF ?_ ?_; omega) | with_reducible refine cho (fun _ => ?_) (fun _ => ?_))
          refine again (i + 1) (by omega) (by omega) ?_
          rw [addTo_set hh.1 hr8 hlt]
          exact Sub.refl _ _
        · have e : i = 8 := by omega
          subst e
          repeat' (first | with_reducible apply Stp.go | with_reducible refine imp fun _ => ?_ | (with_reducible refine hyp ?_ ?_; first | assumption | exact leftT_mem (by assumption)) | (with_reducible refine need ?_ ?_; first | trivial | omega | exact ⟨by assumption, by omega⟩ | (simp only [List.length_append, List.length_cons, List.length_nil, List.length_map, List.length_take, List.length_drop, List.length_replicate, List.length_set]; omega)) | (with_reducible refine fact ?_ ?_; first | trivial | exact ⟨rfl, rfl⟩ | kernel_rfl) | with_reducible refine choT (by assumption) ?_ | with_reducible refine choF (by assumption) ?_ | with_reducible refine choF' (by assumption) ?_ | (with_reducible refine altT ?_ ?_; first | omega | (simp only [List.length_append, List.length_cons, List.length_nil, List.length_map, List.length_take, List.length_drop, List.length_replicate, List.length_set]; omega)) | with_reducible refine altF ?_ | with_reducible refine all fun _ => ?_ | with_reducible refine both ?_ ?_ | (with_reducible refine choT ?_ ?_; omega) | (with_reducible refine choF ?_ ?_; omega) | with_reducible refine cho (fun _ => ?_) (fun _ => ?_))
          refine ⟨_, _, _, rfl, subS (τ := [.var b HT (hsCs (addTo h S 8) shaK p q s)]) _, rfl, ?_⟩
          rw [addTo_all hh.1 hr8, hS, hW]
          rfl
end Go.Ab

/- A sum's bytes one by one; bits put to zero one by one. No program in sight. -/
set_option linter.unusedVariables false
set_option linter.unusedSimpArgs false
namespace Go.Ab
theorem by32_get (v : UInt32) {k : Nat} (hk : k < 4) : (by32 v).getD k default = UInt8.ofNat (v >>> UInt32.ofNat (24 - 8 * k)).toNat := by
  have hs : ∀ n, n < 32 → (v >>> UInt32.ofNat n).toNat = v.toNat / 2 ^ n := by
    intro n hn
    have e : (UInt32.ofNat n).toNat = n := by rw [UInt32.toNat_ofNat']; exact Nat.mod_eq_of_lt (by omega)
    rw [UInt32.toNat_shiftRight, e, Nat.mod_eq_of_lt hn, Nat.shiftRight_eq_div_pow]
  rw [hs _ (by omega)]
  match k, hk with
  | 0, _ => rfl
  | 1, _ => rfl
  | 2, _ => rfl
  | 3, _ => show UInt8.ofNat v.toNat = UInt8.ofNat (v.toNat / 2 ^ 0); rw [Nat.pow_zero, Nat.div_one]
theorem shaOut_get : ∀ (H : List UInt32) (i : Nat), i < 4 * H.length → (shaOut H).getD i default = UInt8.ofNat ((H.getD (i / 4) default) >>> UInt32.ofNat (24 - 8 * (i % 4))).toNat
  | [], i, h => by simp at h
  | v :: H, i, h => by
    have e : shaOut (v :: H) = by32 v ++ shaOut H := by simp [shaOut]
    have h4 : (by32 v).length = 4 := rfl
    by_cases hi : i < 4
    · rw [e, getD_app_l _ _ _ _ (by omega), by32_get v hi, Nat.div_eq_of_lt hi, Nat.mod_eq_of_lt hi]
      rfl
    · obtain ⟨j, rfl⟩ : ∃ j, i = j + 4 := ⟨i - 4, by omega⟩
      rw [e, getD_app_r _ _ _ _ (by omega), h4, Nat.add_sub_cancel, shaOut_get H j (by simp at h; omega), show (j + 4) / 4 = j / 4 + 1 by omega, show (j + 4) % 4 = j % 4 by omega]
      rfl
/-- A sum's bytes, so far, one by one. -/
def outB (H : List UInt32) (i : Nat) : List UInt8 := (shaOut H).take i ++ List.replicate (32 - i) 0
theorem outB_length {H : List UInt32} (hH : H.length = 8) {i : Nat} (hi : i ≤ 32) : (outB H i).length = 32 := by
  simp [outB, shaOut_length, hH]; omega
theorem outB_set {H : List UInt32} (hH : H.length = 8) {i : Nat} (hi : i < 32) : (outB H i).set i (UInt8.ofNat ((H.getD (i / 4) default) >>> UInt32.ofNat (24 - 8 * (i % 4))).toNat) = outB H (i + 1) := by
  have hl := shaOut_length H
  have hs : (shaOut H).take (i + 1) = (shaOut H).take i ++ [(shaOut H).getD i default] := by
    rw [List.take_add_one, List.getD_eq_getElem?_getD, List.getElem?_eq_getElem (by omega)]; rfl
  have h2 : ((shaOut H).take i).length = i := by rw [List.length_take]; omega
  rw [← shaOut_get H i (by omega), outB, outB, hs, List.set_append_right _ _ (by omega), h2, Nat.sub_self, show 32 - i = (32 - (i + 1)) + 1 by omega, List.replicate_succ, List.set_cons_zero, List.append_assoc]
  rfl
end Go.Ab

/- The document's sum of a text. -/
set_option linter.unusedVariables false
set_option linter.unusedSimpArgs false
namespace Go.Ab
/-- Thirty-two zeros. -/
instance (priority := 1300) litZr32 {offs : List (Nat × Nat)} {K : AV → Prop} : Stp (Do (aLit ([.val (.int .u8 0), .val (.int .u8 0), .val (.int .u8 0), .val (.int .u8 0), .val (.int .u8 0), .val (.int .u8 0), .val (.int .u8 0), .val (.int .u8 0), .val (.int .u8 0), .val (.int .u8 0), .val (.int .u8 0), .val (.int .u8 0), .val (.int .u8 0), .val (.int .u8 0), .val (.int .u8 0), .val (.int .u8 0), .val (.int .u8 0), .val (.int .u8 0), .val (.int .u8 0), .val (.int .u8 0), .val (.int .u8 0), .val (.int .u8 0), .val (.int .u8 0), .val (.int .u8 0), .val (.int .u8 0), .val (.int .u8 0), .val (.int .u8 0), .val (.int .u8 0), .val (.int .u8 0), .val (.int .u8 0), .val (.int .u8 0), .val (.int .u8 0)]) offs []) K) (K (.agg ((List.replicate 32 (0 : UInt8)).map byt))) := ⟨fun hK => ⟨_, ⟨fun p hp => by simp at hp, (List.replicate 32 (0 : UInt8)).map byt, rfl, rfl⟩, hK⟩⟩
def ref02_Of.mark : Mark := ⟨fun t => Nat.beq t 20 || Nat.beq t 22 || Nat.beq t 34 || Nat.beq t 46 || Nat.beq t 50 || Nat.beq t 55 || Nat.beq t 93 || Nat.beq t 97 || Nat.beq t 102, fun t => Nat.beq t 19 || Nat.beq t 35 || Nat.beq t 156, fun t => false, fun t => false, fun t => false⟩
def ref02_Of.ann : Ann := ⟨fun n => bif Nat.beq n 5 then [2, 3, 4, 5, 6] else bif Nat.beq n 11 then [2, 3, 4, 5, 6, 7, 8, 9] else bif Nat.beq n 21 then [2, 3, 4, 5, 6, 8, 16] else bif Nat.beq n 26 then [2, 3, 17, 18] else [], fun n => none, fun n => none⟩
/-- 'marlstone/marlstoneref02.Of' -/
def ref02_Of.sh (a0 : AV) (σ : Store) (Q : AEnd → Store → Prop) : Prop :=
  aNewVar 45 [.val (.int .u8 0), .val (.int .u8 0), .val (.int .u8 0), .val (.int .u8 0), .val (.int .u8 0), .val (.int .u8 0), .val (.int .u8 0), .val (.int .u8 0), .val (.int .u8 0), .val (.int .u8 0), .val (.int .u8 0), .val (.int .u8 0), .val (.int .u8 0), .val (.int .u8 0), .val (.int .u8 0), .val (.int .u8 0), .val (.int .u8 0), .val (.int .u8 0), .val (.int .u8 0), .val (.int .u8 0), .val (.int .u8 0), .val (.int .u8 0), .val (.int .u8 0), .val (.int .u8 0), .val (.int .u8 0), .val (.int .u8 0), .val (.int .u8 0), .val (.int .u8 0), .val (.int .u8 0), .val (.int .u8 0), .val (.int .u8 0), .val (.int .u8 0)] σ fun t2 σ =>
  aRowL 79 (mkE [.val (.int .u32 0)]) 1 8 [(0, (W32 1779033703)), (1, (W32 3144134277)), (2, (W32 1013904242)), (3, (W32 2773480762)), (4, (W32 1359893119)), (5, (W32 2600822924)), (6, (W32 528734635)), (7, (W32 1541459225))] σ fun t19 σ_1 =>
  Do (aPureC Go.Proofs.Try.prog 51 []) fun t20 =>
  Do (aPureC Go.Proofs.Try.prog 52 [a0]) fun t22 =>
  aLoop (fun go vs σ_2 =>
    At vs 0 fun s2 => At vs 1 fun s3 => At vs 2 fun s4 => At vs 3 fun s5 => At vs 4 fun s6 => Do (aBuiltin Go.Proofs.Try.prog .len #[27] [s5]) fun t25 =>
    Do (aBin Go.Proofs.Try.prog .lss 3 s6 t25) fun t26 =>
    aCond t26
      (Do (aBin Go.Proofs.Try.prog .add 3 s6 (.val (.int .i64 64))) fun t32 =>
    Do (aSlice .slice 1 s5 (some s6) (some t32) none) fun t33 =>
    Do (aPureC Go.Proofs.Try.prog 53 [t33]) fun t34 =>
    aRowL 79 (mkE [.val (.int .u32 0)]) 1 0 [] σ_2 fun t35 σ_3 =>
    aAppend 79 1 4 t35 s3 σ_3 (subK fun t38 σ_4 =>
    aLoop (fun go_1 vs_1 σ_5 =>
      At vs_1 0 fun s2_1 => At vs_1 1 fun s3_1 => At vs_1 2 fun s4_1 => At vs_1 3 fun s5_1 => At vs_1 4 fun s6_1 => At vs_1 5 fun s7 => At vs_1 6 fun s8 => At vs_1 7 fun s9 => Do (aBin Go.Proofs.Try.prog .lss 3 s9 (.val (.int .i64 64))) fun t40 =>
      aCond t40
        (Do (aIndexAddr .slice 1 s8 (.val (.int .i64 4))) fun t44 =>
      Do (loadA false 1 t44 σ_5) fun t45 =>
      Do (aPureC Go.Proofs.Try.prog 54 [t45, (.val (.int .i64 6))]) fun t46 =>
      Do (aIndexAddr .slice 1 s8 (.val (.int .i64 4))) fun t48 =>
      Do (loadA false 1 t48 σ_5) fun t49 =>
      Do (aPureC Go.Proofs.Try.prog 54 [t49, (.val (.int .i64 11))]) fun t50 =>
      Do (aBin Go.Proofs.Try.prog .xor 79 t46 t50) fun t51 =>
      Do (aIndexAddr .slice 1 s8 (.val (.int .i64 4))) fun t53 =>
      Do (loadA false 1 t53 σ_5) fun t54 =>
      Do (aPureC Go.Proofs.Try.prog 54 [t54, (.val (.int .i64 25))]) fun t55 =>
      Do (aBin Go.Proofs.Try.prog .xor 79 t51 t55) fun t56 =>
      Do (aIndexAddr .slice 1 s8 (.val (.int .i64 4))) fun t58 =>
      Do (loadA false 1 t58 σ_5) fun t59 =>
      Do (aIndexAddr .slice 1 s8 (.val (.int .i64 5))) fun t61 =>
      Do (loadA false 1 t61 σ_5) fun t62 =>
      Do (aBin Go.Proofs.Try.prog .and 79 t59 t62) fun t63 =>
      Do (aIndexAddr .slice 1 s8 (.val (.int .i64 4))) fun t65 =>
      Do (loadA false 1 t65 σ_5) fun t66 =>
      Do (aUn Go.Proofs.Try.prog .xor t66) fun t67 =>
      Do (aIndexAddr .slice 1 s8 (.val (.int .i64 6))) fun t69 =>
      Do (loadA false 1 t69 σ_5) fun t70 =>
      Do (aBin Go.Proofs.Try.prog .and 79 t67 t70) fun t71 =>
      Do (aBin Go.Proofs.Try.prog .xor 79 t63 t71) fun t72 =>
      Do (aIndexAddr .slice 1 s8 (.val (.int .i64 7))) fun t74 =>
      Do (loadA false 1 t74 σ_5) fun t75 =>
      Do (aBin Go.Proofs.Try.prog .add 79 t75 t56) fun t77 =>
      Do (aBin Go.Proofs.Try.prog .add 79 t77 t72) fun t79 =>
      Do (aIndexAddr .slice 1 s4_1 s9) fun t82 =>
      Do (loadA false 1 t82 σ_5) fun t83 =>
      Do (aBin Go.Proofs.Try.prog .add 79 t79 t83) fun t84 =>
      Do (aIndexAddr .slice 1 s7 s9) fun t87 =>
      Do (loadA false 1 t87 σ_5) fun t88 =>
      Do (aBin Go.Proofs.Try.prog .add 79 t84 t88) fun t89 =>
      Do (aIndexAddr .slice 1 s8 (.val (.int .i64 0))) fun t91 =>
      Do (loadA false 1 t91 σ_5) fun t92 =>
      Do (aPureC Go.Proofs.Try.prog 54 [t92, (.val (.int .i64 2))]) fun t93 =>
      Do (aIndexAddr .slice 1 s8 (.val (.int .i64 0))) fun t95 =>
      Do (loadA false 1 t95 σ_5) fun t96 =>
      Do (aPureC Go.Proofs.Try.prog 54 [t96, (.val (.int .i64 13))]) fun t97 =>
      Do (aBin Go.Proofs.Try.prog .xor 79 t93 t97) fun t98 =>
      Do (aIndexAddr .slice 1 s8 (.val (.int .i64 0))) fun t100 =>
      Do (loadA false 1 t100 σ_5) fun t101 =>
      Do (aPureC Go.Proofs.Try.prog 54 [t101, (.val (.int .i64 22))]) fun t102 =>
      Do (aBin Go.Proofs.Try.prog .xor 79 t98 t102) fun t103 =>
      Do (aIndexAddr .slice 1 s8 (.val (.int .i64 0))) fun t105 =>
      Do (loadA false 1 t105 σ_5) fun t106 =>
      Do (aIndexAddr .slice 1 s8 (.val (.int .i64 1))) fun t108 =>
      Do (loadA false 1 t108 σ_5) fun t109 =>
      Do (aBin Go.Proofs.Try.prog .and 79 t106 t109) fun t110 =>
      Do (aIndexAddr .slice 1 s8 (.val (.int .i64 0))) fun t112 =>
      Do (loadA false 1 t112 σ_5) fun t113 =>
      Do (aIndexAddr .slice 1 s8 (.val (.int .i64 2))) fun t115 =>
      Do (loadA false 1 t115 σ_5) fun t116 =>
      Do (aBin Go.Proofs.Try.prog .and 79 t113 t116) fun t117 =>
      Do (aBin Go.Proofs.Try.prog .xor 79 t110 t117) fun t118 =>
      Do (aIndexAddr .slice 1 s8 (.val (.int .i64 1))) fun t120 =>
      Do (loadA false 1 t120 σ_5) fun t121 =>
      Do (aIndexAddr .slice 1 s8 (.val (.int .i64 2))) fun t123 =>
      Do (loadA false 1 t123 σ_5) fun t124 =>
      Do (aBin Go.Proofs.Try.prog .and 79 t121 t124) fun t125 =>
      Do (aBin Go.Proofs.Try.prog .xor 79 t118 t125) fun t126 =>
      Do (aBin Go.Proofs.Try.prog .add 79 t103 t126) fun t129 =>
      Do (aBin Go.Proofs.Try.prog .add 79 t89 t129) fun t132 =>
      Do (aIndexAddr .slice 1 s8 (.val (.int .i64 0))) fun t134 =>
      Do (loadA false 1 t134 σ_5) fun t135 =>
      Do (aIndexAddr .slice 1 s8 (.val (.int .i64 1))) fun t137 =>
      Do (loadA false 1 t137 σ_5) fun t138 =>
      Do (aIndexAddr .slice 1 s8 (.val (.int .i64 2))) fun t140 =>
      Do (loadA false 1 t140 σ_5) fun t141 =>
      Do (aIndexAddr .slice 1 s8 (.val (.int .i64 3))) fun t143 =>
      Do (aIndexAddr .slice 1 s8 (.val (.int .i64 4))) fun t148 =>
      Do (loadA false 1 t148 σ_5) fun t149 =>
      Do (aIndexAddr .slice 1 s8 (.val (.int .i64 5))) fun t151 =>
      Do (loadA false 1 t151 σ_5) fun t152 =>
      Do (aIndexAddr .slice 1 s8 (.val (.int .i64 6))) fun t154 =>
      Do (loadA false 1 t154 σ_5) fun t155 =>
      Do (loadA false 1 t143 σ_5) fun t144 =>
      Do (aBin Go.Proofs.Try.prog .add 79 t144 t89) fun t146 =>
      aRowL 79 (mkE [.val (.int .u32 0)]) 1 8 [(0, t132), (1, t135), (2, t138), (3, t141), (4, t146), (5, t149), (6, t152), (7, t155)] σ_5 fun t156 σ_6 =>
      Do (aBin Go.Proofs.Try.prog .add 3 s9 (.val (.int .i64 1))) fun t42 =>
      go_1 [s2_1, s3_1, s4_1, s5_1, s6_1, s7, t156, t42] σ_6)
        (aLoop (fun go_2 vs_2 σ_7 =>
      At vs_2 0 fun s2_2 => At vs_2 1 fun s3_2 => At vs_2 2 fun s4_2 => At vs_2 3 fun s5_2 => At vs_2 4 fun s6_2 => At vs_2 5 fun s8_1 => At vs_2 6 fun s16 => Do (aBin Go.Proofs.Try.prog .lss 3 s16 (.val (.int .i64 8))) fun t158 =>
      aCond t158
        (Do (aIndexAddr .slice 1 s3_2 s16) fun t165 =>
      Do (loadA false 1 t165 σ_7) fun t166 =>
      Do (aIndexAddr .slice 1 s8_1 s16) fun t169 =>
      Do (loadA false 1 t169 σ_7) fun t170 =>
      Do (aBin Go.Proofs.Try.prog .add 79 t166 t170) fun t171 =>
      Do (aIndexAddr .slice 1 s3_2 s16) fun t172 =>
      storeA 1 t172 t171 σ_7 fun u σ_8 =>
      Do (aBin Go.Proofs.Try.prog .add 3 s16 (.val (.int .i64 1))) fun t160 =>
      go_2 [s2_2, s3_2, s4_2, s5_2, s6_2, s8_1, t160] σ_8)
        (Do (aBin Go.Proofs.Try.prog .add 3 s6_2 (.val (.int .i64 64))) fun t28 =>
    go [s2_2, s3_2, s4_2, s5_2, t28] σ_7))
      [s2_1, s3_1, s4_1, s5_1, s6_1, s8, (.val (.int .i64 0))] σ_5))
      [s2, s3, s4, s5, s6, t34, t38, (.val (.int .i64 0))] σ_4))
      (Do (aLit [.val (.int .u8 0), .val (.int .u8 0), .val (.int .u8 0), .val (.int .u8 0), .val (.int .u8 0), .val (.int .u8 0), .val (.int .u8 0), .val (.int .u8 0), .val (.int .u8 0), .val (.int .u8 0), .val (.int .u8 0), .val (.int .u8 0), .val (.int .u8 0), .val (.int .u8 0), .val (.int .u8 0), .val (.int .u8 0), .val (.int .u8 0), .val (.int .u8 0), .val (.int .u8 0), .val (.int .u8 0), .val (.int .u8 0), .val (.int .u8 0), .val (.int .u8 0), .val (.int .u8 0), .val (.int .u8 0), .val (.int .u8 0), .val (.int .u8 0), .val (.int .u8 0), .val (.int .u8 0), .val (.int .u8 0), .val (.int .u8 0), .val (.int .u8 0)] [(0, 1), (1, 1), (2, 1), (3, 1), (4, 1), (5, 1), (6, 1), (7, 1), (8, 1), (9, 1), (10, 1), (11, 1), (12, 1), (13, 1), (14, 1), (15, 1), (16, 1), (17, 1), (18, 1), (19, 1), (20, 1), (21, 1), (22, 1), (23, 1), (24, 1), (25, 1), (26, 1), (27, 1), (28, 1), (29, 1), (30, 1), (31, 1)] []) fun t173 =>
  aNewVar 45 [.val (.int .u8 0), .val (.int .u8 0), .val (.int .u8 0), .val (.int .u8 0), .val (.int .u8 0), .val (.int .u8 0), .val (.int .u8 0), .val (.int .u8 0), .val (.int .u8 0), .val (.int .u8 0), .val (.int .u8 0), .val (.int .u8 0), .val (.int .u8 0), .val (.int .u8 0), .val (.int .u8 0), .val (.int .u8 0), .val (.int .u8 0), .val (.int .u8 0), .val (.int .u8 0), .val (.int .u8 0), .val (.int .u8 0), .val (.int .u8 0), .val (.int .u8 0), .val (.int .u8 0), .val (.int .u8 0), .val (.int .u8 0), .val (.int .u8 0), .val (.int .u8 0), .val (.int .u8 0), .val (.int .u8 0), .val (.int .u8 0), .val (.int .u8 0)] σ_2 fun t17 σ_9 =>
  storeA 32 t17 t173 σ_9 fun u_1 σ_10 =>
  aLoop (fun go_3 vs_3 σ_11 =>
    At vs_3 0 fun s2_3 => At vs_3 1 fun s3_3 => At vs_3 2 fun s17 => At vs_3 3 fun s18 => Do (aBin Go.Proofs.Try.prog .lss 3 s18 (.val (.int .i64 32))) fun t175 =>
    aCond t175
      (Do (aBin Go.Proofs.Try.prog .quo 3 s18 (.val (.int .i64 4))) fun t181 =>
    Do (aIndexAddr .slice 1 s3_3 t181) fun t182 =>
    Do (loadA false 1 t182 σ_11) fun t183 =>
    Do (aBin Go.Proofs.Try.prog .rem 3 s18 (.val (.int .i64 4))) fun t185 =>
    Do (aBin Go.Proofs.Try.prog .mul 3 (.val (.int .i64 8)) t185) fun t186 =>
    Do (aBin Go.Proofs.Try.prog .sub 3 (.val (.int .i64 24)) t186) fun t187 =>
    Do (fun x => aConvN 3 85 t187 x Go.Proofs.Try.prog) fun t188 =>
    Do (aBin Go.Proofs.Try.prog .shr 79 t183 t188) fun t189 =>
    Do (fun x => aConvN 79 5 t189 x Go.Proofs.Try.prog) fun t190 =>
    Do (aIndexAddr (.array 32) 1 s17 s18) fun t191 =>
    storeA 1 t191 t190 σ_11 fun u_2 σ_12 =>
    Do (aBin Go.Proofs.Try.prog .add 3 s18 (.val (.int .i64 1))) fun t177 =>
    go_3 [s2_3, s3_3, s17, t177] σ_12)
      (Do (loadA true 32 s17 σ_11) fun t192 =>
  storeA 32 s2_3 t192 σ_11 fun u_3 σ_13 =>
  Do (loadA true 32 s2_3 σ_13) fun r2 => Q (.ret r2) σ_13))
    [s2, s3, t17, (.val (.int .i64 0))] σ_10))
    [t2, t19, t20, t22, (.val (.int .i64 0))] σ_1
theorem ref02_Of.eq (a0 : AV) (σ : Store) (Q : AEnd → Store → Prop) : vc (semOf Go.Proofs.Try.prog ref02_Of.mark) Go.Proofs.Try.f33.ntmps ref02_Of.ann (bodyOf Go.Proofs.Try.f33) (endK [.cell 2 true 32] Q) (argFr [a0]) σ = ref02_Of.sh a0 σ Q := by kernel_rfl
theorem ref02_Of.go {a0 : AV} {σ : Store} {Q : AEnd → Store → Prop} (h : ref02_Of.sh a0 σ Q) : ACalls Go.Proofs.Try.prog 33 [a0] σ Q :=
  acalls_of_eq [.cell 2 true 32] Go.Proofs.Try.func33 (by kernel_rfl) (by kernel_rfl) (by kernel_rfl) (by kernel_rfl) (ref02_Of.eq a0 σ Q) h
set_option maxHeartbeats 1000000 in
theorem ref02_Of_ok (l : List UInt8) (hl : l.length ≤ 100000000000000) : aPure Go.Proofs.Try.prog 33 [S l] (.agg ((sha l).map byt)) := by
  refine ACalls.fin (ref02_Of.go ?_)
  unfold ref02_Of.sh
  obtain ⟨h1, h2⟩ := shaTail_length l.length
  have hsh : sha l = shaOut (shaAll shaH (l ++ shaTail l.length)) := rfl
  have hpl : (l ++ shaTail l.length).length % 64 = 0 := by rw [List.length_append]; exact h1
  have hpm : (l ++ shaTail l.length).length ≤ 200000000000000 := by rw [List.length_append]; omega
  repeat' (first | with_reducible apply Stp.go | with_reducible refine imp fun _ => ?_ | (with_reducible refine hyp ?_ ?_; first | assumption | exact leftT_mem (by assumption)) | (with_reducible refine need ?_ ?_; first | trivial | omega | exact ⟨by assumption, by omega⟩ | (simp only [List.length_append, List.length_cons, List.length_nil, List.length_map, List.length_take, List.length_drop, List.length_replicate, List.length_set]; omega)) | (with_reducible refine fact ?_ ?_; first | trivial | exact ⟨rfl, rfl⟩ | kernel_rfl) | with_reducible refine choT (by assumption) ?_ | with_reducible refine choF (by assumption) ?_ | with_reducible refine choF' (by assumption) ?_ | (with_reducible refine altT ?_ ?_; first | omega | (simp only [List.length_append, List.length_cons, List.length_nil, List.length_map, List.length_take, List.length_drop, List.length_replicate, List.length_set]; omega)) | with_reducible refine altF ?_ | with_reducible refine all fun _ => ?_ | with_reducible refine both ?_ ?_ | (with_reducible refine choT ?_ ?_; omega) | (with_reducible refine choF ?_ ?_; omega) | with_reducible refine cho (fun _ => ?_) (fun _ => ?_))
  generalize l ++ shaTail l.length = p at *
  rw [hsh]
  rename_i bd vh
  refine loopI (β := Nat × Value × List UInt32) (fun x => 64 * x.1 ≤ p.length ∧ x.2.2.length = 8 ∧ shaAll x.2.2 (p.drop (64 * x.1)) = shaAll shaH p) (fun x => [ptrAt bd 0, .own x.2.1 x.2.2.length, .lst 1 (shaK.map wrd) .ro, .lst 1 (p.map byt) .ro, I .i64 ((64 * x.1 : Nat) : Int)])
    (fun x => [.row x.2.1 79 1 (x.2.2.map wrd) 0, .var bd 45 ((List.replicate 32 (0 : UInt8)).map byt)]) (fun x => p.length - 64 * x.1) (0, vh, shaH) ⟨Nat.zero_le _, rfl, rfl⟩ (Sub.refl _ _) ?_
  rintro ⟨q, vh, H⟩ ⟨hq, hH, hS⟩
  dsimp only at hq hH hS ⊢
  by_cases hlt : 64 * q < p.length
  · have hq2 : 64 * q + 64 ≤ p.length := by omega
    have hbl : ((p.take (64 * q + 64)).drop (64 * q)).length = 64 := by simp only [List.length_drop, List.length_take]; omega
    have hkl : shaK.length = 64 := rfl
    have hwl := sched_length ((p.take (64 * q + 64)).drop (64 * q)) 64
    have hstep : shaAll (shaBlock H ((p.take (64 * q + 64)).drop (64 * q))) (p.drop (64 * (q + 1))) = shaAll shaH p := by
      rw [← hS, shaAll_ge (show 64 ≤ (p.drop (64 * q)).length by simp only [List.length_drop]; omega), List.drop_drop, List.drop_take, Nat.add_sub_cancel_left, show 64 * q + 64 = 64 * (q + 1) by omega]
    repeat' (first | with_reducible apply Stp.go | with_reducible refine imp fun _ => ?_ | (with_reducible refine hyp ?_ ?_; first | assumption | exact leftT_mem (by assumption)) | (with_reducible refine need ?_ ?_; first | trivial | omega | exact ⟨by assumption, by omega⟩ | (simp only [List.length_append, List.length_cons, List.length_nil, List.length_map, List.length_take, List.length_drop, List.length_replicate, List.length_set]; omega)) | (with_reducible refine fact ?_ ?_; first | trivial | exact ⟨rfl, rfl⟩ | kernel_rfl) | with_reducible refine choT (by assumption) ?_ | with_reducible refine choF (by assumption) ?_ | with_reducible refine choF' (by assumption) ?_ | (with_reducible refine altT ?_ ?_; first | omega | (simp only [List.length_append, List.length_cons, List.length_nil, List.length_map, List.length_take, List.length_drop, List.length_replicate, List.length_set]; omega)) | with_reducible refine altF ?_ | with_reducible refine all fun _ => ?_ | with_reducible refine both ?_ ?_ | (with_reducible refine choT ?_ ?_; omega) | (with_reducible refine choF ?_ ?_; omega) | with_reducible refine cho (fun _ => ?_) (fun _ => ?_))
    generalize hW : sched ((p.take (64 * q + 64)).drop (64 * q)) 64 = W at *
    rename_i v0 v1
    refine loopI (β := Nat × Value) (fun x => x.1 ≤ 64) (fun x => [ptrAt bd 0, .own vh H.length, .lst 1 (shaK.map wrd) .ro, .lst 1 (p.map byt) .ro, I .i64 ((64 * q : Nat) : Int), .lst 1 (W.map wrd) .ro, .own x.2 (shaRounds W H x.1).length, I .i64 (x.1 : Nat)])
      (fun x => [.row x.2 79 1 ((shaRounds W H x.1).map wrd) 0, .row vh 79 1 (H.map wrd) 0, .var bd 45 ((List.replicate 32 (0 : UInt8)).map byt)]) (fun x => 64 - x.1) (0, v1) (Nat.zero_le _) ?_ ?_
    · rw [List.nil_append]
      exact Sub.refl _ _
    rintro ⟨t, v⟩ ht
    dsimp only at ht ⊢
    have hrl := shaRounds_length W hH t
    by_cases htl : t < 64
    · repeat' (first | with_reducible apply Stp.go | with_reducible refine imp fun _ => ?_ | (with_reducible refine hyp ?_ ?_; first | assumption | exact leftT_mem (by assumption)) | (with_reducible refine need ?_ ?_; first | trivial | omega | exact ⟨by assumption, by omega⟩ | (simp only [List.length_append, List.length_cons, List.length_nil, List.length_map, List.length_take, List.length_drop, List.length_replicate, List.length_set]; omega)) | (with_reducible refine fact ?_ ?_; first | trivial | exact ⟨rfl, rfl⟩ | kernel_rfl) | with_reducible refine choT (by assumption) ?_ | with_reducible refine choF (by assumption) ?_ | with_reducible refine choF' (by assumption) ?_ | (with_reducible refine altT ?_ ?_; first | omega | (simp only [List.length_append, List.length_cons, List.length_nil, List.length_map, List.length_take, List.length_drop, List.length_replicate, List.length_set]; omega)) | with_reducible refine altF ?_ | with_reducible refine all fun _ => ?_ | with_reducible refine both ?_ ?_ | (with_reducible refine choT ?_ ?_; omega) | (with_reducible refine choF ?_ ?_; omega) | with_reducible refine cho (fun _ => ?_) (fun _ => ?_))
      rename_i w
      refine again (t + 1, w) (by dsimp only; omega) (by dsimp only; omega) ?_
      exact Sub.drop_ (List.Sublist.cons_cons _ (List.Sublist.cons _ (List.Sublist.refl _))) _
    · have e : t = 64 := by omega
      subst e
      generalize hV : shaRounds W H 64 = V at *
      repeat' (first | with_reducible apply Stp.go | with_reducible refine imp fun _ => ?_ | (with_reducible refine hyp ?_ ?_; first | assumption | exact leftT_mem (by assumption)) | (with_reducible refine need ?_ ?_; first | trivial | omega | exact ⟨by assumption, by omega⟩ | (simp only [List.length_append, List.length_cons, List.length_nil, List.length_map, List.length_take, List.length_drop, List.length_replicate, List.length_set]; omega)) | (with_reducible refine fact ?_ ?_; first | trivial | exact ⟨rfl, rfl⟩ | kernel_rfl) | with_reducible refine choT (by assumption) ?_ | with_reducible refine choF (by assumption) ?_ | with_reducible refine choF' (by assumption) ?_ | (with_reducible refine altT ?_ ?_; first | omega | (simp only [List.length_append, List.length_cons, List.length_nil, List.length_map, List.length_take, List.length_drop, List.length_replicate, List.length_set]; omega)) | with_reducible refine altF ?_ | with_reducible refine all fun _ => ?_ | with_reducible refine both ?_ ?_ | (with_reducible refine choT ?_ ?_; omega) | (with_reducible refine choF ?_ ?_; omega) | with_reducible refine cho (fun _ => ?_) (fun _ => ?_))
      refine loopI (β := Nat) (fun i => i ≤ 8) (fun i => [ptrAt bd 0, .own vh (addTo H V i).length, .lst 1 (shaK.map wrd) .ro, .lst 1 (p.map byt) .ro, I .i64 ((64 * q : Nat) : Int), .own v V.length, I .i64 (i : Nat)])
        (fun i => [.row v 79 1 (V.map wrd) 0, .row vh 79 1 ((addTo H V i).map wrd) 0, .var bd 45 ((List.replicate 32 (0 : UInt8)).map byt)]) (fun i => 8 - i) 0 (Nat.zero_le _) ?_ ?_
      · exact Sub.refl _ _
      intro i hi
      have hal := addTo_length hH hrl hi
      by_cases hil : i < 8
      · have hse := addTo_set hH hrl hil
        have hal2 := addTo_length hH hrl (show i + 1 ≤ 8 by omega)
        repeat' (first | with_reducible apply Stp.go | with_reducible refine imp fun _ => ?_ | (with_reducible refine hyp ?_ ?_; first | assumption | exact leftT_mem (by assumption)) | (with_reducible refine need ?_ ?_; first | trivial | omega | exact ⟨by assumption, by omega⟩ | (simp only [List.length_append, List.length_cons, List.length_nil, List.length_map, List.length_take, List.length_drop, List.length_replicate, List.length_set]; omega)) | (with_reducible refine fact ?_ ?_; first | trivial | exact ⟨rfl, rfl⟩ | kernel_rfl) | with_reducible refine choT (by assumption) ?_ | with_reducible refine choF (by assumption) ?_ | with_reducible refine choF' (by assumption) ?_ | (with_reducible refine altT ?_ ?_; first | omega | (simp only [List.length_append, List.length_cons, List.length_nil, List.length_map, List.length_take, List.length_drop, List.length_replicate, List.length_set]; omega)) | with_reducible refine altF ?_ | with_reducible refine all fun _ => ?_ | with_reducible refine both ?_ ?_ | (with_reducible refine choT ?_ ?_; omega) | (with_reducible refine choF ?_ ?_; omega) | with_reducible refine cho (fun _ => ?_) (fun _ => ?_))
        refine again (i + 1) (by omega) (by omega) ?_
        rw [hse, hal, hal2]
        exact Sub.refl _ _
      · have e : i = 8 := by omega
        subst e
        have hfin : addTo H V 8 = shaBlock H ((p.take (64 * q + 64)).drop (64 * q)) := by rw [addTo_all hH hrl, shaBlock, hW, hV]
        rw [hfin]
        repeat' (first | with_reducible apply Stp.go | with_reducible refine imp fun _ => ?_ | (with_reducible refine hyp ?_ ?_; first | assumption | exact leftT_mem (by assumption)) | (with_reducible refine need ?_ ?_; first | trivial | omega | exact ⟨by assumption, by omega⟩ | (simp only [List.length_append, List.length_cons, List.length_nil, List.length_map, List.length_take, List.length_drop, List.length_replicate, List.length_set]; omega)) | (with_reducible refine fact ?_ ?_; first | trivial | exact ⟨rfl, rfl⟩ | kernel_rfl) | with_reducible refine choT (by assumption) ?_ | with_reducible refine choF (by assumption) ?_ | with_reducible refine choF' (by assumption) ?_ | (with_reducible refine altT ?_ ?_; first | omega | (simp only [List.length_append, List.length_cons, List.length_nil, List.length_map, List.length_take, List.length_drop, List.length_replicate, List.length_set]; omega)) | with_reducible refine altF ?_ | with_reducible refine all fun _ => ?_ | with_reducible refine both ?_ ?_ | (with_reducible refine choT ?_ ?_; omega) | (with_reducible refine choF ?_ ?_; omega) | with_reducible refine cho (fun _ => ?_) (fun _ => ?_))
        refine again (q + 1, vh, shaBlock H ((p.take (64 * q + 64)).drop (64 * q))) (by dsimp only; omega) ⟨by dsimp only; omega, shaBlock_length hH _, hstep⟩ ?_
        exact Sub.drop_ (List.sublist_cons_self _ _) _
  · have e0 : p.drop (64 * q) = [] := List.drop_of_length_le (by omega)
    rw [e0, shaAll_lt (by decide)] at hS
    rw [← hS]
    have hL := shaOut_length H
    rw [hH] at hL
    repeat' (first | with_reducible apply Stp.go | with_reducible refine imp fun _ => ?_ | (with_reducible refine hyp ?_ ?_; first | assumption | exact leftT_mem (by assumption)) | (with_reducible refine need ?_ ?_; first | trivial | omega | exact ⟨by assumption, by omega⟩ | (simp only [List.length_append, List.length_cons, List.length_nil, List.length_map, List.length_take, List.length_drop, List.length_replicate, List.length_set]; omega)) | (with_reducible refine fact ?_ ?_; first | trivial | exact ⟨rfl, rfl⟩ | kernel_rfl) | with_reducible refine choT (by assumption) ?_ | with_reducible refine choF (by assumption) ?_ | with_reducible refine choF' (by assumption) ?_ | (with_reducible refine altT ?_ ?_; first | omega | (simp only [List.length_append, List.length_cons, List.length_nil, List.length_map, List.length_take, List.length_drop, List.length_replicate, List.length_set]; omega)) | with_reducible refine altF ?_ | with_reducible refine all fun _ => ?_ | with_reducible refine both ?_ ?_ | (with_reducible refine choT ?_ ?_; omega) | (with_reducible refine choF ?_ ?_; omega) | with_reducible refine cho (fun _ => ?_) (fun _ => ?_))
    rename_i db
    refine loopI (β := Nat) (fun i => i ≤ 32) (fun i => [ptrAt bd 0, .own vh H.length, ptrAt db 0, I .i64 (i : Nat)]) (fun i => [.var db 45 ((outB H i).map byt), .row vh 79 1 (H.map wrd) 0, .var bd 45 ((List.replicate 32 (0 : UInt8)).map byt)]) (fun i => 32 - i) 0 (Nat.zero_le _) ?_ ?_
    · have e1 : outB H 0 = List.replicate 32 0 := by simp [outB]
      rw [e1]
      exact Sub.refl _ _
    intro i hi
    have ho := outB_length hH hi
    by_cases hlt2 : i < 32
    · have e24 : (24 - 8 * (i % 4)) % 18446744073709551616 = 24 - 8 * (i % 4) := Nat.mod_eq_of_lt (by omega)
      have hq4 : i / 4 < H.length := by omega
      have hset := outB_set hH hlt2
      repeat' (first | with_reducible apply Stp.go | with_reducible refine imp fun _ => ?_ | (with_reducible refine hyp ?_ ?_; first | assumption | exact leftT_mem (by assumption)) | (with_reducible refine need ?_ ?_; first | trivial | omega | exact ⟨by assumption, by omega⟩ | (simp only [List.length_append, List.length_cons, List.length_nil, List.length_map, List.length_take, List.length_drop, List.length_replicate, List.length_set]; omega)) | (with_reducible refine fact ?_ ?_; first | trivial | exact ⟨rfl, rfl⟩ | kernel_rfl) | with_reducible refine choT (by assumption) ?_ | with_reducible refine choF (by assumption) ?_ | with_reducible refine choF' (by assumption) ?_ | (with_reducible refine altT ?_ ?_; first | omega | (simp only [List.length_append, List.length_cons, List.length_nil, List.length_map, List.length_take, List.length_drop, List.length_replicate, List.length_set]; omega)) | with_reducible refine altF ?_ | with_reducible refine all fun _ => ?_ | with_reducible refine both ?_ ?_ | (with_reducible refine choT ?_ ?_; omega) | (with_reducible refine choF ?_ ?_; omega) | with_reducible refine cho (fun _ => ?_) (fun _ => ?_))
      refine again (i + 1) (by omega) (by omega) ?_
      rw [e24, hset]
      exact Sub.refl _ _
    · have e : i = 32 := by omega
      subst e
      have e : outB H 32 = shaOut H := by
        rw [outB, List.take_of_length_le (by omega)]
        simp
      rw [e] at ho ⊢
      repeat' (first | with_reducible apply Stp.go | with_reducible refine imp fun _ => ?_ | (with_reducible refine hyp ?_ ?_; first | assumption | exact leftT_mem (by assumption)) | (with_reducible refine need ?_ ?_; first | trivial | omega | exact ⟨by assumption, by omega⟩ | (simp only [List.length_append, List.length_cons, List.length_nil, List.length_map, List.length_take, List.length_drop, List.length_replicate, List.length_set]; omega)) | (with_reducible refine fact ?_ ?_; first | trivial | exact ⟨rfl, rfl⟩ | kernel_rfl) | with_reducible refine choT (by assumption) ?_ | with_reducible refine choF (by assumption) ?_ | with_reducible refine choF' (by assumption) ?_ | (with_reducible refine altT ?_ ?_; first | omega | (simp only [List.length_append, List.length_cons, List.length_nil, List.length_map, List.length_take, List.length_drop, List.length_replicate, List.length_set]; omega)) | with_reducible refine altF ?_ | with_reducible refine all fun _ => ?_ | with_reducible refine both ?_ ?_ | (with_reducible refine choT ?_ ?_; omega) | (with_reducible refine choF ?_ ?_; omega) | with_reducible refine cho (fun _ => ?_) (fun _ => ?_))
      exact ⟨_, _, _, rfl, Sub.app_nil _, rfl, rfl⟩
instance {l : List UInt8} : PC Go.Proofs.Try.prog 33 [S l] (l.length ≤ 100000000000000) (.agg ((sha l).map byt)) := ⟨fun hl => PC.of (ref02_Of_ok l hl)⟩
end Go.Ab

/- Functions of layers 1, 3 and 4: bytes of numbers, what keys share, their order, what is right and fit. -/
set_option linter.unusedVariables false
set_option linter.unusedSimpArgs false
namespace Go.Ab
def cmp_isNaN.mark : Mark := ⟨fun t => false, fun t => false, fun t => false, fun t => false, fun t => false⟩
def cmp_isNaN.ann : Ann := ⟨fun n => [], fun n => none, fun n => none⟩
def cmp_Compare.mark : Mark := ⟨fun t => Nat.beq t 8 || Nat.beq t 10, fun t => false, fun t => false, fun t => false, fun t => false⟩
def cmp_Compare.ann : Ann := ⟨fun n => [], fun n => none, fun n => none⟩
def entry_byKey.mark : Mark := ⟨fun t => Nat.beq t 9, fun t => false, fun t => Nat.beq t 2 || Nat.beq t 3, fun t => Nat.beq t 6 || Nat.beq t 8, fun t => false⟩
def entry_byKey.ann : Ann := ⟨fun n => [], fun n => none, fun n => none⟩
def entry_Sorted.mark : Mark := ⟨fun t => Nat.beq t 23, fun t => false, fun t => false, fun t => Nat.beq t 17 || Nat.beq t 22, fun t => false⟩
def entry_Sorted.ann : Ann := ⟨fun n => bif Nat.beq n 2 then [0, 10, 11] else [], fun n => none, fun n => none⟩
end Go.Ab

/- Functions of layers 3 and 4: what is right and fit, what is the same; an entry's bytes. -/
set_option linter.unusedVariables false
set_option linter.unusedSimpArgs false
namespace Go.Ab
def ref03_Right.mark : Mark := ⟨fun t => false, fun t => false, fun t => Nat.beq t 1, fun t => Nat.beq t 4 || Nat.beq t 9 || Nat.beq t 15 || Nat.beq t 21 || Nat.beq t 25 || Nat.beq t 31 || Nat.beq t 36, fun t => false⟩
def ref03_Right.ann : Ann := ⟨fun n => [], fun n => none, fun n => none⟩
/-- 'marlstone/marlstoneref03.Right' -/
def ref03_Right.sh (a0 : AV) (σ : Store) (Q : AEnd → Store → Prop) : Prop :=
  Do (aFreeze ((a0 : AV)).cells) fun t1 =>
  Do (aFieldAddr 0 1 t1) fun t3 =>
  Do (loadF false 1 t3) fun t4 =>
  Do (aBuiltin Go.Proofs.Try.prog .len #[9] [t4]) fun t5 =>
  Do (aBin Go.Proofs.Try.prog .geq 3 t5 (.val (.int .i64 1))) fun t6 =>
  Do (aGuard t6 true (aFieldAddr 0 1 t1)) fun t8 =>
  Do (aGuard t6 true (loadF false 1 t8)) fun t9 =>
  Do (aGuard t6 true (aBuiltin Go.Proofs.Try.prog .len #[9] [t9])) fun t10 =>
  Do (aGuard t6 true (aBin Go.Proofs.Try.prog .leq 3 t10 (.val (.int .i64 128)))) fun t11 =>
  Do (aPick t6 t11 (.val (.bool false))) fun t12 =>
  Do (aGuard t12 true (aFieldAddr 1 1 t1)) fun t14 =>
  Do (aGuard t12 true (loadF false 1 t14)) fun t15 =>
  Do (aGuard t12 true (aBuiltin Go.Proofs.Try.prog .len #[9] [t15])) fun t16 =>
  Do (aGuard t12 true (aBin Go.Proofs.Try.prog .leq 3 t16 (.val (.int .i64 1024)))) fun t17 =>
  Do (aPick t12 t17 (.val (.bool false))) fun t18 =>
  Do (aGuard t18 true (aFieldAddr 2 1 t1)) fun t20 =>
  Do (aGuard t18 true (loadF false 1 t20)) fun t21 =>
  Do (aGuard t18 true (aUn Go.Proofs.Try.prog .not t21)) fun t22 =>
  Do (aGuard t18 true (aIs t22)) fun t23 =>
  Do (aGuard t23 false (aFieldAddr 1 1 t1)) fun t24 =>
  Do (aGuard t23 false (loadF false 1 t24)) fun t25 =>
  Do (aGuard t23 false (aBin Go.Proofs.Try.prog .eql 9 t25 (.val (.string ⟨#[]⟩)))) fun t26 =>
  Do (aGuard t18 true (aPick t23 (.val (.bool true)) t26)) fun t27 =>
  Do (aPick t18 t27 (.val (.bool false))) fun t28 =>
  Do (aGuard t28 true (aFieldAddr 3 1 t1)) fun t30 =>
  Do (aGuard t28 true (loadF false 1 t30)) fun t31 =>
  Do (aGuard t28 true (aBin Go.Proofs.Try.prog .geq 3 t31 (.val (.int .i64 1)))) fun t32 =>
  Do (aPick t28 t32 (.val (.bool false))) fun t33 =>
  Do (aGuard t33 true (aFieldAddr 3 1 t1)) fun t35 =>
  Do (aGuard t33 true (loadF false 1 t35)) fun t36 =>
  Do (aGuard t33 true (aBin Go.Proofs.Try.prog .leq 3 t36 (.val (.int .i64 1099511627776)))) fun t37 =>
  Do (aPick t33 t37 (.val (.bool false))) fun t38 =>
  Q (.ret t38) σ
theorem ref03_Right.eq (a0 : AV) (σ : Store) (Q : AEnd → Store → Prop) : vc (semOf Go.Proofs.Try.prog ref03_Right.mark) Go.Proofs.Try.f34.ntmps ref03_Right.ann (bodyOf Go.Proofs.Try.f34) (endK [.tmp 2] Q) (argFr [a0]) σ = ref03_Right.sh a0 σ Q := by kernel_rfl
theorem ref03_Right.go {a0 : AV} {σ : Store} {Q : AEnd → Store → Prop} (h : ref03_Right.sh a0 σ Q) : ACalls Go.Proofs.Try.prog 34 [a0] σ Q :=
  acalls_of_eq [.tmp 2] Go.Proofs.Try.func34 (by kernel_rfl) (by kernel_rfl) (by kernel_rfl) (by kernel_rfl) (ref03_Right.eq a0 σ Q) h
theorem ref03_Right_ok (e : En) : aPure Go.Proofs.Try.prog 34 [e.av] (B (right e)) := by
  refine ref03_Right.go ?_
  unfold ref03_Right.sh
  repeat' (first | with_reducible apply Stp.go | with_reducible refine imp fun _ => ?_ | (with_reducible refine hyp ?_ ?_; first | assumption | exact leftT_mem (by assumption)) | (with_reducible refine need ?_ ?_; first | trivial | omega | exact ⟨by assumption, by omega⟩ | (simp only [List.length_append, List.length_cons, List.length_nil, List.length_map, List.length_take, List.length_drop, List.length_replicate, List.length_set]; omega)) | (with_reducible refine fact ?_ ?_; first | trivial | exact ⟨rfl, rfl⟩ | kernel_rfl) | with_reducible refine choT (by assumption) ?_ | with_reducible refine choF (by assumption) ?_ | with_reducible refine choF' (by assumption) ?_ | (with_reducible refine altT ?_ ?_; first | omega | (simp only [List.length_append, List.length_cons, List.length_nil, List.length_map, List.length_take, List.length_drop, List.length_replicate, List.length_set]; omega)) | with_reducible refine altF ?_ | with_reducible refine all fun _ => ?_ | with_reducible refine both ?_ ?_ | (with_reducible refine choT ?_ ?_; omega) | (with_reducible refine choF ?_ ?_; omega) | with_reducible refine cho (fun _ => ?_) (fun _ => ?_))
  all_goals
    refine ⟨?_, rfl⟩
    have hk : decide (e.key ≠ []) = decide (1 ≤ e.key.length) := by
      cases e.key with
      | nil => rfl
      | cons a l => simp
    unfold right
    rw [hk]
    simp_all <;> omega
instance (e : En) : PC Go.Proofs.Try.prog 34 [e.av] True (B (right e)) := ⟨fun _ => PC.of (ref03_Right_ok e)⟩
/-- A function value that is told of one entry. -/
class Pred (P : Program) (g : AV) (p : outParam (En → Bool)) : Prop where
  h : ∀ e : En, ∃ f a b args1, calleeOf g = some (f, a, b) ∧ SubVs (a ++ [e.av] ++ b) args1 ∧ aPure P f args1 (B (p e))
theorem Pred.pure {P : Program} {g : AV} {p : En → Bool} (h : Pred P g p) (e : En) : aPureV P g [e.av] (B (p e)) := by
  obtain ⟨f, a, b, args1, h1, h2, h3⟩ := h.h e
  unfold aPureV
  rw [h1]
  exact .inl ⟨args1, h2, h3⟩
def ref03_Same.mark : Mark := ⟨fun t => false, fun t => false, fun t => false, fun t => Nat.beq t 20 || Nat.beq t 24, fun t => false⟩
def ref03_Same.ann : Ann := ⟨fun n => bif Nat.beq n 4 then [0, 1, 5] else [], fun n => none, fun n => none⟩
/-- 'marlstone/marlstoneref03.Same' -/
def ref03_Same.sh (a0 a1 : AV) (σ : Store) (Q : AEnd → Store → Prop) : Prop :=
  Do (aBuiltin Go.Proofs.Try.prog .len #[39] [a0]) fun t7 =>
  Do (aBuiltin Go.Proofs.Try.prog .len #[39] [a1]) fun t9 =>
  Do (aBin Go.Proofs.Try.prog .neq 3 t7 t9) fun t10 =>
  aCond t10
    (Q (.ret (.val (.bool false))) σ)
    (aLoop (fun go vs σ =>
    At vs 0 fun s0 => At vs 1 fun s1 => At vs 2 fun s5 => Do (aBuiltin Go.Proofs.Try.prog .len #[39] [s0]) fun t13 =>
    Do (aBin Go.Proofs.Try.prog .lss 3 s5 t13) fun t14 =>
    aCond t14
      (Do (aIndexAddr .slice 4 s0 s5) fun t19 =>
    Do (loadF true 4 t19) fun t20 =>
    Do (aIndexAddr .slice 4 s1 s5) fun t23 =>
    Do (loadF true 4 t23) fun t24 =>
    Do (aBin Go.Proofs.Try.prog .neq 29 t20 t24) fun t25 =>
    aCond t25
      (Q (.ret (.val (.bool false))) σ)
      (Do (aBin Go.Proofs.Try.prog .add 3 s5 (.val (.int .i64 1))) fun t16 =>
    go [s0, s1, t16] σ))
      (Q (.ret (.val (.bool true))) σ))
    [a0, a1, (.val (.int .i64 0))] σ)
theorem ref03_Same.eq (a0 a1 : AV) (σ : Store) (Q : AEnd → Store → Prop) : vc (semOf Go.Proofs.Try.prog ref03_Same.mark) Go.Proofs.Try.f20.ntmps ref03_Same.ann (bodyOf Go.Proofs.Try.f20) (endK [.tmp 4] Q) (argFr [a0, a1]) σ = ref03_Same.sh a0 a1 σ Q := by kernel_rfl
theorem ref03_Same.go {a0 a1 : AV} {σ : Store} {Q : AEnd → Store → Prop} (h : ref03_Same.sh a0 a1 σ Q) : ACalls Go.Proofs.Try.prog 20 [a0, a1] σ Q :=
  acalls_of_eq [.tmp 4] Go.Proofs.Try.func20 (by kernel_rfl) (by kernel_rfl) (by kernel_rfl) (by kernel_rfl) (ref03_Same.eq a0 a1 σ Q) h
theorem Same_ok (a b : List En) (m m' : SM) (ha : a.length ≤ 1000000000000) : aPure Go.Proofs.Try.prog 20 [.lst 4 (a.map En.av) m, .lst 4 (b.map En.av) m'] (B (decide (a = b))) := by
  refine ref03_Same.go ?_
  unfold ref03_Same.sh
  repeat' (first | with_reducible apply Stp.go | with_reducible refine imp fun _ => ?_ | (with_reducible refine hyp ?_ ?_; first | assumption | exact leftT_mem (by assumption)) | (with_reducible refine need ?_ ?_; first | trivial | omega | exact ⟨by assumption, by omega⟩ | (simp only [List.length_append, List.length_cons, List.length_nil, List.length_map, List.length_take, List.length_drop, List.length_replicate, List.length_set]; omega)) | (with_reducible refine fact ?_ ?_; first | trivial | exact ⟨rfl, rfl⟩ | kernel_rfl) | with_reducible refine choT (by assumption) ?_ | with_reducible refine choF (by assumption) ?_ | with_reducible refine choF' (by assumption) ?_ | (with_reducible refine altT ?_ ?_; first | omega | (simp only [List.length_append, List.length_cons, List.length_nil, List.length_map, List.length_take, List.length_drop, List.length_replicate, List.length_set]; omega)) | with_reducible refine altF ?_ | with_reducible refine all fun _ => ?_ | with_reducible refine both ?_ ?_ | (with_reducible refine choT ?_ ?_; omega) | (with_reducible refine choF ?_ ?_; omega) | with_reducible refine cho (fun _ => ?_) (fun _ => ?_))
  · rename_i h
    have hab : a.length = b.length := h
    refine loopI (β := Nat) (fun i => i ≤ a.length ∧ decide (a = b) = decide (a.drop i = b.drop i)) (fun i => [.lst 4 (a.map En.av) m, .lst 4 (b.map En.av) m', I .i64 (i : Nat)]) (fun _ => []) (fun i => a.length - i) 0 ⟨by omega, rfl⟩ (Sub.refl _ _) ?_
    rintro i ⟨hi, hs⟩
    repeat' (first | with_reducible apply Stp.go | with_reducible refine imp fun _ => ?_ | (with_reducible refine hyp ?_ ?_; first | assumption | exact leftT_mem (by assumption)) | (with_reducible refine need ?_ ?_; first | trivial | omega | exact ⟨by assumption, by omega⟩ | (simp only [List.length_append, List.length_cons, List.length_nil, List.length_map, List.length_take, List.length_drop, List.length_replicate, List.length_set]; omega)) | (with_reducible refine fact ?_ ?_; first | trivial | exact ⟨rfl, rfl⟩ | kernel_rfl) | with_reducible refine choT (by assumption) ?_ | with_reducible refine choF (by assumption) ?_ | with_reducible refine choF' (by assumption) ?_ | (with_reducible refine altT ?_ ?_; first | omega | (simp only [List.length_append, List.length_cons, List.length_nil, List.length_map, List.length_take, List.length_drop, List.length_replicate, List.length_set]; omega)) | with_reducible refine altF ?_ | with_reducible refine all fun _ => ?_ | with_reducible refine both ?_ ?_ | (with_reducible refine choT ?_ ?_; omega) | (with_reducible refine choF ?_ ?_; omega) | with_reducible refine cho (fun _ => ?_) (fun _ => ?_))
    · rename_i h1 h2
      refine again (i + 1) (by omega) ⟨by omega, ?_⟩ (Sub.refl _ _)
      rw [hs, drop_cons (show i < a.length by omega), drop_cons (show i < b.length by omega), h2]
      simp
    · rename_i h1 h2
      rw [hs, drop_cons (show i < a.length by omega), drop_cons (show i < b.length by omega)]
      refine ⟨?_, rfl⟩
      simp only [List.cons.injEq, eq_false h2, false_and, decide_false]
    · have e1 : a.drop i = [] := List.drop_of_length_le (by omega)
      have e2 : b.drop i = [] := List.drop_of_length_le (by omega)
      rw [hs, e1, e2]
      exact ⟨rfl, rfl⟩
  · rename_i h
    have : ¬ a = b := fun e => h (by rw [e])
    exact ⟨by simp [this], rfl⟩
instance {x y : AV} {a b : List En} {m m' : SM} [h : IsL x En.av 4 a m] [h' : IsL y En.av 4 b m'] : PC Go.Proofs.Try.prog 20 [x, y] (a.length ≤ 1000000000000) (B (decide (a = b))) := ⟨fun hl => ⟨[.lst 4 (a.map En.av) m, .lst 4 (b.map En.av) m'], ⟨h.sub, h'.sub, trivial⟩, Same_ok a b m m' hl⟩⟩
end Go.Ab

/- An entry's bytes; few entries. -/
set_option linter.unusedVariables false
set_option linter.unusedSimpArgs false
namespace Go.Ab
def entry_Bytes.mark : Mark := ⟨fun t => Nat.beq t 5, fun t => Nat.beq t 7, fun t => Nat.beq t 1, fun t => Nat.beq t 4 || Nat.beq t 9 || Nat.beq t 14 || Nat.beq t 18 || Nat.beq t 21 || Nat.beq t 25, fun t => false⟩
def entry_Bytes.ann : Ann := ⟨fun n => [], fun n => bif Nat.beq n 6 then some [1, 3] else none, fun n => none⟩
/-- 'marlstone/entry.Bytes' -/
def entry_Bytes.sh (a0 : AV) (σ : Store) (Q : AEnd → Store → Prop) : Prop :=
  Do (aFreeze ((a0 : AV)).cells) fun t1 =>
  Do (loadF true 4 t1) fun t4 =>
  Do (aPureC Go.Proofs.Try.prog 27 [t4]) fun t5 =>
  Do (aUn Go.Proofs.Try.prog .not t5) fun t6 =>
  aCond t6
    (Q (.ret (.val (.slice none 0 0))) σ)
    (aRowL 5 (mkE [.val (.int .u8 0)]) 1 1 [(0, (W8 0))] σ fun t7 σ =>
  aJoin (fun j =>
    Do (aFieldAddr 2 1 t1) fun t8 =>
    Do (loadF false 1 t8) fun t9 =>
    aCond t9
      (Do (aIndexAddr .slice 1 t7 (.val (.int .i64 0))) fun t11 =>
      storeA 1 t11 (W8 1) σ fun u σ_2 =>
      j [t1, t7] σ_2)
      (j [t1, t7] σ)) fun vs σ_1 =>
  At vs 0 fun s1 => At vs 1 fun s3 => Do (aFieldAddr 3 1 s1) fun t13 =>
  Do (loadF false 1 t13) fun t14 =>
  Do (fun x => aConvN 3 78 t14 x Go.Proofs.Try.prog) fun t15 =>
  Do (aFieldAddr 0 1 s1) fun t17 =>
  Do (loadF false 1 t17) fun t18 =>
  aCall Go.Proofs.Try.prog 50 [s3, t15] σ_1 (fun t16 σ_3 =>
  aCall Go.Proofs.Try.prog 49 [t16, t18] σ_3 (fun t19 σ_4 =>
  Do (aFieldAddr 2 1 s1) fun t20 =>
  Do (loadF false 1 t20) fun t21 =>
  Do (aUn Go.Proofs.Try.prog .not t21) fun t22 =>
  aCond t22
    (Do (aFieldAddr 1 1 s1) fun t24 =>
    Do (loadF false 1 t24) fun t25 =>
    aCall Go.Proofs.Try.prog 49 [t19, t25] σ_4 (fun t26 σ_5 =>
    Q (.ret t26) σ_5) (fun e σ_6 => Q (.pan e) σ_6))
    (Q (.ret t19) σ_4)) (fun e_1 σ_7 => Q (.pan e_1) σ_7)) (fun e_2 σ_8 => Q (.pan e_2) σ_8))
theorem entry_Bytes.eq (a0 : AV) (σ : Store) (Q : AEnd → Store → Prop) : vc (semOf Go.Proofs.Try.prog entry_Bytes.mark) Go.Proofs.Try.f32.ntmps entry_Bytes.ann (bodyOf Go.Proofs.Try.f32) (endK [.tmp 2] Q) (argFr [a0]) σ = entry_Bytes.sh a0 σ Q := by kernel_rfl
theorem entry_Bytes.go {a0 : AV} {σ : Store} {Q : AEnd → Store → Prop} (h : entry_Bytes.sh a0 σ Q) : ACalls Go.Proofs.Try.prog 32 [a0] σ Q :=
  acalls_of_eq [.tmp 2] Go.Proofs.Try.func32 (by kernel_rfl) (by kernel_rfl) (by kernel_rfl) (by kernel_rfl) (entry_Bytes.eq a0 σ Q) h
def ref03_Bytes.mark : Mark := ⟨fun t => Nat.beq t 5 || Nat.beq t 15 || Nat.beq t 18 || Nat.beq t 24 || Nat.beq t 27 || Nat.beq t 30, fun t => false, fun t => Nat.beq t 1, fun t => Nat.beq t 4 || Nat.beq t 9 || Nat.beq t 13 || Nat.beq t 17 || Nat.beq t 22 || Nat.beq t 26 || Nat.beq t 29, fun t => false⟩
def ref03_Bytes.ann : Ann := ⟨fun n => [], fun n => none, fun n => none⟩
/-- 'marlstone/marlstoneref03.Bytes' -/
def ref03_Bytes.sh (a0 : AV) (σ : Store) (Q : AEnd → Store → Prop) : Prop :=
  Do (aFreeze ((a0 : AV)).cells) fun t1 =>
  Do (loadF true 4 t1) fun t4 =>
  Do (aPureC Go.Proofs.Try.prog 34 [t4]) fun t5 =>
  Do (aUn Go.Proofs.Try.prog .not t5) fun t7 =>
  aCond t7
    (Q (.ret (.val (.string ⟨#[]⟩))) σ)
    (Do (aFieldAddr 2 1 t1) fun t8 =>
  Do (loadF false 1 t8) fun t9 =>
  aCond t9
    (Do (aSlLit (mkE [.val (.int .u8 0)]) 1 1 [(0, (W8 1))]) fun t10 =>
    Do (aConvBS t10) fun t11 =>
    Do (aFieldAddr 3 1 t1) fun t12 =>
    Do (loadF false 1 t12) fun t13 =>
    Do (fun x => aConvN 3 78 t13 x Go.Proofs.Try.prog) fun t14 =>
    Do (aPureC Go.Proofs.Try.prog 64 [t11, t14]) fun t15 =>
    Do (aFieldAddr 0 1 t1) fun t16 =>
    Do (loadF false 1 t16) fun t17 =>
    Do (aPureC Go.Proofs.Try.prog 63 [t15, t17]) fun t18 =>
    Q (.ret t18) σ)
    (Do (aSlLit (mkE [.val (.int .u8 0)]) 1 1 [(0, (W8 0))]) fun t19 =>
  Do (aConvBS t19) fun t20 =>
  Do (aFieldAddr 3 1 t1) fun t21 =>
  Do (loadF false 1 t21) fun t22 =>
  Do (fun x => aConvN 3 78 t22 x Go.Proofs.Try.prog) fun t23 =>
  Do (aPureC Go.Proofs.Try.prog 64 [t20, t23]) fun t24 =>
  Do (aFieldAddr 0 1 t1) fun t25 =>
  Do (loadF false 1 t25) fun t26 =>
  Do (aPureC Go.Proofs.Try.prog 63 [t24, t26]) fun t27 =>
  Do (aFieldAddr 1 1 t1) fun t28 =>
  Do (loadF false 1 t28) fun t29 =>
  Do (aPureC Go.Proofs.Try.prog 63 [t27, t29]) fun t30 =>
  Q (.ret t30) σ))
theorem ref03_Bytes.eq (a0 : AV) (σ : Store) (Q : AEnd → Store → Prop) : vc (semOf Go.Proofs.Try.prog ref03_Bytes.mark) Go.Proofs.Try.f55.ntmps ref03_Bytes.ann (bodyOf Go.Proofs.Try.f55) (endK [.tmp 2] Q) (argFr [a0]) σ = ref03_Bytes.sh a0 σ Q := by kernel_rfl
theorem ref03_Bytes.go {a0 : AV} {σ : Store} {Q : AEnd → Store → Prop} (h : ref03_Bytes.sh a0 σ Q) : ACalls Go.Proofs.Try.prog 55 [a0] σ Q :=
  acalls_of_eq [.tmp 2] Go.Proofs.Try.func55 (by kernel_rfl) (by kernel_rfl) (by kernel_rfl) (by kernel_rfl) (ref03_Bytes.eq a0 σ Q) h
theorem entry_Bytes_ok (e : En) : aPure Go.Proofs.Try.prog 32 [e.av] (.lst 1 ((enB e).map byt) .ro) := by
  refine ACalls.fin (entry_Bytes.go ?_)
  unfold entry_Bytes.sh
  repeat' (first | with_reducible apply Stp.go | with_reducible refine imp fun _ => ?_ | (with_reducible refine hyp ?_ ?_; first | assumption | exact leftT_mem (by assumption)) | (with_reducible refine need ?_ ?_; first | trivial | omega | exact ⟨by assumption, by omega⟩ | (simp only [List.length_append, List.length_cons, List.length_nil, List.length_map, List.length_take, List.length_drop, List.length_replicate, List.length_set]; omega)) | (with_reducible refine fact ?_ ?_; first | trivial | exact ⟨rfl, rfl⟩ | kernel_rfl) | with_reducible refine choT (by assumption) ?_ | with_reducible refine choF (by assumption) ?_ | with_reducible refine choF' (by assumption) ?_ | (with_reducible refine altT ?_ ?_; first | omega | (simp only [List.length_append, List.length_cons, List.length_nil, List.length_map, List.length_take, List.length_drop, List.length_replicate, List.length_set]; omega)) | with_reducible refine altF ?_ | with_reducible refine all fun _ => ?_ | with_reducible refine both ?_ ?_ | (with_reducible refine choT ?_ ?_; omega) | (with_reducible refine choF ?_ ?_; omega) | with_reducible refine cho (fun _ => ?_) (fun _ => ?_))
  · rename_i h v
    obtain ⟨k0, k1, k2, k3, k4, k5⟩ := right_bounds h
    have hp := put_len64 (v := e.seq.toNat) (by omega)
    have hp2 := put_len64 (v := e.key.length) (by omega)
    refine joinI (β := Unit) (fun _ => True) (fun _ => [.rptr e.cs, .own v 1]) (fun _ => [.row v 5 1 ([if e.del = true then (1 : UInt8) else 0].map byt) 0]) ?_ ?_
    · repeat' (first | with_reducible apply Stp.go | with_reducible refine imp fun _ => ?_ | (with_reducible refine hyp ?_ ?_; first | assumption | exact leftT_mem (by assumption)) | (with_reducible refine need ?_ ?_; first | trivial | omega | exact ⟨by assumption, by omega⟩ | (simp only [List.length_append, List.length_cons, List.length_nil, List.length_map, List.length_take, List.length_drop, List.length_replicate, List.length_set]; omega)) | (with_reducible refine fact ?_ ?_; first | trivial | exact ⟨rfl, rfl⟩ | kernel_rfl) | with_reducible refine choT (by assumption) ?_ | with_reducible refine choF (by assumption) ?_ | with_reducible refine choF' (by assumption) ?_ | (with_reducible refine altT ?_ ?_; first | omega | (simp only [List.length_append, List.length_cons, List.length_nil, List.length_map, List.length_take, List.length_drop, List.length_replicate, List.length_set]; omega)) | with_reducible refine altF ?_ | with_reducible refine all fun _ => ?_ | with_reducible refine both ?_ ?_ | (with_reducible refine choT ?_ ?_; omega) | (with_reducible refine choF ?_ ?_; omega) | with_reducible refine cho (fun _ => ?_) (fun _ => ?_))
      · rename_i hd
        refine meet () trivial ?_
        rw [if_pos hd]
        exact Sub.refl _ _
      · rename_i hd
        refine meet () trivial ?_
        rw [if_neg hd]
        exact Sub.refl _ _
    · intro _ _
      repeat' (first | with_reducible apply Stp.go | with_reducible refine imp fun _ => ?_ | (with_reducible refine hyp ?_ ?_; first | assumption | exact leftT_mem (by assumption)) | (with_reducible refine need ?_ ?_; first | trivial | omega | exact ⟨by assumption, by omega⟩ | (simp only [List.length_append, List.length_cons, List.length_nil, List.length_map, List.length_take, List.length_drop, List.length_replicate, List.length_set]; omega)) | (with_reducible refine fact ?_ ?_; first | trivial | exact ⟨rfl, rfl⟩ | kernel_rfl) | with_reducible refine choT (by assumption) ?_ | with_reducible refine choF (by assumption) ?_ | with_reducible refine choF' (by assumption) ?_ | (with_reducible refine altT ?_ ?_; first | omega | (simp only [List.length_append, List.length_cons, List.length_nil, List.length_map, List.length_take, List.length_drop, List.length_replicate, List.length_set]; omega)) | with_reducible refine altF ?_ | with_reducible refine all fun _ => ?_ | with_reducible refine both ?_ ?_ | (with_reducible refine choT ?_ ?_; omega) | (with_reducible refine choF ?_ ?_; omega) | with_reducible refine cho (fun _ => ?_) (fun _ => ?_))
      all_goals
        refine ⟨_, _, _, rfl, retOwn (Sub.refl _ _), ?_, rfl⟩
        simp_all [enB, enR]
  · rename_i h
    refine ⟨_, _, _, rfl, retNil byt (sz := 1) (by decide) (Sub.refl _ _), ?_, rfl⟩
    simp [enB, h]
instance (e : En) : PC Go.Proofs.Try.prog 32 [e.av] True (.lst 1 ((enB e).map byt) .ro) := ⟨fun _ => PC.of (entry_Bytes_ok e)⟩
theorem ref03_Bytes_ok (e : En) : aPure Go.Proofs.Try.prog 55 [e.av] (S (enB e)) := by
  refine ref03_Bytes.go ?_
  unfold ref03_Bytes.sh
  by_cases h : right e = true
  · obtain ⟨k0, k1, k2, k3, k4, k5⟩ := right_bounds h
    have hp := put_len64 (v := e.seq.toNat) (by omega)
    have hp2 := put_len64 (v := e.key.length) (by omega)
    repeat' (first | with_reducible apply Stp.go | with_reducible refine imp fun _ => ?_ | (with_reducible refine hyp ?_ ?_; first | assumption | exact leftT_mem (by assumption)) | (with_reducible refine need ?_ ?_; first | trivial | omega | exact ⟨by assumption, by omega⟩ | (simp only [List.length_append, List.length_cons, List.length_nil, List.length_map, List.length_take, List.length_drop, List.length_replicate, List.length_set]; omega)) | (with_reducible refine fact ?_ ?_; first | trivial | exact ⟨rfl, rfl⟩ | kernel_rfl) | with_reducible refine choT (by assumption) ?_ | with_reducible refine choF (by assumption) ?_ | with_reducible refine choF' (by assumption) ?_ | (with_reducible refine altT ?_ ?_; first | omega | (simp only [List.length_append, List.length_cons, List.length_nil, List.length_map, List.length_take, List.length_drop, List.length_replicate, List.length_set]; omega)) | with_reducible refine altF ?_ | with_reducible refine all fun _ => ?_ | with_reducible refine both ?_ ?_ | (with_reducible refine choT ?_ ?_; omega) | (with_reducible refine choF ?_ ?_; omega) | with_reducible refine cho (fun _ => ?_) (fun _ => ?_))
    all_goals
      simp_all [enB, enR]
  · repeat' (first | with_reducible apply Stp.go | with_reducible refine imp fun _ => ?_ | (with_reducible refine hyp ?_ ?_; first | assumption | exact leftT_mem (by assumption)) | (with_reducible refine need ?_ ?_; first | trivial | omega | exact ⟨by assumption, by omega⟩ | (simp only [List.length_append, List.length_cons, List.length_nil, List.length_map, List.length_take, List.length_drop, List.length_replicate, List.length_set]; omega)) | (with_reducible refine fact ?_ ?_; first | trivial | exact ⟨rfl, rfl⟩ | kernel_rfl) | with_reducible refine choT (by assumption) ?_ | with_reducible refine choF (by assumption) ?_ | with_reducible refine choF' (by assumption) ?_ | (with_reducible refine altT ?_ ?_; first | omega | (simp only [List.length_append, List.length_cons, List.length_nil, List.length_map, List.length_take, List.length_drop, List.length_replicate, List.length_set]; omega)) | with_reducible refine altF ?_ | with_reducible refine all fun _ => ?_ | with_reducible refine both ?_ ?_ | (with_reducible refine choT ?_ ?_; omega) | (with_reducible refine choF ?_ ?_; omega) | with_reducible refine cho (fun _ => ?_) (fun _ => ?_))
    simp [enB, h]
instance (e : En) : PC Go.Proofs.Try.prog 55 [e.av] True (S (enB e)) := ⟨fun _ => PC.of (ref03_Bytes_ok e)⟩
end Go.Ab

/- Folds, and places of keys. -/
set_option linter.unusedVariables false
set_option linter.unusedSimpArgs false
namespace Go.Ab
def ref03_Find.mark : Mark := ⟨fun t => false, fun t => false, fun t => false, fun t => Nat.beq t 19 || Nat.beq t 30, fun t => false⟩
def ref03_Find.ann : Ann := ⟨fun n => bif Nat.beq n 4 then [0, 1, 6, 7, 8] else [], fun n => bif Nat.beq n 8 then some [0, 1, 6, 7, 8] else none, fun n => none⟩
/-- 'marlstone/marlstoneref03.Find' -/
def ref03_Find.sh (a0 a1 : AV) (σ : Store) (Q : AEnd → Store → Prop) : Prop :=
  aLoop (fun go vs σ =>
    At vs 0 fun s0 => At vs 1 fun s1 => At vs 2 fun s6 => At vs 3 fun s7 => At vs 4 fun s8 => Do (aBuiltin Go.Proofs.Try.prog .len #[39] [s0]) fun t11 =>
    Do (aBin Go.Proofs.Try.prog .lss 3 s8 t11) fun t12 =>
    aCond t12
      (aJoin (fun j =>
      Do (aIndexAddr .slice 4 s0 s8) fun t17 =>
      Do (aFieldAddr 0 1 t17) fun t18 =>
      Do (loadF false 1 t18) fun t19 =>
      Do (aBin Go.Proofs.Try.prog .lss 9 t19 s1) fun t21 =>
      aCond t21
        (Do (aBin Go.Proofs.Try.prog .add 3 s6 (.val (.int .i64 1))) fun t23 =>
        j [s0, s1, t23, s7, s8] σ)
        (j [s0, s1, s6, s7, s8] σ)) fun vs_1 σ_1 =>
    At vs_1 0 fun s0_1 => At vs_1 1 fun s1_1 => At vs_1 2 fun s6_1 => At vs_1 3 fun s7_1 => At vs_1 4 fun s8_1 => Do (aGuard s7_1 false (aIs s0_1)) fun t26 =>
    Do (aGuard s7_1 false (aIs s8_1)) fun t27 =>
    Do (aGuard s7_1 false (aIndexAddr .slice 4 t26 t27)) fun t28 =>
    Do (aGuard s7_1 false (aFieldAddr 0 1 t28)) fun t29 =>
    Do (aGuard s7_1 false (loadF false 1 t29)) fun t30 =>
    Do (aGuard s7_1 false (aIs s1_1)) fun t31 =>
    Do (aGuard s7_1 false (aBin Go.Proofs.Try.prog .eql 9 t30 t31)) fun t32 =>
    Do (aPick s7_1 (.val (.bool true)) t32) fun t33 =>
    Do (aBin Go.Proofs.Try.prog .add 3 s8_1 (.val (.int .i64 1))) fun t14 =>
    go [s0_1, s1_1, s6_1, t33, t14] σ_1)
      (Q (.ret (.tuple [s6, s7])) σ))
    [a0, a1, (.val (.int .i64 0)), (.val (.bool false)), (.val (.int .i64 0))] σ
theorem ref03_Find.eq (a0 a1 : AV) (σ : Store) (Q : AEnd → Store → Prop) : vc (semOf Go.Proofs.Try.prog ref03_Find.mark) Go.Proofs.Try.f36.ntmps ref03_Find.ann (bodyOf Go.Proofs.Try.f36) (endK [.tmp 4, .tmp 5] Q) (argFr [a0, a1]) σ = ref03_Find.sh a0 a1 σ Q := by kernel_rfl
theorem ref03_Find.go {a0 a1 : AV} {σ : Store} {Q : AEnd → Store → Prop} (h : ref03_Find.sh a0 a1 σ Q) : ACalls Go.Proofs.Try.prog 36 [a0, a1] σ Q :=
  acalls_of_eq [.tmp 4, .tmp 5] Go.Proofs.Try.func36 (by kernel_rfl) (by kernel_rfl) (by kernel_rfl) (by kernel_rfl) (ref03_Find.eq a0 a1 σ Q) h
theorem ref03_Find_ok (l : List En) (m : SM) (k : List UInt8) (hl : l.length ≤ 1000000000000) : aPure Go.Proofs.Try.prog 36 [.lst 4 (l.map En.av) m, S k] (.tuple [I .i64 (placeN l k : Nat), B (hasK l k)]) := by
  refine ref03_Find.go ?_
  unfold ref03_Find.sh
  repeat' (first | with_reducible apply Stp.go | with_reducible refine imp fun _ => ?_ | (with_reducible refine hyp ?_ ?_; first | assumption | exact leftT_mem (by assumption)) | (with_reducible refine need ?_ ?_; first | trivial | omega | exact ⟨by assumption, by omega⟩ | (simp only [List.length_append, List.length_cons, List.length_nil, List.length_map, List.length_take, List.length_drop, List.length_replicate, List.length_set]; omega)) | (with_reducible refine fact ?_ ?_; first | trivial | exact ⟨rfl, rfl⟩ | kernel_rfl) | with_reducible refine choT (by assumption) ?_ | with_reducible refine choF (by assumption) ?_ | with_reducible refine choF' (by assumption) ?_ | (with_reducible refine altT ?_ ?_; first | omega | (simp only [List.length_append, List.length_cons, List.length_nil, List.length_map, List.length_take, List.length_drop, List.length_replicate, List.length_set]; omega)) | with_reducible refine altF ?_ | with_reducible refine all fun _ => ?_ | with_reducible refine both ?_ ?_ | (with_reducible refine choT ?_ ?_; omega) | (with_reducible refine choF ?_ ?_; omega) | with_reducible refine cho (fun _ => ?_) (fun _ => ?_))
  refine loopI (β := Nat) (fun i => i ≤ l.length) (fun i => [.lst 4 (l.map En.av) m, S k, I .i64 (placeN (l.take i) k : Nat), B (hasK (l.take i) k), I .i64 (i : Nat)]) (fun _ => []) (fun i => l.length - i) 0 (Nat.zero_le _) (Sub.refl _ _) ?_
  intro i hi
  have hp := placeN_le (l.take i) k
  have hp2 : (l.take i).length ≤ l.length := by simp; omega
  by_cases hlt : i < l.length
  · have e1 := placeN_snoc (l.take i) (l.getD i default) k
    have e2 := hasK_snoc (l.take i) (l.getD i default) k
    rw [← take_succ_d hlt] at e1 e2
    repeat' (first | with_reducible apply Stp.go | with_reducible refine imp fun _ => ?_ | (with_reducible refine hyp ?_ ?_; first | assumption | exact leftT_mem (by assumption)) | (with_reducible refine need ?_ ?_; first | trivial | omega | exact ⟨by assumption, by omega⟩ | (simp only [List.length_append, List.length_cons, List.length_nil, List.length_map, List.length_take, List.length_drop, List.length_replicate, List.length_set]; omega)) | (with_reducible refine fact ?_ ?_; first | trivial | exact ⟨rfl, rfl⟩ | kernel_rfl) | with_reducible refine choT (by assumption) ?_ | with_reducible refine choF (by assumption) ?_ | with_reducible refine choF' (by assumption) ?_ | (with_reducible refine altT ?_ ?_; first | omega | (simp only [List.length_append, List.length_cons, List.length_nil, List.length_map, List.length_take, List.length_drop, List.length_replicate, List.length_set]; omega)) | with_reducible refine altF ?_ | with_reducible refine all fun _ => ?_ | with_reducible refine both ?_ ?_ | (with_reducible refine choT ?_ ?_; omega) | (with_reducible refine choF ?_ ?_; omega) | with_reducible refine cho (fun _ => ?_) (fun _ => ?_))
    refine joinE ?_
    repeat' (first | with_reducible apply Stp.go | with_reducible refine imp fun _ => ?_ | (with_reducible refine hyp ?_ ?_; first | assumption | exact leftT_mem (by assumption)) | (with_reducible refine need ?_ ?_; first | trivial | omega | exact ⟨by assumption, by omega⟩ | (simp only [List.length_append, List.length_cons, List.length_nil, List.length_map, List.length_take, List.length_drop, List.length_replicate, List.length_set]; omega)) | (with_reducible refine fact ?_ ?_; first | trivial | exact ⟨rfl, rfl⟩ | kernel_rfl) | with_reducible refine choT (by assumption) ?_ | with_reducible refine choF (by assumption) ?_ | with_reducible refine choF' (by assumption) ?_ | (with_reducible refine altT ?_ ?_; first | omega | (simp only [List.length_append, List.length_cons, List.length_nil, List.length_map, List.length_take, List.length_drop, List.length_replicate, List.length_set]; omega)) | with_reducible refine altF ?_ | with_reducible refine all fun _ => ?_ | with_reducible refine both ?_ ?_ | (with_reducible refine choT ?_ ?_; omega) | (with_reducible refine choF ?_ ?_; omega) | with_reducible refine cho (fun _ => ?_) (fun _ => ?_))
    all_goals
      refine again (i + 1) (by omega) (by omega) ?_
      simp_all
      exact Sub.app_nil _
  · have e : l.take i = l := List.take_of_length_le (by omega)
    rw [e]
    repeat' (first | with_reducible apply Stp.go | with_reducible refine imp fun _ => ?_ | (with_reducible refine hyp ?_ ?_; first | assumption | exact leftT_mem (by assumption)) | (with_reducible refine need ?_ ?_; first | trivial | omega | exact ⟨by assumption, by omega⟩ | (simp only [List.length_append, List.length_cons, List.length_nil, List.length_map, List.length_take, List.length_drop, List.length_replicate, List.length_set]; omega)) | (with_reducible refine fact ?_ ?_; first | trivial | exact ⟨rfl, rfl⟩ | kernel_rfl) | with_reducible refine choT (by assumption) ?_ | with_reducible refine choF (by assumption) ?_ | with_reducible refine choF' (by assumption) ?_ | (with_reducible refine altT ?_ ?_; first | omega | (simp only [List.length_append, List.length_cons, List.length_nil, List.length_map, List.length_take, List.length_drop, List.length_replicate, List.length_set]; omega)) | with_reducible refine altF ?_ | with_reducible refine all fun _ => ?_ | with_reducible refine both ?_ ?_ | (with_reducible refine choT ?_ ?_; omega) | (with_reducible refine choF ?_ ?_; omega) | with_reducible refine cho (fun _ => ?_) (fun _ => ?_))
    exact ⟨rfl, rfl⟩
instance {a : AV} {l : List En} {m : SM} {k : List UInt8} [h : IsL a En.av 4 l m] : PC Go.Proofs.Try.prog 36 [a, S k] (l.length ≤ 1000000000000) (.tuple [I .i64 (placeN l k : Nat), B (hasK l k)]) := ⟨fun hl => ⟨[.lst 4 (l.map En.av) m, S k], ⟨h.sub, SubVs.refl _⟩, ref03_Find_ok l m k hl⟩⟩
end Go.Ab

/- An entry read is the entry written. No program in sight. -/
set_option linter.unusedVariables false
set_option linter.unusedSimpArgs false
namespace Go.Ab
theorem right_b {e : En} (h : right e = true) : 1 ≤ e.key.length ∧ e.key.length ≤ 128 ∧ e.val.length ≤ 1024 ∧ (e.del = true → e.val = []) ∧ 1 ≤ e.seq ∧ e.seq ≤ 1099511627776 := by
  simp [right] at h
  obtain ⟨⟨⟨⟨⟨h1, h2⟩, h3⟩, h4⟩, h5⟩, h6⟩ := h
  have : 1 ≤ e.key.length := List.length_pos_iff.2 h1
  exact ⟨this, by omega, by omega, fun hd => h4.resolve_left (by simp [hd]), h5, h6⟩
theorem enB_nil {e : En} (h : ¬ right e = true) : enB e = [] := by unfold enB; rw [if_neg h]
theorem enB_right {e : En} (h : right e = true) : enB e = enR e := by unfold enB; rw [if_pos h]
theorem enR_length {e : En} (he : right e = true) : 1 ≤ (enR e).length ∧ (enR e).length ≤ 1200 := by
  obtain ⟨k1, k2, k3, k4, k5, k6⟩ := right_b he
  have p1 := put_len64 (v := e.seq.toNat) (by omega)
  have p2 := put_len64 (v := e.key.length) (by omega)
  have p3 := put_len64 (v := e.val.length) (by omega)
  unfold enR
  split <;> simp only [List.length_append, List.length_cons, List.length_nil] <;> omega
theorem enB_length (e : En) : (enB e).length ≤ 1200 := by
  by_cases h : right e = true
  · rw [enB_right h]; exact (enR_length h).2
  · rw [enB_nil h]; simp
end Go.Ab
