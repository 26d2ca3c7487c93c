/- The texts that this claim needs, part 12: a logic over abstract values, its steps, what the functions do. No condition of its own. -/
import Derived.Test.YtobhbepiaibceaaSeekBackK11
/- SeekBack. -/
set_option linter.unusedVariables false
set_option linter.unusedSimpArgs false
namespace Go.Ab
def law12_SeekBack.mark : Mark := ⟨fun t => Nat.beq t 26 || Nat.beq t 28 || Nat.beq t 34 || Nat.beq t 41 || Nat.beq t 49 || Nat.beq t 70 || Nat.beq t 78 || Nat.beq t 88 || Nat.beq t 96 || Nat.beq t 166, fun t => false, fun t => false, fun t => Nat.beq t 119 || Nat.beq t 137 || Nat.beq t 148 || Nat.beq t 157, fun t => Nat.beq t 177⟩
def law12_SeekBack.ann : Ann := ⟨fun n => bif Nat.beq n 20 then [0, 2, 3, 9, 10, 11, 15, 22, 23] else [], fun n => bif Nat.beq n 16 then some [0, 2, 3, 9, 10, 11, 15, 16] else none, fun n => none⟩
/-- 'marlstone/marlstonelaw12.SeekBack' -/
def law12_SeekBack.sh (a0 a1 a2 a3 : AV) (σ : Store) (Q : AEnd → Store → Prop) : Prop :=
  Do (aPureC Go.Proofs.Try.prog 10 []) fun t26 =>
  Do (aPureC Go.Proofs.Try.prog 29 [a0]) fun t28 =>
  Do (aLit [.val (.int .i64 0)] [(0, 1)] [(0, a1)]) fun t30 =>
  aNewVar 26 [.val (.int .i64 0)] σ fun t10 σ =>
  storeA 1 t10 t30 σ fun u σ_1 =>
  Do (loadA true 1 t10 σ_1) fun t32 =>
  Do (aPureC Go.Proofs.Try.prog 30 [t32, (.val (.int .i64 1)), t28]) fun t34 =>
  Do (aExt t34 0) fun t35 =>
  Do (aExt t34 1) fun t36 =>
  aNewVar 48 [.val (.int .i64 0), .val (.int .i64 0), .val (.int .u8 0), .val (.int .u8 0), .val (.int .u8 0), .val (.int .u8 0), .val (.int .u8 0), .val (.int .u8 0), .val (.int .u8 0), .val (.int .u8 0), .val (.int .u8 0), .val (.int .u8 0), .val (.int .u8 0), .val (.int .u8 0), .val (.int .u8 0), .val (.int .u8 0), .val (.int .u8 0), .val (.int .u8 0), .val (.int .u8 0), .val (.int .u8 0), .val (.int .u8 0), .val (.int .u8 0), .val (.int .u8 0), .val (.int .u8 0), .val (.int .u8 0), .val (.int .u8 0), .val (.int .u8 0), .val (.int .u8 0), .val (.int .u8 0), .val (.int .u8 0), .val (.int .u8 0), .val (.int .u8 0), .val (.int .u8 0), .val (.int .u8 0), .val (.string ⟨#[]⟩), .val (.string ⟨#[]⟩)] σ_1 fun t11 σ_2 =>
  storeA 36 t11 t35 σ_2 fun u_1 σ_3 =>
  Do (loadA true 1 t10 σ_3) fun t38 =>
  Do (aPureC Go.Proofs.Try.prog 12 [t38, t28, a2]) fun t41 =>
  Do (aExt t41 0) fun t42 =>
  Do (aExt t41 1) fun t43 =>
  aNewVar 32 [.val (.bool false), .val (.int .i64 0), .val (.slice none 0 0), .val (.slice none 0 0), .val (.int .i64 0), .val (.slice none 0 0), .val (.slice none 0 0)] σ_3 fun t13 σ_4 =>
  storeA 7 t13 t42 σ_4 fun u_2 σ_5 =>
  Do (loadA true 1 t10 σ_5) fun t45 =>
  Do (aPureC Go.Proofs.Try.prog 14 [t45, t28, a2, a3]) fun t49 =>
  Do (aExt t49 0) fun t50 =>
  Do (aExt t49 1) fun t51 =>
  aNewVar 39 [.val (.int .i64 0), .val (.slice none 0 0), .val (.slice none 0 0)] σ_5 fun t15 σ_6 =>
  storeA 3 t15 t50 σ_6 fun u_3 σ_7 =>
  Do (aBuiltin Go.Proofs.Try.prog .len #[22] [t28]) fun t53 =>
  Do (aBin Go.Proofs.Try.prog .eql 3 t53 (.val (.int .i64 0))) fun t54 =>
  aCond t54
    (Do (aGuard t26 true (aIs t36)) fun t57 =>
    Do (aGuard t26 true (aBin Go.Proofs.Try.prog .eql 33 t57 (.val (.int .i64 1)))) fun t58 =>
    Do (aPick t26 t58 (.val (.bool false))) fun t59 =>
    Do (aGuard t59 true (aIs t43)) fun t61 =>
    Do (aGuard t59 true (aBin Go.Proofs.Try.prog .eql 33 t61 (.val (.int .i64 1)))) fun t62 =>
    Do (aPick t59 t62 (.val (.bool false))) fun t63 =>
    Do (aGuard t63 true (aIs t51)) fun t65 =>
    Do (aGuard t63 true (aBin Go.Proofs.Try.prog .eql 33 t65 (.val (.int .i64 1)))) fun t66 =>
    Do (aPick t63 t66 (.val (.bool false))) fun t67 =>
    Q (.ret t67) σ_7)
    (Do (loadA true 36 t11 σ_7) fun t68 =>
  Do (aPureC Go.Proofs.Try.prog 18 [t68, a2]) fun t70 =>
  Do (aBin Go.Proofs.Try.prog .eql 33 t43 (.val (.int .i64 0))) fun t72 =>
  Do (aBin Go.Proofs.Try.prog .neq 4 t70 t72) fun t73 =>
  Do (aGuard t73 false (loadA true 36 t11 σ_7)) fun t75 =>
  Do (aGuard t73 false (aIs a2)) fun t76 =>
  Do (aGuard t73 false (aIs a3)) fun t77 =>
  Do (aGuard t73 false (aPureC Go.Proofs.Try.prog 20 [t75, t76, t77])) fun t78 =>
  Do (aGuard t73 false (aIs t51)) fun t79 =>
  Do (aGuard t73 false (aBin Go.Proofs.Try.prog .eql 33 t79 (.val (.int .i64 0)))) fun t80 =>
  Do (aGuard t73 false (aBin Go.Proofs.Try.prog .neq 4 t78 t80)) fun t81 =>
  Do (aPick t73 (.val (.bool true)) t81) fun t82 =>
  aCond t82
    (Q (.ret (.val (.bool false))) σ_7)
    (aJoin (fun j =>
    Do (aBin Go.Proofs.Try.prog .eql 33 t43 (.val (.int .i64 0))) fun t84 =>
    aCond t84
      (Do (aPureC Go.Proofs.Try.prog 31 [t28, a2]) fun t88 =>
      Do (aExt t88 0) fun t89 =>
      Do (aExt t88 1) fun t90 =>
      Do (loadA true 1 t10 σ_7) fun t92 =>
      Do (loadA true 36 t11 σ_7) fun t93 =>
      Do (loadA true 7 t13 σ_7) fun t95 =>
      Do (aPureC Go.Proofs.Try.prog 23 [t92, t93, a2, t95]) fun t96 =>
      Do (aExt t96 0) fun t97 =>
      Do (aExt t96 1) fun t98 =>
      Do (aExt t96 2) fun t99 =>
      aNewVar 54 [.val (.string ⟨#[]⟩), .val (.string ⟨#[]⟩), .val (.bool false), .val (.int .i64 0)] σ_7 fun t19 σ_9 =>
      storeA 4 t19 t97 σ_9 fun u_4 σ_10 =>
      Do (aBin Go.Proofs.Try.prog .neq 33 t99 (.val (.int .i64 0))) fun t101 =>
      Do (aGuard t101 false (aIs t98)) fun t103 =>
      Do (aGuard t101 false (aIs t90)) fun t104 =>
      Do (aGuard t101 false (aBin Go.Proofs.Try.prog .neq 4 t103 t104)) fun t105 =>
      Do (aPick t101 (.val (.bool true)) t105) fun t106 =>
      Do (aGuard t106 false (aIs t98)) fun t108 =>
      Do (aGuard t106 false (aIs t108)) fun t109 =>
      Do (aGuard t109 true (aIs t89)) fun t110 =>
      Do (aGuard t109 true (aIs t28)) fun t111 =>
      Do (aGuard t109 true (aBuiltin Go.Proofs.Try.prog .len #[22] [t111])) fun t112 =>
      Do (aGuard t109 true (aBin Go.Proofs.Try.prog .geq 3 t110 t112)) fun t113 =>
      Do (aGuard t109 true (aIs t113)) fun t114 =>
      Do (aGuard t114 false (loadA true 4 t19 σ_10)) fun t115 =>
      Do (aGuard t114 false (aIs t28)) fun t116 =>
      Do (aGuard t114 false (aIs t89)) fun t117 =>
      Do (aGuard t114 false (aIndexAddr .slice 4 t116 t117)) fun t118 =>
      Do (aGuard t114 false (loadF true 4 t118)) fun t119 =>
      Do (aGuard t114 false (aBin Go.Proofs.Try.prog .neq 54 t115 t119)) fun t120 =>
      Do (aGuard t109 true (aPick t114 (.val (.bool true)) t120)) fun t121 =>
      Do (aGuard t106 false (aPick t109 t121 (.val (.bool false)))) fun t122 =>
      Do (aPick t106 (.val (.bool true)) t122) fun t123 =>
      aCond t123
        (Q (.ret (.val (.bool false))) σ_10)
        (j [t28, a2, a3, t26, t10, t11, t15, t51] σ_10))
      (j [t28, a2, a3, t26, t10, t11, t15, t51] σ_7)) fun vs σ_8 =>
  At vs 0 fun s0 => At vs 1 fun s2 => At vs 2 fun s3 => At vs 3 fun s9 => At vs 4 fun s10 => At vs 5 fun s11 => At vs 6 fun s15 => At vs 7 fun s16 => Do (aBin Go.Proofs.Try.prog .neq 33 s16 (.val (.int .i64 0))) fun t125 =>
  aCond t125
    (Q (.ret s9) σ_8)
    (aLoop (fun go vs_1 σ_11 =>
    At vs_1 0 fun s0_1 => At vs_1 1 fun s2_1 => At vs_1 2 fun s3_1 => At vs_1 3 fun s9_1 => At vs_1 4 fun s10_1 => At vs_1 5 fun s11_1 => At vs_1 6 fun s15_1 => At vs_1 7 fun s22 => At vs_1 8 fun s23 => Do (aBuiltin Go.Proofs.Try.prog .len #[22] [s0_1]) fun t129 =>
    Do (aBin Go.Proofs.Try.prog .lss 3 s23 t129) fun t130 =>
    aCond t130
      (Do (aIndexAddr .slice 4 s0_1 s23) fun t135 =>
    Do (aFieldAddr 0 1 t135) fun t136 =>
    Do (loadF false 1 t136) fun t137 =>
    Do (aBin Go.Proofs.Try.prog .geq 9 t137 s2_1) fun t139 =>
    Do (aGuard t139 true (aIs s3_1)) fun t141 =>
    Do (aGuard t139 true (aBin Go.Proofs.Try.prog .eql 9 t141 (.val (.string ⟨#[]⟩)))) fun t142 =>
    Do (aGuard t139 true (aIs t142)) fun t143 =>
    Do (aGuard t143 false (aIs s0_1)) fun t144 =>
    Do (aGuard t143 false (aIs s23)) fun t145 =>
    Do (aGuard t143 false (aIndexAddr .slice 4 t144 t145)) fun t146 =>
    Do (aGuard t143 false (aFieldAddr 0 1 t146)) fun t147 =>
    Do (aGuard t143 false (loadF false 1 t147)) fun t148 =>
    Do (aGuard t143 false (aIs s3_1)) fun t149 =>
    Do (aGuard t143 false (aBin Go.Proofs.Try.prog .lss 9 t148 t149)) fun t150 =>
    Do (aGuard t139 true (aPick t143 (.val (.bool true)) t150)) fun t151 =>
    Do (aPick t139 t151 (.val (.bool false))) fun t152 =>
    aCond t152
      (Do (aIndexAddr .slice 4 s0_1 s23) fun t156 =>
      Do (loadF true 4 t156) fun t157 =>
      Do (aSlLit (mkE [.val (.string ⟨#[]⟩), .val (.string ⟨#[]⟩), .val (.bool false), .val (.int .i64 0)]) 4 1 [(0, t157)]) fun t158 =>
      aAppend 54 4 48 s22 t158 σ_11 (subK fun t159 σ_12 =>
      Do (aBin Go.Proofs.Try.prog .add 3 s23 (.val (.int .i64 1))) fun t132 =>
    go [s0_1, s2_1, s3_1, s9_1, s10_1, s11_1, s15_1, t159, t132] σ_12))
      (Do (aBin Go.Proofs.Try.prog .add 3 s23 (.val (.int .i64 1))) fun t132_1 =>
    go [s0_1, s2_1, s3_1, s9_1, s10_1, s11_1, s15_1, s22, t132_1] σ_11))
      (Do (loadA true 1 s10_1 σ_11) fun t161 =>
  Do (loadA true 36 s11_1 σ_11) fun t162 =>
  Do (loadA true 3 s15_1 σ_11) fun t165 =>
  Do (aPureC Go.Proofs.Try.prog 26 [t161, t162, s2_1, s3_1, t165]) fun t166 =>
  Do (aExt t166 0) fun t167 =>
  Do (aExt t166 1) fun t168 =>
  Do (aGuard s9_1 true (aIs t168)) fun t171 =>
  Do (aGuard s9_1 true (aBin Go.Proofs.Try.prog .eql 33 t171 (.val (.int .i64 0)))) fun t172 =>
  Do (aPick s9_1 t172 (.val (.bool false))) fun t173 =>
  Do (aGuard t173 true (aIs t167)) fun t175 =>
  Do (aGuard t173 true (aIs s22)) fun t176 =>
  Do (aGuard t173 true (lookC Go.Proofs.Try.prog 28 [t175, t176] σ_11)) fun t177 =>
  Do (aPick t173 t177 (.val (.bool false))) fun t178 =>
  Q (.ret t178) σ_11))
    [s0, s2, s3, s9, s10, s11, s15, (.val (.slice none 0 0)), (.val (.int .i64 0))] σ_8)))
theorem law12_SeekBack.eq (a0 a1 a2 a3 : AV) (σ : Store) (Q : AEnd → Store → Prop) : vc (semOf Go.Proofs.Try.prog law12_SeekBack.mark) Go.Proofs.Try.f8.ntmps law12_SeekBack.ann (bodyOf Go.Proofs.Try.f8) (endK [.tmp 8] Q) (argFr [a0, a1, a2, a3]) σ = law12_SeekBack.sh a0 a1 a2 a3 σ Q := by kernel_rfl
theorem law12_SeekBack.go {a0 a1 a2 a3 : AV} {σ : Store} {Q : AEnd → Store → Prop} (h : law12_SeekBack.sh a0 a1 a2 a3 σ Q) : ACalls Go.Proofs.Try.prog 8 [a0, a1, a2, a3] σ Q :=
  acalls_of_eq [.tmp 8] Go.Proofs.Try.func8 (by kernel_rfl) (by kernel_rfl) (by kernel_rfl) (by kernel_rfl) (law12_SeekBack.eq a0 a1 a2 a3 σ Q) h
theorem covers_by {d f g k : List UInt8} [hd : Len32 d] {lv cnt : Int} {x : Bool} (hp : coversB f g k = x) : PC Go.Proofs.Try.prog 18 [tabA lv cnt d f g, S k] True (B x) := ⟨fun _ => by
  have := (inferInstance : PC Go.Proofs.Try.prog 18 [tabA lv cnt d f g, S k] _ _).ct trivial
  rw [hp] at this
  exact this⟩
theorem overlaps_by {d f g lo hi : List UInt8} [hd : Len32 d] {lv cnt : Int} {x : Bool} (hp : overB f g lo hi = x) : PC Go.Proofs.Try.prog 20 [tabA lv cnt d f g, S lo, S hi] True (B x) := ⟨fun _ => by
  have := (inferInstance : PC Go.Proofs.Try.prog 20 [tabA lv cnt d f g, S lo, S hi] _ _).ct trivial
  rw [hp] at this
  exact this⟩
theorem over_ok {l : List En} {lo hi : List UInt8} : overB (l.getD 0 default).key (l.getD (l.length - 1) default).key lo hi = spanOk l lo hi := by
  unfold overB spanOk
  cases belowB lo hi <;> cases lt (l.getD (l.length - 1) default).key lo <;> cases belowB (l.getD 0 default).key hi <;> rfl
theorem SeekBack_ok (l : List En) (m : SM) (b : Int) (k hi : List UInt8) (hl : l.length ≤ 100000000000000) (hb : (Lit.int .i64 b).wf = true) (hk : k.length ≤ 140737488355328) (hh : hi.length ≤ 140737488355328) : aPure Go.Proofs.Try.prog 8 [.lst 4 (l.map En.av) m, I .i64 b, S k, S hi] (B true) := by
  refine ACalls.fin (law12_SeekBack.go ?_)
  unfold law12_SeekBack.sh
  obtain ⟨L, hL⟩ : ∃ L, L = fitL ((l.take 70).map (cutE 130 1030)) := ⟨_, rfl⟩
  have h64 : L.length ≤ 64 := by rw [hL]; unfold fitL; simp; omega
  have hfL : 0 < L.length → fit L = true := fun h => by rw [hL] at h ⊢; exact fitL_fit h
  have iF : PC Go.Proofs.Try.prog 29 [.lst 4 (l.map En.av) m] True (.lst 4 (L.map En.av) .ro) := ⟨fun _ => by rw [hL]; exact PC.of (fit12_ok l m hl)⟩
  clear hL
  have ht : (true : Bool) = true := rfl
  have hff : ¬ (false : Bool) = true := by decide
  by_cases h0 : 0 < L.length
  · have hf := hfL h0
    have hri := (sorted_iff L).1 (fit_right hf).2.2.1
    have iD : ∀ {a : AV} {m : SM} [h : IsL a En.av 4 L m], PC Go.Proofs.Try.prog 30 [trA b, .val (.int .i64 1), a] True _ := desc_fit (b := b) (lev := 1) rfl hf (by decide)
    have hcov := covers_iff hri h0 k
    have hov := over_ok (l := L) (lo := k) (hi := hi)
    have hpl := placeN_le L k
    obtain ⟨ep, bt, X, Y, hP⟩ : ∃ e bt X Y, proveP b L k = (e, bt, X, Y) := ⟨_, _, _, _, rfl⟩
    obtain ⟨es, p, U, V, hS⟩ : ∃ e p U V, spanP b L k hi = (e, p, U, V) := ⟨_, _, _, _, rfl⟩
    have iP : ∀ {a : AV} {m : SM} [h : IsL a En.av 4 L m], PC Go.Proofs.Try.prog 12 [trA b, a, S k] True _ := prove_by (by omega) hP
    have iS : ∀ {a : AV} {m : SM} [h : IsL a En.av 4 L m], PC Go.Proofs.Try.prog 14 [trA b, a, S k, S hi] True _ := pspan_by (by omega) hS
    obtain ⟨cv, hcv⟩ : ∃ cv, cv = coversB (L.getD 0 default).key (L.getD (L.length - 1) default).key k := ⟨_, rfl⟩
    have iCov := covers_by (d := rootD b (L.map enB)) (lv := 1) (cnt := (L.length : Nat)) hcv.symm
    obtain ⟨ov, hov'⟩ : ∃ ov, ov = overB (L.getD 0 default).key (L.getD (L.length - 1) default).key k hi := ⟨_, rfl⟩
    have iOv := overlaps_by (d := rootD b (L.map enB)) (lv := 1) (cnt := (L.length : Nat)) hov'.symm
    have he1 : cv = decide (ep = 0) := by
      rw [hcv, hcov]
      cases hk : hasK L k with
      | true => rw [prove_is hf hk] at hP; cases hP; rfl
      | false =>
        by_cases hz : placeN L k = 0 ∨ placeN L k = L.length
        · rw [prove_none hf hk hz] at hP; cases hP
          rcases hz with h | h <;> simp [h]
        · rw [prove_gap hf hk hz] at hP; cases hP
          have a1 : placeN L k ≠ 0 := fun h => hz (.inl h)
          have a2 : placeN L k ≠ L.length := fun h => hz (.inr h)
          rw [decide_eq_true a1, decide_eq_true a2]; rfl
    have he2 : ov = decide (es = 0) := by
      rw [hov', hov]
      by_cases hs : spanOk L k hi = true
      · rw [pspan_ok hf hs] at hS; cases hS; exact hs
      · rw [pspan_none hf hs] at hS; cases hS
        rw [Bool.eq_false_iff.2 hs]; rfl
    repeat' (first | with_reducible apply Stp.go | with_reducible refine imp fun _ => ?_ | (with_reducible refine hyp ?_ ?_; first | assumption | exact leftT_mem (by assumption)) | (with_reducible refine need ?_ ?_; first | trivial | omega | exact ⟨by assumption, by omega⟩ | (simp only [List.length_append, List.length_cons, List.length_nil, List.length_map, List.length_take, List.length_drop, List.length_replicate, List.length_set]; omega)) | (with_reducible refine fact ?_ ?_; first | trivial | exact ⟨rfl, rfl⟩ | kernel_rfl) | with_reducible refine choT (by assumption) ?_ | with_reducible refine choF (by assumption) ?_ | with_reducible refine choF' (by assumption) ?_ | (with_reducible refine altT ?_ ?_; first | omega | (simp only [List.length_append, List.length_cons, List.length_nil, List.length_map, List.length_take, List.length_drop, List.length_replicate, List.length_set]; omega)) | with_reducible refine altF ?_ | with_reducible refine all fun _ => ?_ | with_reducible refine both ?_ ?_ | (with_reducible refine choT ?_ ?_; omega) | (with_reducible refine choF ?_ ?_; omega) | with_reducible refine cho (fun _ => ?_) (fun _ => ?_))
    rename_i t10 t11 t13 t15
    refine joinI (β := Unit) (fun _ => True) (fun _ => [.lst 4 (L.map En.av) .ro, S k, S hi, B true, ptrAt t10 0, ptrAt t11 0, ptrAt t15 0, I .i64 (es : Nat)]) (fun _ => [.var t15 39 [I .i64 (p : Nat), .lst 1 (U.map bl) .ro, .lst 32 (V.map dgF) .ro], .var t11 48 (tabCs 1 (L.length : Nat) (rootD b (L.map enB)) (L.getD 0 default).key (L.getD (L.length - 1) default).key), .var t10 26 [I .i64 b]]) ?_ ?_
    · cases hkk : hasK L k with
      | true =>
        rw [prove_is hf hkk] at hP
        cases hP
        have hc1 : coversB (L.getD 0 default).key (L.getD (L.length - 1) default).key k = true := by rw [hcov, hkk]; rfl
        have hC := seekC_is b hf k k hkk hc1
        rw [if_pos rfl] at hC
        have iC := check_by (lv := 1) (h1 := len_opn b L (placeN L k)) (h2 := len_opn0) (by omega) hC
        have hlt := (place_lt hri hkk).1
        have hrf : L.getD (placeN L k) default = L.getD (placeN L k) default := rfl
        repeat' (first | with_reducible apply Stp.go | with_reducible refine imp fun _ => ?_ | (with_reducible refine hyp ?_ ?_; first | assumption | exact leftT_mem (by assumption)) | (with_reducible refine need ?_ ?_; first | trivial | omega | exact ⟨by assumption, by omega⟩ | (simp only [List.length_append, List.length_cons, List.length_nil, List.length_map, List.length_take, List.length_drop, List.length_replicate, List.length_set]; omega)) | (with_reducible refine fact ?_ ?_; first | trivial | exact ⟨rfl, rfl⟩ | kernel_rfl) | with_reducible refine choT (by assumption) ?_ | with_reducible refine choF (by assumption) ?_ | with_reducible refine choF' (by assumption) ?_ | (with_reducible refine altT ?_ ?_; first | omega | (simp only [List.length_append, List.length_cons, List.length_nil, List.length_map, List.length_take, List.length_drop, List.length_replicate, List.length_set]; omega)) | with_reducible refine altF ?_ | with_reducible refine all fun _ => ?_ | with_reducible refine both ?_ ?_ | (with_reducible refine choT ?_ ?_; omega) | (with_reducible refine choF ?_ ?_; omega) | with_reducible refine cho (fun _ => ?_) (fun _ => ?_))
        all_goals first
          | exact meet () trivial (subS _)
          | (exfalso; simp_all; done)
      | false =>
        by_cases hz : placeN L k = 0 ∨ placeN L k = L.length
        · rw [prove_none hf hkk hz] at hP
          cases hP
          repeat' (first | with_reducible apply Stp.go | with_reducible refine imp fun _ => ?_ | (with_reducible refine hyp ?_ ?_; first | assumption | exact leftT_mem (by assumption)) | (with_reducible refine need ?_ ?_; first | trivial | omega | exact ⟨by assumption, by omega⟩ | (simp only [List.length_append, List.length_cons, List.length_nil, List.length_map, List.length_take, List.length_drop, List.length_replicate, List.length_set]; omega)) | (with_reducible refine fact ?_ ?_; first | trivial | exact ⟨rfl, rfl⟩ | kernel_rfl) | with_reducible refine choT (by assumption) ?_ | with_reducible refine choF (by assumption) ?_ | with_reducible refine choF' (by assumption) ?_ | (with_reducible refine altT ?_ ?_; first | omega | (simp only [List.length_append, List.length_cons, List.length_nil, List.length_map, List.length_take, List.length_drop, List.length_replicate, List.length_set]; omega)) | with_reducible refine altF ?_ | with_reducible refine all fun _ => ?_ | with_reducible refine both ?_ ?_ | (with_reducible refine choT ?_ ?_; omega) | (with_reducible refine choF ?_ ?_; omega) | with_reducible refine cho (fun _ => ?_) (fun _ => ?_))
          exact meet () trivial (subS _)
        · rw [prove_gap hf hkk hz] at hP
          cases hP
          have hc1 : coversB (L.getD 0 default).key (L.getD (L.length - 1) default).key k = true := by rw [← hcv, he1]; rfl
          have hC := seekC_gap b hf (n := placeN L k) (by omega) (by omega) k hc1
          rw [if_pos ⟨hkk, rfl⟩] at hC
          have iC := check_by (lv := 1) (h1 := len_opn b L (placeN L k - 1)) (h2 := len_opn b L (placeN L k)) (by omega) hC
          repeat' (first | with_reducible apply Stp.go | with_reducible refine imp fun _ => ?_ | (with_reducible refine hyp ?_ ?_; first | assumption | exact leftT_mem (by assumption)) | (with_reducible refine need ?_ ?_; first | trivial | omega | exact ⟨by assumption, by omega⟩ | (simp only [List.length_append, List.length_cons, List.length_nil, List.length_map, List.length_take, List.length_drop, List.length_replicate, List.length_set]; omega)) | (with_reducible refine fact ?_ ?_; first | trivial | exact ⟨rfl, rfl⟩ | kernel_rfl) | with_reducible refine choT (by assumption) ?_ | with_reducible refine choF (by assumption) ?_ | with_reducible refine choF' (by assumption) ?_ | (with_reducible refine altT ?_ ?_; first | omega | (simp only [List.length_append, List.length_cons, List.length_nil, List.length_map, List.length_take, List.length_drop, List.length_replicate, List.length_set]; omega)) | with_reducible refine altF ?_ | with_reducible refine all fun _ => ?_ | with_reducible refine both ?_ ?_ | (with_reducible refine choT ?_ ?_; omega) | (with_reducible refine choF ?_ ?_; omega) | with_reducible refine cho (fun _ => ?_) (fun _ => ?_))
          all_goals first
            | exact meet () trivial (subS _)
            | (exfalso; simp_all; done)
    · rintro ⟨⟩ _
      by_cases hs : spanOk L k hi = true
      · rw [pspan_ok hf hs] at hS
        cases hS
        have hC := spanC_real b hf hs
        have iC := cspan_by (lv := 1) (by omega) (by simp; omega) (span_leaves L _ _) hC
        repeat' (first | with_reducible apply Stp.go | with_reducible refine imp fun _ => ?_ | (with_reducible refine hyp ?_ ?_; first | assumption | exact leftT_mem (by assumption)) | (with_reducible refine need ?_ ?_; first | trivial | omega | exact ⟨by assumption, by omega⟩ | (simp only [List.length_append, List.length_cons, List.length_nil, List.length_map, List.length_take, List.length_drop, List.length_replicate, List.length_set]; omega)) | (with_reducible refine fact ?_ ?_; first | trivial | exact ⟨rfl, rfl⟩ | kernel_rfl) | with_reducible refine choT (by assumption) ?_ | with_reducible refine choF (by assumption) ?_ | with_reducible refine choF' (by assumption) ?_ | (with_reducible refine altT ?_ ?_; first | omega | (simp only [List.length_append, List.length_cons, List.length_nil, List.length_map, List.length_take, List.length_drop, List.length_replicate, List.length_set]; omega)) | with_reducible refine altF ?_ | with_reducible refine all fun _ => ?_ | with_reducible refine both ?_ ?_ | (with_reducible refine choT ?_ ?_; omega) | (with_reducible refine choF ?_ ?_; omega) | with_reducible refine cho (fun _ => ?_) (fun _ => ?_))
        refine loopI (β := Nat × Value) (fun x => x.1 ≤ L.length) (fun x => [.lst 4 (L.map En.av) .ro, S k, S hi, B true, ptrAt t10 0, ptrAt t11 0, ptrAt t15 0, .own x.2 ((L.take x.1).filter (inS k hi)).length, I .i64 (x.1 : Nat)])
          (fun x => [.row x.2 54 4 (((L.take x.1).filter (inS k hi)).map En.av) 0, .var t15 39 [I .i64 (spFrom L k : Nat), .lst 1 ((((L.map enB).take (spTo L hi)).drop (spFrom L k)).map bl) .ro, .lst 32 ((bsD b (L.map enB) (spFrom L k : Nat) (spTo L hi : Nat)).map dgF) .ro], .var t11 48 (tabCs 1 (L.length : Nat) (rootD b (L.map enB)) (L.getD 0 default).key (L.getD (L.length - 1) default).key), .var t10 26 [I .i64 b]])
          (fun x => L.length - x.1) (0, .slice none 0 0) (Nat.zero_le _) (Sub.nil_own 54 (sz := 4) (by decide) [_, _, _] [_, _, _, _, _, _, _] [_]) ?_
        rintro ⟨i, v⟩ h1
        dsimp only at h1 ⊢
        by_cases hlt : i < L.length
        · have hkl : ((L.take i).filter (inS k hi)).length ≤ i := by
            have := List.length_filter_le (inS k hi) (L.take i)
            rw [List.length_take] at this
            omega
          have e2 : (L.take (i + 1)).filter (inS k hi) = (L.take i).filter (inS k hi) ++ (if inS k hi (L.getD i default) = true then [L.getD i default] else []) := by
            rw [take_succ_d hlt, List.filter_append]
            generalize L.getD i default = y
            by_cases hy : inS k hi y = true <;> simp [hy]
          have ein : inS k hi (L.getD i default) = (!lt (L.getD i default).key k && (decide (hi = []) || lt (L.getD i default).key hi)) := rfl
          cases hin : inS k hi (L.getD i default) with
          | true =>
            rw [hin, if_pos rfl] at e2
            rw [hin] at ein
            have f1 : lt (L.getD i default).key k = false := by
              cases h : lt (L.getD i default).key k with
              | false => rfl
              | true => rw [h] at ein; cases ein
            have fin : ∀ (w : Value), Again (fun x : Nat × Value => x.1 ≤ L.length) (fun x => [.lst 4 (L.map En.av) .ro, S k, S hi, B true, ptrAt t10 0, ptrAt t11 0, ptrAt t15 0, .own x.2 ((L.take x.1).filter (inS k hi)).length, I .i64 (x.1 : Nat)])
                (fun x => [.row x.2 54 4 (((L.take x.1).filter (inS k hi)).map En.av) 0, .var t15 39 [I .i64 (spFrom L k : Nat), .lst 1 ((((L.map enB).take (spTo L hi)).drop (spFrom L k)).map bl) .ro, .lst 32 ((bsD b (L.map enB) (spFrom L k : Nat) (spTo L hi : Nat)).map dgF) .ro], .var t11 48 (tabCs 1 (L.length : Nat) (rootD b (L.map enB)) (L.getD 0 default).key (L.getD (L.length - 1) default).key), .var t10 26 [I .i64 b]]) (fun x => L.length - x.1) (L.length - i)
                [.lst 4 (L.map En.av) .ro, S k, S hi, B true, ptrAt t10 0, ptrAt t11 0, ptrAt t15 0, .own w ((L.take i).filter (inS k hi) ++ [L.getD i default]).length, I .i64 ((i + 1 : Nat) : Int)]
                [.row w 54 4 (((L.take i).filter (inS k hi) ++ [L.getD i default]).map En.av) 0, .var t15 39 [I .i64 (spFrom L k : Nat), .lst 1 ((((L.map enB).take (spTo L hi)).drop (spFrom L k)).map bl) .ro, .lst 32 ((bsD b (L.map enB) (spFrom L k : Nat) (spTo L hi : Nat)).map dgF) .ro], .var t11 48 (tabCs 1 (L.length : Nat) (rootD b (L.map enB)) (L.getD 0 default).key (L.getD (L.length - 1) default).key), .var t10 26 [I .i64 b]] := fun w => again (i + 1, w) (by dsimp only; omega) (by dsimp only; omega) (by dsimp only; rw [e2]; exact Sub.refl _ _)
            by_cases hh : hi = []
            · repeat' (first | with_reducible apply Stp.go | with_reducible refine imp fun _ => ?_ | (with_reducible refine hyp ?_ ?_; first | assumption | exact leftT_mem (by assumption)) | (with_reducible refine need ?_ ?_; first | trivial | omega | exact ⟨by assumption, by omega⟩ | (simp only [List.length_append, List.length_cons, List.length_nil, List.length_map, List.length_take, List.length_drop, List.length_replicate, List.length_set]; omega)) | (with_reducible refine fact ?_ ?_; first | trivial | exact ⟨rfl, rfl⟩ | kernel_rfl) | with_reducible refine choT (by assumption) ?_ | with_reducible refine choF (by assumption) ?_ | with_reducible refine choF' (by assumption) ?_ | (with_reducible refine altT ?_ ?_; first | omega | (simp only [List.length_append, List.length_cons, List.length_nil, List.length_map, List.length_take, List.length_drop, List.length_replicate, List.length_set]; omega)) | with_reducible refine altF ?_ | with_reducible refine all fun _ => ?_ | with_reducible refine both ?_ ?_ | (with_reducible refine choT ?_ ?_; omega) | (with_reducible refine choF ?_ ?_; omega) | with_reducible refine cho (fun _ => ?_) (fun _ => ?_))
              exact fin _
            · have f2 : lt (L.getD i default).key hi = true := by rw [f1, decide_eq_false hh] at ein; simpa using ein.symm
              repeat' (first | with_reducible apply Stp.go | with_reducible refine imp fun _ => ?_ | (with_reducible refine hyp ?_ ?_; first | assumption | exact leftT_mem (by assumption)) | (with_reducible refine need ?_ ?_; first | trivial | omega | exact ⟨by assumption, by omega⟩ | (simp only [List.length_append, List.length_cons, List.length_nil, List.length_map, List.length_take, List.length_drop, List.length_replicate, List.length_set]; omega)) | (with_reducible refine fact ?_ ?_; first | trivial | exact ⟨rfl, rfl⟩ | kernel_rfl) | with_reducible refine choT (by assumption) ?_ | with_reducible refine choF (by assumption) ?_ | with_reducible refine choF' (by assumption) ?_ | (with_reducible refine altT ?_ ?_; first | omega | (simp only [List.length_append, List.length_cons, List.length_nil, List.length_map, List.length_take, List.length_drop, List.length_replicate, List.length_set]; omega)) | with_reducible refine altF ?_ | with_reducible refine all fun _ => ?_ | with_reducible refine both ?_ ?_ | (with_reducible refine choT ?_ ?_; omega) | (with_reducible refine choF ?_ ?_; omega) | with_reducible refine cho (fun _ => ?_) (fun _ => ?_))
              exact fin _
          | false =>
            rw [hin, if_neg (by decide), List.append_nil] at e2
            rw [hin] at ein
            have fin : Again (fun x : Nat × Value => x.1 ≤ L.length) (fun x => [.lst 4 (L.map En.av) .ro, S k, S hi, B true, ptrAt t10 0, ptrAt t11 0, ptrAt t15 0, .own x.2 ((L.take x.1).filter (inS k hi)).length, I .i64 (x.1 : Nat)])
                (fun x => [.row x.2 54 4 (((L.take x.1).filter (inS k hi)).map En.av) 0, .var t15 39 [I .i64 (spFrom L k : Nat), .lst 1 ((((L.map enB).take (spTo L hi)).drop (spFrom L k)).map bl) .ro, .lst 32 ((bsD b (L.map enB) (spFrom L k : Nat) (spTo L hi : Nat)).map dgF) .ro], .var t11 48 (tabCs 1 (L.length : Nat) (rootD b (L.map enB)) (L.getD 0 default).key (L.getD (L.length - 1) default).key), .var t10 26 [I .i64 b]]) (fun x => L.length - x.1) (L.length - i)
                [.lst 4 (L.map En.av) .ro, S k, S hi, B true, ptrAt t10 0, ptrAt t11 0, ptrAt t15 0, .own v ((L.take i).filter (inS k hi)).length, I .i64 ((i + 1 : Nat) : Int)]
                [.row v 54 4 (((L.take i).filter (inS k hi)).map En.av) 0, .var t15 39 [I .i64 (spFrom L k : Nat), .lst 1 ((((L.map enB).take (spTo L hi)).drop (spFrom L k)).map bl) .ro, .lst 32 ((bsD b (L.map enB) (spFrom L k : Nat) (spTo L hi : Nat)).map dgF) .ro], .var t11 48 (tabCs 1 (L.length : Nat) (rootD b (L.map enB)) (L.getD 0 default).key (L.getD (L.length - 1) default).key), .var t10 26 [I .i64 b]] := again (i + 1, v) (by dsimp only; omega) (by dsimp only; omega) (by dsimp only; rw [e2]; exact Sub.refl _ _)
            cases f1 : lt (L.getD i default).key k with
            | true =>
              repeat' (first | with_reducible apply Stp.go | with_reducible refine imp fun _ => ?_ | (with_reducible refine hyp ?_ ?_; first | assumption | exact leftT_mem (by assumption)) | (with_reducible refine need ?_ ?_; first | trivial | omega | exact ⟨by assumption, by omega⟩ | (simp only [List.length_append, List.length_cons, List.length_nil, List.length_map, List.length_take, List.length_drop, List.length_replicate, List.length_set]; omega)) | (with_reducible refine fact ?_ ?_; first | trivial | exact ⟨rfl, rfl⟩ | kernel_rfl) | with_reducible refine choT (by assumption) ?_ | with_reducible refine choF (by assumption) ?_ | with_reducible refine choF' (by assumption) ?_ | (with_reducible refine altT ?_ ?_; first | omega | (simp only [List.length_append, List.length_cons, List.length_nil, List.length_map, List.length_take, List.length_drop, List.length_replicate, List.length_set]; omega)) | with_reducible refine altF ?_ | with_reducible refine all fun _ => ?_ | with_reducible refine both ?_ ?_ | (with_reducible refine choT ?_ ?_; omega) | (with_reducible refine choF ?_ ?_; omega) | with_reducible refine cho (fun _ => ?_) (fun _ => ?_))
              exact fin
            | false =>
              rw [f1, Bool.not_false, Bool.true_and] at ein
              have hh : ¬ hi = [] := fun h => by rw [decide_eq_true h] at ein; cases ein
              have f2 : lt (L.getD i default).key hi = false := by rw [decide_eq_false hh] at ein; simpa using ein.symm
              repeat' (first | with_reducible apply Stp.go | with_reducible refine imp fun _ => ?_ | (with_reducible refine hyp ?_ ?_; first | assumption | exact leftT_mem (by assumption)) | (with_reducible refine need ?_ ?_; first | trivial | omega | exact ⟨by assumption, by omega⟩ | (simp only [List.length_append, List.length_cons, List.length_nil, List.length_map, List.length_take, List.length_drop, List.length_replicate, List.length_set]; omega)) | (with_reducible refine fact ?_ ?_; first | trivial | exact ⟨rfl, rfl⟩ | kernel_rfl) | with_reducible refine choT (by assumption) ?_ | with_reducible refine choF (by assumption) ?_ | with_reducible refine choF' (by assumption) ?_ | (with_reducible refine altT ?_ ?_; first | omega | (simp only [List.length_append, List.length_cons, List.length_nil, List.length_map, List.length_take, List.length_drop, List.length_replicate, List.length_set]; omega)) | with_reducible refine altF ?_ | with_reducible refine all fun _ => ?_ | with_reducible refine both ?_ ?_ | (with_reducible refine choT ?_ ?_; omega) | (with_reducible refine choF ?_ ?_; omega) | with_reducible refine cho (fun _ => ?_) (fun _ => ?_))
              exact fin
        · have e : L.take i = L := List.take_of_length_le (by omega)
          rw [e]
          have hrf : L.filter (inS k hi) = L.filter (inS k hi) := rfl
          have hfl := List.length_filter_le (inS k hi) L
          repeat' (first | with_reducible apply Stp.go | with_reducible refine imp fun _ => ?_ | (with_reducible refine hyp ?_ ?_; first | assumption | exact leftT_mem (by assumption)) | (with_reducible refine need ?_ ?_; first | trivial | omega | exact ⟨by assumption, by omega⟩ | (simp only [List.length_append, List.length_cons, List.length_nil, List.length_map, List.length_take, List.length_drop, List.length_replicate, List.length_set]; omega)) | (with_reducible refine fact ?_ ?_; first | trivial | exact ⟨rfl, rfl⟩ | kernel_rfl) | with_reducible refine choT (by assumption) ?_ | with_reducible refine choF (by assumption) ?_ | with_reducible refine choF' (by assumption) ?_ | (with_reducible refine altT ?_ ?_; first | omega | (simp only [List.length_append, List.length_cons, List.length_nil, List.length_map, List.length_take, List.length_drop, List.length_replicate, List.length_set]; omega)) | with_reducible refine altF ?_ | with_reducible refine all fun _ => ?_ | with_reducible refine both ?_ ?_ | (with_reducible refine choT ?_ ?_; omega) | (with_reducible refine choF ?_ ?_; omega) | with_reducible refine cho (fun _ => ?_) (fun _ => ?_))
          all_goals
            refine ⟨_, _, _, rfl, Sub.app_nil _, ?_, rfl⟩
            rw [decide_eq_true hrf]
      · rw [pspan_none hf hs] at hS
        cases hS
        repeat' (first | with_reducible apply Stp.go | with_reducible refine imp fun _ => ?_ | (with_reducible refine hyp ?_ ?_; first | assumption | exact leftT_mem (by assumption)) | (with_reducible refine need ?_ ?_; first | trivial | omega | exact ⟨by assumption, by omega⟩ | (simp only [List.length_append, List.length_cons, List.length_nil, List.length_map, List.length_take, List.length_drop, List.length_replicate, List.length_set]; omega)) | (with_reducible refine fact ?_ ?_; first | trivial | exact ⟨rfl, rfl⟩ | kernel_rfl) | with_reducible refine choT (by assumption) ?_ | with_reducible refine choF (by assumption) ?_ | with_reducible refine choF' (by assumption) ?_ | (with_reducible refine altT ?_ ?_; first | omega | (simp only [List.length_append, List.length_cons, List.length_nil, List.length_map, List.length_take, List.length_drop, List.length_replicate, List.length_set]; omega)) | with_reducible refine altF ?_ | with_reducible refine all fun _ => ?_ | with_reducible refine both ?_ ?_ | (with_reducible refine choT ?_ ?_; omega) | (with_reducible refine choF ?_ ?_; omega) | with_reducible refine cho (fun _ => ?_) (fun _ => ?_))
        all_goals exact ⟨_, _, _, rfl, Sub.app_nil _, rfl, rfl⟩
  · have hf : ¬ fit L = true := fun h => h0 (fit_right h).2.1
    have iD : ∀ {a : AV} {m : SM} [h : IsL a En.av 4 L m], PC Go.Proofs.Try.prog 30 [trA b, .val (.int .i64 1), a] True _ := desc_not (b := b) (lev := 1) rfl (by omega) (by decide) (fun h => hf h.1)
    have iP : ∀ {a : AV} {m : SM} [h : IsL a En.av 4 L m], PC Go.Proofs.Try.prog 12 [trA b, a, S k] True _ := prove_by (by omega) (prove_not hf)
    have iS : ∀ {a : AV} {m : SM} [h : IsL a En.av 4 L m], PC Go.Proofs.Try.prog 14 [trA b, a, S k, S hi] True _ := pspan_by (by omega) (pspan_not hf)
    repeat' (first | with_reducible apply Stp.go | with_reducible refine imp fun _ => ?_ | (with_reducible refine hyp ?_ ?_; first | assumption | exact leftT_mem (by assumption)) | (with_reducible refine need ?_ ?_; first | trivial | omega | exact ⟨by assumption, by omega⟩ | (simp only [List.length_append, List.length_cons, List.length_nil, List.length_map, List.length_take, List.length_drop, List.length_replicate, List.length_set]; omega)) | (with_reducible refine fact ?_ ?_; first | trivial | exact ⟨rfl, rfl⟩ | kernel_rfl) | with_reducible refine choT (by assumption) ?_ | with_reducible refine choF (by assumption) ?_ | with_reducible refine choF' (by assumption) ?_ | (with_reducible refine altT ?_ ?_; first | omega | (simp only [List.length_append, List.length_cons, List.length_nil, List.length_map, List.length_take, List.length_drop, List.length_replicate, List.length_set]; omega)) | with_reducible refine altF ?_ | with_reducible refine all fun _ => ?_ | with_reducible refine both ?_ ?_ | (with_reducible refine choT ?_ ?_; omega) | (with_reducible refine choF ?_ ?_; omega) | with_reducible refine cho (fun _ => ?_) (fun _ => ?_))
    all_goals exact ⟨_, _, _, rfl, Sub.app_nil _, rfl, rfl⟩
end Go.Ab
