/- The texts that this claim needs, part 15: a logic over abstract values, its steps, what the functions do. No condition of its own. -/
import Derived.Test.YtghihffhjpchpaaGreatMoveKeepsK14
/- Layer 17: MoveKeeps. -/
set_option linter.unusedVariables false
set_option linter.unusedSimpArgs false
namespace Go.Ab
theorem cntL_succ {l : List TabR} {i : Nat} (h : i < l.length) : cntL 0 (l.take (i + 1)) = cntL 0 (l.take i) + if (l.getD i default).lev = 0 then 1 else 0 := by
  unfold cntL
  rw [take_succ_d h, List.filter_append, List.length_append]
  generalize l.getD i default = x
  congr 1
  by_cases hp : x.lev = 0
  · rw [if_pos hp, List.filter_cons_of_pos (by rw [decide_eq_true hp])]; rfl
  · rw [if_neg hp, List.filter_cons_of_neg (by rw [decide_eq_false hp]; decide)]; rfl
def law17_MoveKeeps.mark : Mark := ⟨fun t => Nat.beq t 27 || Nat.beq t 34 || Nat.beq t 45 || Nat.beq t 51 || Nat.beq t 56 || Nat.beq t 78 || Nat.beq t 91 || Nat.beq t 93 || Nat.beq t 98 || Nat.beq t 103 || Nat.beq t 131, fun t => false, fun t => false, fun t => Nat.beq t 72 || Nat.beq t 126 || Nat.beq t 130 || Nat.beq t 141, fun t => false⟩
def law17_MoveKeeps.ann : Ann := ⟨fun n => bif Nat.beq n 8 then [8, 9, 10, 12, 13] else bif Nat.beq n 15 then [9, 18, 19] else bif Nat.beq n 27 then [8, 9, 10, 12, 13, 24] else [], fun n => none, fun n => bif Nat.beq n 29 then some [8, 9, 10, 12, 13, 24, 25, 26] else none⟩
/-- 'marlstone/marlstonelaw17.MoveKeeps' -/
def law17_MoveKeeps.sh (a0 a1 a2 : AV) (σ : Store) (Q : AEnd → Store → Prop) : Prop :=
  Do (aPureC Go.Proofs.Tryz.prog 7 []) fun t27 =>
  Do (aLit [.val (.int .i64 0)] [(0, 1)] [(0, a0)]) fun t29 =>
  aNewVar 27 [.val (.int .i64 0)] σ fun t8 σ =>
  storeA 1 t8 t29 σ fun u σ_1 =>
  Do (loadA true 1 t8 σ_1) fun t31 =>
  Do (aPureC Go.Proofs.Tryz.prog 8 [t31, a1, a2]) fun t34 =>
  Do (aExt t34 0) fun t35 =>
  Do (aExt t34 1) fun t36 =>
  Do (aExt t34 2) fun t37 =>
  Do (aUn Go.Proofs.Tryz.prog .not t27) fun t39 =>
  Do (aGuard t39 false (aIs t37)) fun t41 =>
  Do (aGuard t39 false (aUn Go.Proofs.Tryz.prog .not t41)) fun t42 =>
  Do (aPick t39 (.val (.bool true)) t42) fun t43 =>
  aCond t43
    (Q (.ret (.val (.bool false))) σ_1)
    (Do (aPureC Go.Proofs.Tryz.prog 22 [t36]) fun t45 =>
  aLoop (fun go vs σ_2 =>
    At vs 0 fun s8 => At vs 1 fun s9 => At vs 2 fun s10 => At vs 3 fun s12 => At vs 4 fun s13 => Do (aBin Go.Proofs.Tryz.prog .lss 3 s13 (.val (.int .i64 100))) fun t47 =>
    aCond t47
      (Do (aPureC Go.Proofs.Tryz.prog 25 [s9]) fun t51 =>
    Do (loadA true 1 s8 σ_2) fun t53 =>
    Do (aPureC Go.Proofs.Tryz.prog 26 [t53, s9, s10]) fun t56 =>
    Do (aExt t56 0) fun t57 =>
    Do (aExt t56 1) fun t58 =>
    Do (aExt t56 2) fun t59 =>
    Do (aUn Go.Proofs.Tryz.prog .not t59) fun t61 =>
    aCond t61
      (aLoop (fun go_1 vs_1 σ_3 =>
        At vs_1 0 fun s9_1 => At vs_1 1 fun s18 => At vs_1 2 fun s19 => Do (aBuiltin Go.Proofs.Tryz.prog .len #[24] [s9_1]) fun t64 =>
        Do (aBin Go.Proofs.Tryz.prog .lss 3 s19 t64) fun t65 =>
        aCond t65
          (Do (aIndexAddr .slice 36 s9_1 s19) fun t70 =>
        Do (aFieldAddr 0 1 t70) fun t71 =>
        Do (loadF false 1 t71) fun t72 =>
        Do (aBin Go.Proofs.Tryz.prog .eql 3 t72 (.val (.int .i64 0))) fun t73 =>
        aCond t73
          (Do (aBin Go.Proofs.Tryz.prog .add 3 s18 (.val (.int .i64 1))) fun t75 =>
          Do (aBin Go.Proofs.Tryz.prog .add 3 s19 (.val (.int .i64 1))) fun t67 =>
        go_1 [s9_1, t75, t67] σ_3)
          (Do (aBin Go.Proofs.Tryz.prog .add 3 s19 (.val (.int .i64 1))) fun t67_1 =>
        go_1 [s9_1, s18, t67_1] σ_3))
          (Do (aPureC Go.Proofs.Tryz.prog 9 [s9_1]) fun t78 =>
      Do (aExt t78 0) fun t79 =>
      Do (aExt t78 1) fun t80 =>
      Do (aExt t78 2) fun t81 =>
      Do (aUn Go.Proofs.Tryz.prog .not t81) fun t83 =>
      Do (aGuard t83 true (aIs s18)) fun t85 =>
      Do (aGuard t83 true (aBin Go.Proofs.Tryz.prog .leq 3 t85 (.val (.int .i64 4)))) fun t86 =>
      Do (aPick t83 t86 (.val (.bool false))) fun t87 =>
      Q (.ret t87) σ_3))
        [s9, (.val (.int .i64 0)), (.val (.int .i64 0))] σ_2)
      (Do (aPureC Go.Proofs.Tryz.prog 22 [t58]) fun t91 =>
    Do (aPureC Go.Proofs.Tryz.prog 24 [t91, s12]) fun t93 =>
    Do (aUn Go.Proofs.Tryz.prog .not t93) fun t95 =>
    Do (aGuard t95 false (aIs t57)) fun t97 =>
    Do (aGuard t95 false (aPureC Go.Proofs.Tryz.prog 21 [t97])) fun t98 =>
    Do (aGuard t95 false (aUn Go.Proofs.Tryz.prog .not t98)) fun t99 =>
    Do (aPick t95 (.val (.bool true)) t99) fun t100 =>
    Do (aGuard t100 false (aIs t57)) fun t102 =>
    Do (aGuard t100 false (aPureC Go.Proofs.Tryz.prog 25 [t102])) fun t103 =>
    Do (aGuard t100 false (aIs t51)) fun t104 =>
    Do (aGuard t100 false (aBin Go.Proofs.Tryz.prog .geq 3 t103 t104)) fun t105 =>
    Do (aPick t100 (.val (.bool true)) t105) fun t106 =>
    Do (aGuard t106 false (aIs t57)) fun t108 =>
    Do (aGuard t106 false (aBuiltin Go.Proofs.Tryz.prog .len #[24] [t108])) fun t109 =>
    Do (aGuard t106 false (aIs t58)) fun t110 =>
    Do (aGuard t106 false (aBuiltin Go.Proofs.Tryz.prog .len #[22] [t110])) fun t111 =>
    Do (aGuard t106 false (aBin Go.Proofs.Tryz.prog .neq 3 t109 t111)) fun t112 =>
    Do (aPick t106 (.val (.bool true)) t112) fun t113 =>
    aCond t113
      (Q (.ret (.val (.bool false))) σ_2)
      (aLoop (fun go_2 vs_2 σ_4 =>
      At vs_2 0 fun s8_1 => At vs_2 1 fun s9_2 => At vs_2 2 fun s10_1 => At vs_2 3 fun s12_1 => At vs_2 4 fun s13_1 => At vs_2 5 fun s24 => Do (aBuiltin Go.Proofs.Tryz.prog .len #[24] [s9_2]) fun t116 =>
      Do (aBin Go.Proofs.Tryz.prog .lss 3 s24 t116) fun t117 =>
      aCond t117
        (aJoin (fun j =>
        Do (aIndexAddr .slice 36 s9_2 s24) fun t124 =>
        Do (aFieldAddr 0 1 t124) fun t125 =>
        Do (loadF false 1 t125) fun t126 =>
        Do (aIndexAddr .slice 1 s10_1 s24) fun t129 =>
        Do (loadF false 1 t129) fun t130 =>
        Both (Do (loadA true 1 s8_1 σ_4) fun t121 =>
        Do (aPureC Go.Proofs.Tryz.prog 27 [t121, t126, t130]) fun t131 =>
        Do (aExt t131 0) fun t132 =>
        Do (aExt t131 1) fun t133 =>
        aNewVar 58 [.val (.int .i64 0), .val (.int .i64 0), .val (.int .u8 0), .val (.int .u8 0), .val (.int .u8 0), .val (.int .u8 0), .val (.int .u8 0), .val (.int .u8 0), .val (.int .u8 0), .val (.int .u8 0), .val (.int .u8 0), .val (.int .u8 0), .val (.int .u8 0), .val (.int .u8 0), .val (.int .u8 0), .val (.int .u8 0), .val (.int .u8 0), .val (.int .u8 0), .val (.int .u8 0), .val (.int .u8 0), .val (.int .u8 0), .val (.int .u8 0), .val (.int .u8 0), .val (.int .u8 0), .val (.int .u8 0), .val (.int .u8 0), .val (.int .u8 0), .val (.int .u8 0), .val (.int .u8 0), .val (.int .u8 0), .val (.int .u8 0), .val (.int .u8 0), .val (.int .u8 0), .val (.int .u8 0), .val (.string ⟨#[]⟩), .val (.string ⟨#[]⟩)] σ_4 fun t25 σ_6 =>
        storeA 36 t25 t132 σ_6 fun u_1 σ_7 =>
        j [s8_1, s9_2, s10_1, s12_1, s13_1, s24, t25, t133] σ_7) (aNewVar 58 [.val (.int .i64 0), .val (.int .i64 0), .val (.int .u8 0), .val (.int .u8 0), .val (.int .u8 0), .val (.int .u8 0), .val (.int .u8 0), .val (.int .u8 0), .val (.int .u8 0), .val (.int .u8 0), .val (.int .u8 0), .val (.int .u8 0), .val (.int .u8 0), .val (.int .u8 0), .val (.int .u8 0), .val (.int .u8 0), .val (.int .u8 0), .val (.int .u8 0), .val (.int .u8 0), .val (.int .u8 0), .val (.int .u8 0), .val (.int .u8 0), .val (.int .u8 0), .val (.int .u8 0), .val (.int .u8 0), .val (.int .u8 0), .val (.int .u8 0), .val (.int .u8 0), .val (.int .u8 0), .val (.int .u8 0), .val (.int .u8 0), .val (.int .u8 0), .val (.int .u8 0), .val (.int .u8 0), .val (.string ⟨#[]⟩), .val (.string ⟨#[]⟩)] σ_4 fun t25_1 σ_8 =>
        Do (loadA true 1 s8_1 σ_8) fun t121_1 =>
        Do (aPureC Go.Proofs.Tryz.prog 27 [t121_1, t126, t130]) fun t131_1 =>
        Do (aExt t131_1 0) fun t132_1 =>
        Do (aExt t131_1 1) fun t133_1 =>
        storeA 36 t25_1 t132_1 σ_8 fun u_2 σ_9 =>
        j [s8_1, s9_2, s10_1, s12_1, s13_1, s24, t25_1, t133_1] σ_9)) fun vs_3 σ_5 =>
      At vs_3 0 fun s8_2 => At vs_3 1 fun s9_3 => At vs_3 2 fun s10_2 => At vs_3 3 fun s12_2 => At vs_3 4 fun s13_2 => At vs_3 5 fun s24_1 => At vs_3 6 fun s25 => At vs_3 7 fun s26 => Do (aBin Go.Proofs.Tryz.prog .neq 35 s26 (.val (.int .i64 0))) fun t135 =>
      Do (aGuard t135 false (loadA true 36 s25 σ_5)) fun t137 =>
      Do (aGuard t135 false (aIs s9_3)) fun t138 =>
      Do (aGuard t135 false (aIs s24_1)) fun t139 =>
      Do (aGuard t135 false (aIndexAddr .slice 36 t138 t139)) fun t140 =>
      Do (aGuard t135 false (loadF true 36 t140)) fun t141 =>
      Do (aGuard t135 false (aBin Go.Proofs.Tryz.prog .neq 58 t137 t141)) fun t142 =>
      Do (aPick t135 (.val (.bool true)) t142) fun t143 =>
      aCond t143
        (Q (.ret (.val (.bool false))) σ_5)
        (Do (aBin Go.Proofs.Tryz.prog .add 3 s24_1 (.val (.int .i64 1))) fun t119 =>
      go_2 [s8_2, s9_3, s10_2, s12_2, s13_2, t119] σ_5))
        (Do (aBin Go.Proofs.Tryz.prog .add 3 s13_1 (.val (.int .i64 1))) fun t49 =>
    go [s8_1, s9_2, s10_1, s12_1, t49] σ_4))
      [s8, t57, t58, s12, s13, (.val (.int .i64 0))] σ_2)))
      (Q (.ret (.val (.bool false))) σ_2))
    [t8, t35, t36, t45, (.val (.int .i64 0))] σ_1)
theorem law17_MoveKeeps.eq (a0 a1 a2 : AV) (σ : Store) (Q : AEnd → Store → Prop) : vc (semOf Go.Proofs.Tryz.prog law17_MoveKeeps.mark) Go.Proofs.Tryz.f5.ntmps law17_MoveKeeps.ann (bodyOf Go.Proofs.Tryz.f5) (endK [.tmp 6] Q) (argFr [a0, a1, a2]) σ = law17_MoveKeeps.sh a0 a1 a2 σ Q := by kernel_rfl
theorem law17_MoveKeeps.go {a0 a1 a2 : AV} {σ : Store} {Q : AEnd → Store → Prop} (h : law17_MoveKeeps.sh a0 a1 a2 σ Q) : ACalls Go.Proofs.Tryz.prog 5 [a0, a1, a2] σ Q :=
  acalls_of_eq [.tmp 6] Go.Proofs.Tryz.func5 (by kernel_rfl) (by kernel_rfl) (by kernel_rfl) (by kernel_rfl) (law17_MoveKeeps.eq a0 a1 a2 σ Q) h
theorem MoveKeeps_at (b : Int) (news : List (List En)) (m : SM) (merges : List Int) (m' : SM) (hn : news.length ≤ 9223372036854775807) (hm : merges.length ≤ 9223372036854775807) (hnl : ∀ r ∈ news, r.length ≤ 9223372036854775807) :
    aPure Go.Proofs.Tryz.prog 5 [I .i64 b, .lst 1 (news.map enL) m, .lst 1 (merges.map it) m'] (B true) := by
  refine ACalls.fin (law17_MoveKeeps.go ?_)
  unfold law17_MoveKeeps.sh
  have hs := store_all b news merges (min news.length 14) (by omega)
  have htt : (true : Bool) = true := rfl
  have hff : ¬ (false : Bool) = true := by decide
  have iS : ∀ {a c : AV} {m m' : SM} [h1 : IsL a enL 1 news m] [h2 : IsL c it 1 merges m'], PC Go.Proofs.Tryz.prog 8 [trA b, a, c] True
    (.tuple [.lst 36 ((storeT b news merges (min news.length 14)).1.map tbF) .ro, .lst 1 ((storeT b news merges (min news.length 14)).2.map enL) .ro, B true]) := by
    intro a c m m' h1 h2
    exact ⟨fun _ => ⟨[trA b, .lst 1 (news.map enL) m, .lst 1 (merges.map it) m'], ⟨SubV.refl _, h1.sub, h2.sub, trivial⟩, store_ok b news merges m m' hn hm hnl⟩⟩
  generalize storeT b news merges (min news.length 14) = s at *
  obtain ⟨l0, rows0⟩ := s
  dsimp only at hs iS
  have wW : ∀ {l : List TabR} {rows : List (List En)}, StoreOk b l rows → l.length ≤ 14 → ∀ {a : AV} {m : SM} [h : IsL a enL 1 rows m], PC Go.Proofs.Tryz.prog 22 [a] True (.lst 4 ((wholeT rows).map En.av) .ro) := by
    intro l rows hs hl a m h
    have hfr := tells_len hs.tells
    have hrl := hs.tells.len
    exact ⟨fun _ => ⟨[.lst 1 (rows.map enL) m], ⟨h.sub, trivial⟩, Whole_ok rows m (by omega) fun r hr => by have := (fit_right (hfr r hr)).1; omega⟩⟩
  have iW0 := @wW l0 rows0 hs.1 (by omega)
  have hwl0 := whole_len rows0
  have htl0 := tells_totL hs.1.tells
  have hmu0 := muT_le l0
  repeat' (first|with_reducible (first|apply Stp.go|refine imp fun _=>?_|(refine need ?_ ?_;first|trivial|omega|exact ⟨by assumption,by omega⟩|(simp only [zL,zM];omega))|refine choT (by assumption) ?_|refine choF (by assumption) ?_|refine choF' (by assumption) ?_|(refine altT ?_ ?_;first|omega|(simp only [zL,zM];omega))|refine altF ?_|refine all fun _=>?_|refine both ?_ ?_|(refine choT ?_ ?_;omega)|(refine choF ?_ ?_;omega)|refine cho (fun _=>?_) fun _=>?_)|(with_reducible refine fact ?_ ?_;first|trivial|exact ⟨rfl,rfl⟩|kernel_rfl))
  generalize hwas : wholeT rows0 = was at *
  have hwl : was.length ≤ 1000 := by omega
  rename_i bt
  refine loopI (β := Nat × List TabR × List (List En)) (fun x => x.1 + muT x.2.1 ≤ 29 ∧ StoreOk b x.2.1 x.2.2 ∧ x.2.1.length ≤ 14 ∧ wholeT x.2.2 = was)
    (fun x => [ptrAt bt 0, .lst 36 (x.2.1.map tbF) .ro, .lst 1 (x.2.2.map enL) .ro, .lst 4 (was.map En.av) .ro, I .i64 (x.1 : Nat)])
    (fun _ => [.var bt 27 [it b]]) (fun x => 100 - x.1) (0, l0, rows0) ⟨by dsimp only; omega, hs.1, by dsimp only; omega, hwas⟩ (Sub.refl _ _) ?_
  rintro ⟨k, l, rows⟩ ⟨q1, q2, q3, q4⟩
  dsimp only at q1 q2 q3 q4 ⊢
  have hk : k < 100 := by omega
  obtain ⟨hmay, _, _⟩ := (rightT_iff l).1 q2.right
  have hM := merged_ok b l rows q2
  have hI := Inputs_ok l .ro (by omega)
  have iSc : PC Go.Proofs.Tryz.prog 25 [.lst 36 (l.map tbF) .ro] True (I .i64 (scoreT l)) := ⟨fun _ => PC.of (Score_ok l .ro (by omega) hmay)⟩
  unfold mergedR at hM
  unfold inputsR pickR at hI
  rw [if_pos q2.right] at hI
  by_cases hlv : lvlT l < 3
  · rw [if_pos hlv] at hM
    have hma := merged_all q2 hlv
    have hkw := keep_whole q2 hlv
    have hsf := score_falls q2 hlv
    have hmf := mu_falls q2 hlv q3
    rw [q4] at hkw
    have iM : PC Go.Proofs.Tryz.prog 26 [trA b, .lst 36 (l.map tbF) .ro, .lst 1 (rows.map enL) .ro] True _ := ⟨fun _ => PC.of hM⟩
    obtain ⟨hst, hln, _⟩ := hma
    generalize mergedT b l rows = y at *
    obtain ⟨nx, rows2⟩ := y
    dsimp only at hM hst hln hkw hsf hmf iM
    obtain ⟨hmay2, _, _⟩ := (rightT_iff nx).1 hst.right
    have iW := @wW nx rows2 hst (by omega)
    have iSc2 : PC Go.Proofs.Tryz.prog 25 [.lst 36 (nx.map tbF) .ro] True (I .i64 (scoreT nx)) := ⟨fun _ => PC.of (Score_ok nx .ro (by omega) hmay2)⟩
    have hrr := hst.right
    have hrl := hst.tells.len
    have hrl2 : nx.length = rows2.length := hrl.symm
    have hwl2 : (wholeT rows2).length ≤ 1000 := by rw [hkw]; exact hwl
    have hge : ¬ scoreT l ≤ scoreT nx := by omega
    repeat' (first|with_reducible (first|apply Stp.go|refine imp fun _=>?_|(refine need ?_ ?_;first|trivial|omega|exact ⟨by assumption,by omega⟩|(simp only [zL,zM];omega))|refine choT (by assumption) ?_|refine choF (by assumption) ?_|refine choF' (by assumption) ?_|(refine altT ?_ ?_;first|omega|(simp only [zL,zM];omega))|refine altF ?_|refine all fun _=>?_|refine both ?_ ?_|(refine choT ?_ ?_;omega)|(refine choF ?_ ?_;omega)|refine cho (fun _=>?_) fun _=>?_)|(with_reducible refine fact ?_ ?_;first|trivial|exact ⟨rfl,rfl⟩|kernel_rfl))
    refine loopI (β := Nat) (fun i => i ≤ nx.length) (fun i => [ptrAt bt 0, .lst 36 (nx.map tbF) .ro, .lst 1 (rows2.map enL) .ro, .lst 4 (was.map En.av) .ro, I .i64 (k : Nat), I .i64 (i : Nat)]) (fun _ => [.var bt 27 [it b]]) (fun i => nx.length - i) 0 (Nat.zero_le _) (Sub.refl _ _) ?_
    intro i hi
    by_cases hil : i < nx.length
    · have hor := hst.tells.at_ i hil
      have hir : i < rows2.length := by omega
      have hf := hor.fit
      have hlo := hor.lo
      have hhi := hor.hi
      have heq := hor.eq
      obtain ⟨lv, hlv2⟩ : ∃ lv : Nat, (nx.getD i default).lev = (lv : Nat) := ⟨_, (Int.toNat_of_nonneg hlo).symm⟩
      rw [show (nx.getD i default).lev.toNat = lv by rw [hlv2, Int.toNat_natCast]] at heq
      have iD : ∀ {a : AV} {m : SM} [h : IsL a En.av 4 (rows2.getD i default) m], PC Go.Proofs.Tryz.prog 27 [trA b, .val (.int .i64 ((lv : Nat) : Int)), a] True (.tuple [tbF (newT b lv (rows2.getD i default)), .val (.int .i64 0)]) := desc17 (b := b) (lev := lv) rfl hf (by omega)
      rw [heq] at iD
      repeat' (first|with_reducible (first|apply Stp.go|refine imp fun _=>?_|(refine need ?_ ?_;first|trivial|omega|exact ⟨by assumption,by omega⟩|(simp only [zL,zM];omega))|refine choT (by assumption) ?_|refine choF (by assumption) ?_|refine choF' (by assumption) ?_|(refine altT ?_ ?_;first|omega|(simp only [zL,zM];omega))|refine altF ?_|refine all fun _=>?_|refine both ?_ ?_|(refine choT ?_ ?_;omega)|(refine choF ?_ ?_;omega)|refine cho (fun _=>?_) fun _=>?_)|(with_reducible refine fact ?_ ?_;first|trivial|exact ⟨rfl,rfl⟩|kernel_rfl))
      refine joinI (β := Nat) (fun _ => True) (fun bx => [ptrAt bt 0, .lst 36 (nx.map tbF) .ro, .lst 1 (rows2.map enL) .ro, .lst 4 (was.map En.av) .ro, I .i64 (k : Nat), I .i64 (i : Nat), ptrAt bx 0, .val (.int .i64 0)])
        (fun bx => [.var bx TbE (tbC (nx.getD i default)), .var bt 27 [it b]]) ?_ ?_
      · repeat' (first|with_reducible (first|apply Stp.go|refine imp fun _=>?_|(refine need ?_ ?_;first|trivial|omega|exact ⟨by assumption,by omega⟩|(simp only [zL,zM];omega))|refine choT (by assumption) ?_|refine choF (by assumption) ?_|refine choF' (by assumption) ?_|(refine altT ?_ ?_;first|omega|(simp only [zL,zM];omega))|refine altF ?_|refine all fun _=>?_|refine both ?_ ?_|(refine choT ?_ ?_;omega)|(refine choF ?_ ?_;omega)|refine cho (fun _=>?_) fun _=>?_)|(with_reducible refine fact ?_ ?_;first|trivial|exact ⟨rfl,rfl⟩|kernel_rfl))
        all_goals
          rw [hlv2]
          repeat' (first|with_reducible (first|apply Stp.go|refine imp fun _=>?_|(refine need ?_ ?_;first|trivial|omega|exact ⟨by assumption,by omega⟩|(simp only [zL,zM];omega))|refine choT (by assumption) ?_|refine choF (by assumption) ?_|refine choF' (by assumption) ?_|(refine altT ?_ ?_;first|omega|(simp only [zL,zM];omega))|refine altF ?_|refine all fun _=>?_|refine both ?_ ?_|(refine choT ?_ ?_;omega)|(refine choF ?_ ?_;omega)|refine cho (fun _=>?_) fun _=>?_)|(with_reducible refine fact ?_ ?_;first|trivial|exact ⟨rfl,rfl⟩|kernel_rfl))
          rename_i bx
          exact meet bx trivial (Sub.refl _ _)
      · intro bx _
        repeat' (first|with_reducible (first|apply Stp.go|refine imp fun _=>?_|(refine need ?_ ?_;first|trivial|omega|exact ⟨by assumption,by omega⟩|(simp only [zL,zM];omega))|refine choT (by assumption) ?_|refine choF (by assumption) ?_|refine choF' (by assumption) ?_|(refine altT ?_ ?_;first|omega|(simp only [zL,zM];omega))|refine altF ?_|refine all fun _=>?_|refine both ?_ ?_|(refine choT ?_ ?_;omega)|(refine choF ?_ ?_;omega)|refine cho (fun _=>?_) fun _=>?_)|(with_reducible refine fact ?_ ?_;first|trivial|exact ⟨rfl,rfl⟩|kernel_rfl))
        · exact again (i + 1) (by omega) (by omega) (Sub.drop_ (List.sublist_cons_self _ _) _)
        · exfalso
          rename_i h
          exact h rfl
    · have e : i = nx.length := by omega
      subst e
      repeat' (first|with_reducible (first|apply Stp.go|refine imp fun _=>?_|(refine need ?_ ?_;first|trivial|omega|exact ⟨by assumption,by omega⟩|(simp only [zL,zM];omega))|refine choT (by assumption) ?_|refine choF (by assumption) ?_|refine choF' (by assumption) ?_|(refine altT ?_ ?_;first|omega|(simp only [zL,zM];omega))|refine altF ?_|refine all fun _=>?_|refine both ?_ ?_|(refine choT ?_ ?_;omega)|(refine choF ?_ ?_;omega)|refine cho (fun _=>?_) fun _=>?_)|(with_reducible refine fact ?_ ?_;first|trivial|exact ⟨rfl,rfl⟩|kernel_rfl))
      exact again (k + 1, nx, rows2) (by dsimp only; omega) ⟨by dsimp only; omega, hst, by dsimp only; omega, hkw⟩ (Sub.refl _ _)
  · rw [if_neg hlv] at hM hI
    have iM : PC Go.Proofs.Tryz.prog 26 [trA b, .lst 36 (l.map tbF) .ro, .lst 1 (rows.map enL) .ro] True _ := ⟨fun _ => PC.of hM⟩
    have iI : PC Go.Proofs.Tryz.prog 9 [.lst 36 (l.map tbF) .ro] True _ := ⟨fun _ => PC.of hI⟩
    have hlow := low_few hlv
    repeat' (first|with_reducible (first|apply Stp.go|refine imp fun _=>?_|(refine need ?_ ?_;first|trivial|omega|exact ⟨by assumption,by omega⟩|(simp only [zL,zM];omega))|refine choT (by assumption) ?_|refine choF (by assumption) ?_|refine choF' (by assumption) ?_|(refine altT ?_ ?_;first|omega|(simp only [zL,zM];omega))|refine altF ?_|refine all fun _=>?_|refine both ?_ ?_|(refine choT ?_ ?_;omega)|(refine choF ?_ ?_;omega)|refine cho (fun _=>?_) fun _=>?_)|(with_reducible refine fact ?_ ?_;first|trivial|exact ⟨rfl,rfl⟩|kernel_rfl))
    refine loopI (β := Nat) (fun i => i ≤ l.length) (fun i => [.lst 36 (l.map tbF) .ro, I .i64 (cntL 0 (l.take i) : Nat), I .i64 (i : Nat)]) (fun _ => [.var bt 27 [it b]]) (fun i => l.length - i) 0 (Nat.zero_le _) (Sub.refl _ _) ?_
    intro i hi
    have hci := cntL_le 0 (l.take i)
    rw [List.length_take] at hci
    by_cases hil : i < l.length
    · have hs1 := cntL_succ hil
      by_cases h0 : (l.getD i default).lev = 0
      · rw [if_pos h0] at hs1
        repeat' (first|with_reducible (first|apply Stp.go|refine imp fun _=>?_|(refine need ?_ ?_;first|trivial|omega|exact ⟨by assumption,by omega⟩|(simp only [zL,zM];omega))|refine choT (by assumption) ?_|refine choF (by assumption) ?_|refine choF' (by assumption) ?_|(refine altT ?_ ?_;first|omega|(simp only [zL,zM];omega))|refine altF ?_|refine all fun _=>?_|refine both ?_ ?_|(refine choT ?_ ?_;omega)|(refine choF ?_ ?_;omega)|refine cho (fun _=>?_) fun _=>?_)|(with_reducible refine fact ?_ ?_;first|trivial|exact ⟨rfl,rfl⟩|kernel_rfl))
        exact again (i + 1) (by omega) (by omega) (by rw [hs1]; exact Sub.refl _ _)
      · rw [if_neg h0] at hs1
        repeat' (first|with_reducible (first|apply Stp.go|refine imp fun _=>?_|(refine need ?_ ?_;first|trivial|omega|exact ⟨by assumption,by omega⟩|(simp only [zL,zM];omega))|refine choT (by assumption) ?_|refine choF (by assumption) ?_|refine choF' (by assumption) ?_|(refine altT ?_ ?_;first|omega|(simp only [zL,zM];omega))|refine altF ?_|refine all fun _=>?_|refine both ?_ ?_|(refine choT ?_ ?_;omega)|(refine choF ?_ ?_;omega)|refine cho (fun _=>?_) fun _=>?_)|(with_reducible refine fact ?_ ?_;first|trivial|exact ⟨rfl,rfl⟩|kernel_rfl))
        exact again (i + 1) (by omega) (by omega) (by rw [hs1]; exact Sub.refl _ _)
    · have e : i = l.length := by omega
      subst e
      rw [List.take_length] at hci ⊢
      repeat' (first|with_reducible (first|apply Stp.go|refine imp fun _=>?_|(refine need ?_ ?_;first|trivial|omega|exact ⟨by assumption,by omega⟩|(simp only [zL,zM];omega))|refine choT (by assumption) ?_|refine choF (by assumption) ?_|refine choF' (by assumption) ?_|(refine altT ?_ ?_;first|omega|(simp only [zL,zM];omega))|refine altF ?_|refine all fun _=>?_|refine both ?_ ?_|(refine choT ?_ ?_;omega)|(refine choF ?_ ?_;omega)|refine cho (fun _=>?_) fun _=>?_)|(with_reducible refine fact ?_ ?_;first|trivial|exact ⟨rfl,rfl⟩|kernel_rfl))
      refine ⟨_, _, _, rfl, Sub.app_nil _, ?_, rfl⟩
      rw [decide_eq_true hlow]
theorem MoveKeeps_ok (b : Int) (news : List (List En)) (m : SM) (merges : List Int) (m' : SM) (hb : (Lit.int .i64 b).wf = true) (hn : (∀ a ∈ news, (∀ e ∈ a, e.key.length ≤ maxLen ∧ e.val.length ≤ maxLen) ∧ a.length ≤ maxLen) ∧ news.length ≤ maxLen) (hm : (∀ n ∈ merges, (Lit.int .i64 n).wf = true) ∧ merges.length ≤ maxLen) :
    aPure Go.Proofs.Tryz.prog 5 [I .i64 b, .lst 1 (news.map enL) m, .lst 1 (merges.map it) m'] (B true) :=
  MoveKeeps_at b news m merges m' (by have := hn.2; simpa [maxLen] using this) (by have := hm.2; simpa [maxLen] using this) (fun r hr => by have := (hn.1 r hr).2; simpa [maxLen] using this)
end Go.Ab
