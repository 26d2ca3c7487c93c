/- A mem: Put. -/
import Derived.Test.YtcpbjmhhhdoafaaF35
import Derived.Test.YtcpbjmhhhdoafaaF4
import Derived.Test.YtcpbjmhhhdoafaaSp8
set_option linter.unusedVariables false
set_option linter.unusedSimpArgs false
namespace Go.Ab
/-- The entries with one more. -/
def insL (l : List En) (e : En) : List En := if hasK l e.key = true then l.set (placeN l e.key) e else l.take (placeN l e.key) ++ e :: l.drop (placeN l e.key)
def linkB (c : List UInt8) (e : En) : List UInt8 := sha ([2] ++ c ++ enB e)
def putX (l : List En) (s : Int) (e : En) : Nat := if right e = true ∧ ¬ e.seq ≤ s then (if hasK l e.key = true then 0 else if l.length = 64 then 3 else 0) else 1
def putL (l : List En) (s : Int) (e : En) : List En := if putX l s e = 0 then insL l e else l
def putS (l : List En) (s : Int) (e : En) : Int := if putX l s e = 0 then e.seq else s
def putC (l : List En) (s : Int) (c : List UInt8) (e : En) : List UInt8 := if putX l s e = 0 then linkB c e else c
instance {l : List En} {s : Int} {c : List UInt8} {e : En} [h : Len32 c] : Len32 (putC l s c e) := ⟨by
  unfold putC
  split
  · exact sha_length _
  · exact h.len⟩
instance {c : List UInt8} {e : En} : Len32 (linkB c e) := ⟨sha_length _⟩
instance {σ rest : Store} {v y : Value} {l : List En} {e : En} {i : Nat} {put put2 : Ent → Store} {rest2 : Store} [hy : RowAt y σ EnT_ 4 ([e].map En.av) 0 put rest] [hv : RowAt v rest EnT_ 4 (l.map En.av) 0 put2 rest2] : EC Go.Proofs.Try.prog 31 [.own v l.length, I .i64 (i : Nat), .own y 1] σ (i ≤ l.length ∧ l.length ≤ 1000000) Value (fun v' => .own v' (l.length + 1)) (fun v' => [.row v' EnT_ 4 ((l.take i ++ e :: l.drop i).map En.av) 0] ++ rest2) := ⟨fun hl => by
  obtain ⟨σ1, σ2, rfl, _, rfl⟩ := hy.at_
  obtain ⟨ρ1, ρ2, e1, _, rfl⟩ := hv.at_
  have hp : (σ1 ++ .row y EnT_ 4 ([e].map En.av) 0 :: σ2).Perm ([.row y EnT_ 4 ([e].map En.av) 0, .row v EnT_ 4 (l.map En.av) 0] ++ (ρ1 ++ ρ2)) := by
    refine List.perm_middle.trans ?_
    rw [e1]
    exact List.Perm.cons _ List.perm_middle
  exact ((Insert_ok v y l e i hl.1 hl.2).part hp).mono fun x σ' ⟨τ, g1, v', g2, g3⟩ => ⟨v', g2, by rw [g1, g3]⟩⟩
theorem putErr {b : Nat} {v : Value} {l : List En} {s : Int} {c : List UInt8} {e : En} (h : putX l s e ≠ 0) : memS b v (putL l s e) (putS l s e) (putC l s c e) = memS b v l s c := by
  unfold putL putS putC
  rw [if_neg h, if_neg h, if_neg h]
theorem putOk {b : Nat} {v : Value} {l : List En} {s : Int} {c : List UInt8} {e : En} (h : putX l s e = 0) : memS b v (putL l s e) (putS l s e) (putC l s c e) = memS b v (insL l e) e.seq (linkB c e) := by
  unfold putL putS putC
  rw [if_pos h, if_pos h, if_pos h]
theorem insL_old {l : List En} {e : En} (h : hasK l e.key = true) : insL l e = l.set (placeN l e.key) e := by rw [insL, if_pos h]
theorem insL_new {l : List En} {e : En} (h : ¬ hasK l e.key = true) : insL l e = l.take (placeN l e.key) ++ e :: l.drop (placeN l e.key) := by rw [insL, if_neg h]
def mem_Mem_Put.mark : Mark := ⟨fun t => Nat.beq t 28 || Nat.beq t 67 || Nat.beq t 69, fun t => Nat.beq t 22 || Nat.beq t 55, fun t => Nat.beq t 3, fun t => Nat.beq t 11 || Nat.beq t 21 || Nat.beq t 27 || Nat.beq t 32 || Nat.beq t 46 || Nat.beq t 64 || Nat.beq t 66, fun t => false⟩
def mem_Mem_Put.ann : Ann := ⟨fun n => [], fun n => bif Nat.beq n 9 then some [0, 3] else none, fun n => bif Nat.beq n 2 then some [0, 3] else none⟩
/-- '(*marlstone/mem.Mem).Put' -/
def mem_Mem_Put.sh (a0 a1 : AV) (σ : Store) (Q : AEnd → Store → Prop) : Prop :=
  Do (aFreeze ((a1 : AV)).cells) fun t3 =>
  Do (aFieldAddr 0 1 t3) fun t10 =>
  Do (loadF false 1 t10) fun t11 =>
  aCall Go.Proofs.Try.prog 30 [a0, t11] σ (fun t12 σ =>
  Do (aExt t12 0) fun t13 =>
  Do (aExt t12 1) fun t14 =>
  aJoin (fun j =>
    Do (loadF true 4 t3) fun t27 =>
    Do (aPureC Go.Proofs.Try.prog 27 [t27]) fun t28 =>
    Do (aUn Go.Proofs.Try.prog .not t28) fun t29 =>
    Do (aGuard t29 false (aFieldAddr 3 1 t3)) fun t31 =>
    Do (aGuard t29 false (loadF false 1 t31)) fun t32 =>
    Do (aGuard t29 false (aIs a0)) fun t33 =>
    Do (aGuard t29 false (aNil t33)) fun t34 =>
    Do (aGuard t29 false (aFieldAddr 1 1 t34)) fun t35 =>
    Do (aGuard t29 false (loadA false 1 t35 σ)) fun t36 =>
    Do (aGuard t29 false (aBin Go.Proofs.Try.prog .leq 3 t32 t36)) fun t37 =>
    Do (aPick t29 (.val (.bool true)) t37) fun t38 =>
    aCond t38
      (Q (.ret (.val (.int .i64 1))) σ)
      (aCond t14
        (Do (aNil a0) fun t42 =>
        Do (aFieldAddr 0 1 t42) fun t43 =>
        Do (loadA false 1 t43 σ) fun t44 =>
        Do (loadF true 4 t3) fun t46 =>
        Do (aIndexAddr .slice 4 t44 t13) fun t47 =>
        storeA 4 t47 t46 σ fun u σ_2 =>
        j [a0, t3] σ_2)
        (Do (aNil a0) fun t50 =>
        Do (aFieldAddr 0 1 t50) fun t51 =>
        Do (loadA false 1 t51 σ) fun t52 =>
        Do (aBuiltin Go.Proofs.Try.prog .len #[39] [t52]) fun t53 =>
        Do (aBin Go.Proofs.Try.prog .eql 3 t53 (.val (.int .i64 64))) fun t54 =>
        aCond t54
          (Q (.ret (.val (.int .i64 3))) σ)
          (aJoin (fun j_1 =>
            Do (aNil a0) fun t17 =>
            Do (aFieldAddr 0 1 t17) fun t18 =>
            Do (loadF true 4 t3) fun t21 =>
            Both (Do (loadA false 1 t18 σ) fun t19 =>
            aRowL 29 (mkE [.val (.string ⟨#[]⟩), .val (.string ⟨#[]⟩), .val (.bool false), .val (.int .i64 0)]) 4 1 [(0, t21)] σ fun t22 σ_4 =>
            aCall Go.Proofs.Try.prog 31 [t19, t13, t22] σ_4 (fun t23 σ_5 =>
            Do (aNil a0) fun t24 =>
            Do (aFieldAddr 0 1 t24) fun t25 =>
            storeA 1 t25 t23 σ_5 fun u_1 σ_6 =>
            j_1 [a0, t3] σ_6) (fun e σ_7 => Q (.pan e) σ_7)) (aRowL 29 (mkE [.val (.string ⟨#[]⟩), .val (.string ⟨#[]⟩), .val (.bool false), .val (.int .i64 0)]) 4 1 [(0, t21)] σ fun t22_1 σ_8 =>
            Do (loadA false 1 t18 σ_8) fun t19_1 =>
            aCall Go.Proofs.Try.prog 31 [t19_1, t13, t22_1] σ_8 (fun t23_1 σ_9 =>
            Do (aNil a0) fun t24_1 =>
            Do (aFieldAddr 0 1 t24_1) fun t25_1 =>
            storeA 1 t25_1 t23_1 σ_9 fun u_2 σ_10 =>
            j_1 [a0, t3] σ_10) (fun e_1 σ_11 => Q (.pan e_1) σ_11))) fun vs_1 σ_3 =>
          At vs_1 0 fun s0 => At vs_1 1 fun s3 => j [s0, s3] σ_3)))) fun vs σ_1 =>
  At vs 0 fun s0_1 => At vs 1 fun s3_1 => aRowL 5 (mkE [.val (.int .u8 0)]) 1 1 [(0, (W8 2))] σ_1 fun t55 σ_12 =>
  Do (aNil s0_1) fun t57 =>
  Do (aFieldAddr 2 32 t57) fun t58 =>
  Do (aSlice (.array 32) 1 t58 none none none) fun t59 =>
  aAppend 5 1 1 t55 t59 σ_12 (subK fun t60 σ_13 =>
  Do (aFieldAddr 3 1 s3_1) fun t63 =>
  Do (loadF false 1 t63) fun t64 =>
  Do (loadF true 4 s3_1) fun t66 =>
  Do (aPureC Go.Proofs.Try.prog 32 [t66]) fun t67 =>
  aAppend 5 1 1 t60 t67 σ_13 (subF fun t68 σ_14 =>
  Do (aPureC Go.Proofs.Try.prog 29 [t68]) fun t69 =>
  Do (aNil s0_1) fun t70 =>
  Do (aFieldAddr 1 1 t70) fun t71 =>
  storeA 1 t71 t64 σ_14 fun u_3 σ_15 =>
  Do (aNil s0_1) fun t72 =>
  Do (aFieldAddr 2 32 t72) fun t73 =>
  storeA 32 t73 t69 σ_15 fun u_4 σ_16 =>
  Q (.ret (.val (.int .i64 0))) σ_16))) (fun e_2 σ_17 => Q (.pan e_2) σ_17)
theorem mem_Mem_Put.eq (a0 a1 : AV) (σ : Store) (Q : AEnd → Store → Prop) : vc (semOf Go.Proofs.Try.prog mem_Mem_Put.mark) Go.Proofs.Try.f11.ntmps mem_Mem_Put.ann (bodyOf Go.Proofs.Try.f11) (endK [.tmp 4] Q) (argFr [a0, a1]) σ = mem_Mem_Put.sh a0 a1 σ Q := by kernel_rfl
theorem mem_Mem_Put.go {a0 a1 : AV} {σ : Store} {Q : AEnd → Store → Prop} (h : mem_Mem_Put.sh a0 a1 σ Q) : ACalls Go.Proofs.Try.prog 11 [a0, a1] σ Q :=
  acalls_of_eq [.tmp 4] Go.Proofs.Try.func11 (by kernel_rfl) (by kernel_rfl) (by kernel_rfl) (by kernel_rfl) (mem_Mem_Put.eq a0 a1 σ Q) h
theorem mem_Put_ok (b : Nat) (v : Value) (l : List En) (s : Int) (c : List UInt8) [hc : Len32 c] (e : En) (hr : Rises l) (hl : l.length ≤ 1000000) : ACalls Go.Proofs.Try.prog 11 [ptrAt b 0, e.av] (memS b v l s c) fun x σ' => ∃ v', x = .ret (I .i64 (putX l s e : Nat)) ∧ σ' = memS b v' (putL l s e) (putS l s e) (putC l s c e) := by
  refine ACalls.fin (mem_Mem_Put.go ?_)
  unfold mem_Mem_Put.sh
  have hp := placeN_le l e.key
  have hq := fun h => (place_lt (F := l) (k := e.key) hr h).1
  have h32 := hc.len
  have hb := enB_length e
  repeat' (first | with_reducible apply Stp.go | with_reducible refine imp fun _ => ?_ | (with_reducible refine hyp ?_ ?_; first | assumption | exact leftT_mem (by assumption)) | (with_reducible refine need ?_ ?_; first | trivial | omega | exact ⟨by assumption, by omega⟩ | (simp only [List.length_append, List.length_cons, List.length_nil, List.length_map, List.length_take, List.length_drop, List.length_replicate, List.length_set]; omega)) | (with_reducible refine fact ?_ ?_; first | trivial | exact ⟨rfl, rfl⟩ | kernel_rfl) | with_reducible refine choT (by assumption) ?_ | with_reducible refine choF (by assumption) ?_ | with_reducible refine choF' (by assumption) ?_ | (with_reducible refine altT ?_ ?_; first | omega | (simp only [List.length_append, List.length_cons, List.length_nil, List.length_map, List.length_take, List.length_drop, List.length_replicate, List.length_set]; omega)) | with_reducible refine altF ?_ | with_reducible refine all fun _ => ?_ | with_reducible refine both ?_ ?_ | (with_reducible refine choT ?_ ?_; omega) | (with_reducible refine choF ?_ ?_; omega) | with_reducible refine cho (fun _ => ?_) (fun _ => ?_))
  refine joinI (β := Value) (fun _ => putX l s e = 0) (fun _ => [ptrAt b 0, .rptr e.cs]) (fun v' => memS b v' (insL l e) s c) ?_ ?_
  · repeat' (first | with_reducible apply Stp.go | with_reducible refine imp fun _ => ?_ | (with_reducible refine hyp ?_ ?_; first | assumption | exact leftT_mem (by assumption)) | (with_reducible refine need ?_ ?_; first | trivial | omega | exact ⟨by assumption, by omega⟩ | (simp only [List.length_append, List.length_cons, List.length_nil, List.length_map, List.length_take, List.length_drop, List.length_replicate, List.length_set]; omega)) | (with_reducible refine fact ?_ ?_; first | trivial | exact ⟨rfl, rfl⟩ | kernel_rfl) | with_reducible refine choT (by assumption) ?_ | with_reducible refine choF (by assumption) ?_ | with_reducible refine choF' (by assumption) ?_ | (with_reducible refine altT ?_ ?_; first | omega | (simp only [List.length_append, List.length_cons, List.length_nil, List.length_map, List.length_take, List.length_drop, List.length_replicate, List.length_set]; omega)) | with_reducible refine altF ?_ | with_reducible refine all fun _ => ?_ | with_reducible refine both ?_ ?_ | (with_reducible refine choT ?_ ?_; omega) | (with_reducible refine choF ?_ ?_; omega) | with_reducible refine cho (fun _ => ?_) (fun _ => ?_))
    · rename_i h1 h2
      have hx : putX l s e = 1 := by rw [putX, if_neg (fun h => h.2 h2)]
      exact ⟨_, _, _, rfl, Sub.refl _ _, v, by rw [hx]; rfl, (putErr (by rw [hx]; decide)).symm⟩
    · rename_i h1 h2 h3
      have hx : putX l s e = 0 := by rw [putX, if_pos ⟨h1, h2⟩, if_pos h3]
      have h4 := hq h3
      repeat' (first | with_reducible apply Stp.go | with_reducible refine imp fun _ => ?_ | (with_reducible refine hyp ?_ ?_; first | assumption | exact leftT_mem (by assumption)) | (with_reducible refine need ?_ ?_; first | trivial | omega | exact ⟨by assumption, by omega⟩ | (simp only [List.length_append, List.length_cons, List.length_nil, List.length_map, List.length_take, List.length_drop, List.length_replicate, List.length_set]; omega)) | (with_reducible refine fact ?_ ?_; first | trivial | exact ⟨rfl, rfl⟩ | kernel_rfl) | with_reducible refine choT (by assumption) ?_ | with_reducible refine choF (by assumption) ?_ | with_reducible refine choF' (by assumption) ?_ | (with_reducible refine altT ?_ ?_; first | omega | (simp only [List.length_append, List.length_cons, List.length_nil, List.length_map, List.length_take, List.length_drop, List.length_replicate, List.length_set]; omega)) | with_reducible refine altF ?_ | with_reducible refine all fun _ => ?_ | with_reducible refine both ?_ ?_ | (with_reducible refine choT ?_ ?_; omega) | (with_reducible refine choF ?_ ?_; omega) | with_reducible refine cho (fun _ => ?_) (fun _ => ?_))
      refine meet v hx ?_
      have e1 : l.length = (l.set (placeN l e.key) e).length := by simp
      rw [insL_old h3, e1]
      exact Sub.refl _ _
    · rename_i h1 h2 h3 h4
      have hx : putX l s e = 3 := by rw [putX, if_pos ⟨h1, h2⟩, if_neg h3, if_pos h4]
      exact ⟨_, _, _, rfl, Sub.refl _ _, v, by rw [hx]; rfl, (putErr (by rw [hx]; decide)).symm⟩
    · rename_i h1 h2 h3 h4
      have hx : putX l s e = 0 := by rw [putX, if_pos ⟨h1, h2⟩, if_neg h3, if_neg h4]
      refine joinE ?_
      repeat' (first | with_reducible apply Stp.go | with_reducible refine imp fun _ => ?_ | (with_reducible refine hyp ?_ ?_; first | assumption | exact leftT_mem (by assumption)) | (with_reducible refine need ?_ ?_; first | trivial | omega | exact ⟨by assumption, by omega⟩ | (simp only [List.length_append, List.length_cons, List.length_nil, List.length_map, List.length_take, List.length_drop, List.length_replicate, List.length_set]; omega)) | (with_reducible refine fact ?_ ?_; first | trivial | exact ⟨rfl, rfl⟩ | kernel_rfl) | with_reducible refine choT (by assumption) ?_ | with_reducible refine choF (by assumption) ?_ | with_reducible refine choF' (by assumption) ?_ | (with_reducible refine altT ?_ ?_; first | omega | (simp only [List.length_append, List.length_cons, List.length_nil, List.length_map, List.length_take, List.length_drop, List.length_replicate, List.length_set]; omega)) | with_reducible refine altF ?_ | with_reducible refine all fun _ => ?_ | with_reducible refine both ?_ ?_ | (with_reducible refine choT ?_ ?_; omega) | (with_reducible refine choF ?_ ?_; omega) | with_reducible refine cho (fun _ => ?_) (fun _ => ?_))
      all_goals
        rename_i v'
        refine meet v' hx ?_
        have e1 : l.length + 1 = (l.take (placeN l e.key) ++ e :: l.drop (placeN l e.key)).length := by simp; omega
        rw [insL_new h3, e1]
        exact Sub.perm (List.Perm.swap _ _ _) _
    · rename_i h1
      have hx : putX l s e = 1 := by rw [putX, if_neg (fun h => h1 h.1)]
      exact ⟨_, _, _, rfl, Sub.refl _ _, v, by rw [hx]; rfl, (putErr (by rw [hx]; decide)).symm⟩
  · intro v' h0
    repeat' (first | with_reducible apply Stp.go | with_reducible refine imp fun _ => ?_ | (with_reducible refine hyp ?_ ?_; first | assumption | exact leftT_mem (by assumption)) | (with_reducible refine need ?_ ?_; first | trivial | omega | exact ⟨by assumption, by omega⟩ | (simp only [List.length_append, List.length_cons, List.length_nil, List.length_map, List.length_take, List.length_drop, List.length_replicate, List.length_set]; omega)) | (with_reducible refine fact ?_ ?_; first | trivial | exact ⟨rfl, rfl⟩ | kernel_rfl) | with_reducible refine choT (by assumption) ?_ | with_reducible refine choF (by assumption) ?_ | with_reducible refine choF' (by assumption) ?_ | (with_reducible refine altT ?_ ?_; first | omega | (simp only [List.length_append, List.length_cons, List.length_nil, List.length_map, List.length_take, List.length_drop, List.length_replicate, List.length_set]; omega)) | with_reducible refine altF ?_ | with_reducible refine all fun _ => ?_ | with_reducible refine both ?_ ?_ | (with_reducible refine choT ?_ ?_; omega) | (with_reducible refine choF ?_ ?_; omega) | with_reducible refine cho (fun _ => ?_) (fun _ => ?_))
    exact ⟨_, _, _, rfl, Sub.refl _ _, v', by rw [h0]; rfl, (putOk h0).symm⟩
instance {b : Nat} {σ rest : Store} {v : Value} {l : List En} {s : Int} {c : List UInt8} {e : En} [h : MemAt b σ v l s c rest] [hc : Len32 c] : EC Go.Proofs.Try.prog 11 [ptrAt b 0, e.av] σ (Rises l ∧ l.length ≤ 1000000) Value (fun _ => I .i64 (putX l s e : Nat)) (fun v' => memS b v' (putL l s e) (putS l s e) (putC l s c e) ++ rest) := ⟨fun hl => ((mem_Put_ok b v l s c e hl.1 hl.2).part h.perm).mono fun x σ' ⟨σ1, e0, v', e1, e2⟩ => ⟨v', e1, by rw [e0, e2]⟩⟩
end Go.Ab
