/- The sum of a text (SHA-256), as a function of its bytes. No program in sight. -/
import Derived.Test.YtobhbepiaibceaaF1
import Derived.Test.YtobhbepiaibceaaSp6
set_option linter.unusedVariables false
set_option linter.unusedSimpArgs false
namespace Go.Ab
theorem or_mul {x y : UInt32} {q k : Nat} (hx : x.toNat = q * 2 ^ k) (hy : y.toNat < 2 ^ k) : (x ||| y).toNat = q * 2 ^ k + y.toNat := by
  rw [UInt32.toNat_or, hx, ← Nat.shiftLeft_eq, ← Nat.shiftLeft_add_eq_or_of_lt hy]
theorem shl_mul {x : UInt32} {k : Nat} (hk : k < 32) (hx : x.toNat * 2 ^ k < 4294967296) : (x <<< UInt32.ofNat k).toNat = x.toNat * 2 ^ k := by
  have e : (UInt32.ofNat k).toNat = k := by rw [UInt32.toNat_ofNat']; exact Nat.mod_eq_of_lt (by omega)
  rw [UInt32.toNat_shiftLeft, e, Nat.mod_eq_of_lt hk, Nat.shiftLeft_eq]
  exact Nat.mod_eq_of_lt hx
theorem b32 (c : UInt8) : (UInt32.ofNat c.toNat).toNat = c.toNat := by
  have := UInt8.toNat_lt c
  rw [UInt32.toNat_ofNat']; exact Nat.mod_eq_of_lt (by omega)
theorem getD_app_r {α : Type} (a b : List α) (i : Nat) (d : α) (h : a.length ≤ i) : (a ++ b).getD i d = b.getD (i - a.length) d := by
  rw [List.getD_eq_getElem?_getD, List.getElem?_append_right h, List.getD_eq_getElem?_getD]
theorem getD_app_l {α : Type} (a b : List α) (i : Nat) (d : α) (h : i < a.length) : (a ++ b).getD i d = a.getD i d := by
  rw [List.getD_eq_getElem?_getD, List.getElem?_append_left h, List.getD_eq_getElem?_getD]
/-- Four bytes as a word. -/
def be32 (a b c d : UInt8) : UInt32 := UInt32.ofNat (((a.toNat * 256 + b.toNat) * 256 + c.toNat) * 256 + d.toNat)
theorem be32_or (a b c d : UInt8) : UInt32.ofNat a.toNat <<< UInt32.ofNat 24 ||| UInt32.ofNat b.toNat <<< UInt32.ofNat 16 ||| UInt32.ofNat c.toNat <<< UInt32.ofNat 8 ||| UInt32.ofNat d.toNat = be32 a b c d := by
  have ha := UInt8.toNat_lt a
  have hb := UInt8.toNat_lt b
  have hc := UInt8.toNat_lt c
  have hd := UInt8.toNat_lt d
  have s1 := shl_mul (x := UInt32.ofNat a.toNat) (k := 24) (by decide) (by rw [b32]; omega)
  have s2 := shl_mul (x := UInt32.ofNat b.toNat) (k := 16) (by decide) (by rw [b32]; omega)
  have s3 := shl_mul (x := UInt32.ofNat c.toNat) (k := 8) (by decide) (by rw [b32]; omega)
  rw [b32] at s1 s2 s3
  have t1 := or_mul s1 (y := UInt32.ofNat b.toNat <<< UInt32.ofNat 16) (by rw [s2]; omega)
  rw [s2] at t1
  have t2 := or_mul (q := a.toNat * 256 + b.toNat) (k := 16) (t1.trans (by omega)) (y := UInt32.ofNat c.toNat <<< UInt32.ofNat 8) (by rw [s3]; omega)
  rw [s3] at t2
  have t3 := or_mul (q := (a.toNat * 256 + b.toNat) * 256 + c.toNat) (k := 8) (t2.trans (by omega)) (y := UInt32.ofNat d.toNat) (by rw [b32]; omega)
  rw [b32] at t3
  rw [be32]
  have e : ((a.toNat * 256 + b.toNat) * 256 + c.toNat) * 256 + d.toNat = ((a.toNat * 256 + b.toNat) * 256 + c.toNat) * 2 ^ 8 + d.toNat := rfl
  rw [e, ← t3, UInt32.ofNat_toNat]
def rotr (x : UInt32) (n : Nat) : UInt32 := x >>> UInt32.ofNat n ||| x <<< UInt32.ofNat (32 - n)
/-- The words of a block. -/
def wNext (w : List UInt32) : UInt32 :=
  let x := w.getD (w.length - 15) 0
  let y := w.getD (w.length - 2) 0
  (rotr y 17 ^^^ rotr y 19 ^^^ y >>> UInt32.ofNat 10) + w.getD (w.length - 7) 0 + (rotr x 7 ^^^ rotr x 18 ^^^ x >>> UInt32.ofNat 3) + w.getD (w.length - 16) 0
def sched (b : List UInt8) : Nat → List UInt32
  | 0 => []
  | n + 1 => sched b n ++ [if n < 16 then be32 (b.getD (4 * n) 0) (b.getD (4 * n + 1) 0) (b.getD (4 * n + 2) 0) (b.getD (4 * n + 3) 0) else wNext (sched b n)]
theorem sched_length (b : List UInt8) : ∀ n, (sched b n).length = n
  | 0 => rfl
  | n + 1 => by simp [sched, sched_length b n]
/-- The constants. -/
def shaK : List UInt32 := [
  0x428a2f98, 0x71374491, 0xb5c0fbcf, 0xe9b5dba5, 0x3956c25b, 0x59f111f1, 0x923f82a4, 0xab1c5ed5,
  0xd807aa98, 0x12835b01, 0x243185be, 0x550c7dc3, 0x72be5d74, 0x80deb1fe, 0x9bdc06a7, 0xc19bf174,
  0xe49b69c1, 0xefbe4786, 0x0fc19dc6, 0x240ca1cc, 0x2de92c6f, 0x4a7484aa, 0x5cb0a9dc, 0x76f988da,
  0x983e5152, 0xa831c66d, 0xb00327c8, 0xbf597fc7, 0xc6e00bf3, 0xd5a79147, 0x06ca6351, 0x14292967,
  0x27b70a85, 0x2e1b2138, 0x4d2c6dfc, 0x53380d13, 0x650a7354, 0x766a0abb, 0x81c2c92e, 0x92722c85,
  0xa2bfe8a1, 0xa81a664b, 0xc24b8b70, 0xc76c51a3, 0xd192e819, 0xd6990624, 0xf40e3585, 0x106aa070,
  0x19a4c116, 0x1e376c08, 0x2748774c, 0x34b0bcb5, 0x391c0cb3, 0x4ed8aa4a, 0x5b9cca4f, 0x682e6ff3,
  0x748f82ee, 0x78a5636f, 0x84c87814, 0x8cc70208, 0x90befffa, 0xa4506ceb, 0xbef9a3f7, 0xc67178f2]
def shaH : List UInt32 := [0x6a09e667, 0xbb67ae85, 0x3c6ef372, 0xa54ff53a, 0x510e527f, 0x9b05688c, 0x1f83d9ab, 0x5be0cd19]
/-- One round. -/
def shaT1 (w : List UInt32) (t : Nat) (s : List UInt32) : UInt32 :=
  let e := s.getD 4 0
  s.getD 7 0 + (rotr e 6 ^^^ rotr e 11 ^^^ rotr e 25) + ((e &&& s.getD 5 0) ^^^ (~~~ e &&& s.getD 6 0)) + shaK.getD t 0 + w.getD t 0
def shaT2 (s : List UInt32) : UInt32 :=
  let a := s.getD 0 0
  (rotr a 2 ^^^ rotr a 13 ^^^ rotr a 22) + ((a &&& s.getD 1 0) ^^^ (a &&& s.getD 2 0) ^^^ (s.getD 1 0 &&& s.getD 2 0))
def shaRound (w : List UInt32) (t : Nat) (s : List UInt32) : List UInt32 :=
  [shaT1 w t s + shaT2 s, s.getD 0 0, s.getD 1 0, s.getD 2 0, s.getD 3 0 + shaT1 w t s, s.getD 4 0, s.getD 5 0, s.getD 6 0]
def shaRounds (w : List UInt32) (h : List UInt32) : Nat → List UInt32
  | 0 => h
  | t + 1 => shaRound w t (shaRounds w h t)
theorem shaRounds_length (w : List UInt32) {h : List UInt32} (hh : h.length = 8) : ∀ t, (shaRounds w h t).length = 8
  | 0 => hh
  | t + 1 => rfl
def addW : List UInt32 → List UInt32 → List UInt32 := List.zipWith (· + ·)
/-- A block taken in. -/
def shaBlock (h : List UInt32) (b : List UInt8) : List UInt32 := addW h (shaRounds (sched b 64) h 64)
theorem shaBlock_length {h : List UInt32} (hh : h.length = 8) (b : List UInt8) : (shaBlock h b).length = 8 := by
  simp [shaBlock, addW, shaRounds_length _ hh, hh]
/-- Whole blocks, one behind the other; what is left is left. -/
def shaAll (h : List UInt32) (l : List UInt8) : List UInt32 := if _hl : 64 ≤ l.length then shaAll (shaBlock h (l.take 64)) (l.drop 64) else h
termination_by l.length
decreasing_by simp; omega
theorem shaAll_lt {h : List UInt32} {l : List UInt8} (hl : l.length < 64) : shaAll h l = h := by rw [shaAll, dif_neg (by omega)]
theorem shaAll_ge {h : List UInt32} {l : List UInt8} (hl : 64 ≤ l.length) : shaAll h l = shaAll (shaBlock h (l.take 64)) (l.drop 64) := by rw [shaAll, dif_pos hl]
theorem shaAll_length (h : List UInt32) (l : List UInt8) (hh : h.length = 8) : (shaAll h l).length = 8 := by
  induction l using (measure List.length).wf.induction generalizing h with
  | _ l ih =>
    by_cases hl : 64 ≤ l.length
    · rw [shaAll_ge hl]
      exact ih (l.drop 64) (by show (l.drop 64).length < l.length; simp; omega) _ (shaBlock_length hh _)
    · rw [shaAll_lt (by omega)]; exact hh
/-- What is left of a text behind its whole blocks. -/
def shaRest (l : List UInt8) : List UInt8 := l.drop (l.length / 64 * 64)
theorem shaRest_length (l : List UInt8) : (shaRest l).length = l.length % 64 := by simp [shaRest]; omega
/-- More bytes. -/
theorem shaAll_append (h : List UInt32) (a b : List UInt8) : shaAll h (a ++ b) = shaAll (shaAll h a) (shaRest a ++ b) := by
  induction a using (measure List.length).wf.induction generalizing h with
  | _ a ih =>
    by_cases ha : 64 ≤ a.length
    · have e1 : (a ++ b).take 64 = a.take 64 := List.take_append_of_le_length ha
      have e2 : (a ++ b).drop 64 = a.drop 64 ++ b := List.drop_append_of_le_length ha
      have e3 : shaRest (a.drop 64) = shaRest a := by
        unfold shaRest
        rw [List.length_drop, List.drop_drop]
        congr 1
        omega
      rw [shaAll_ge (show 64 ≤ (a ++ b).length by simp; omega), e1, e2, ih (a.drop 64) (by show (a.drop 64).length < a.length; simp; omega), e3, ← shaAll_ge ha]
    · rw [shaAll_lt (l := a) (by omega)]
      have : shaRest a = a := by unfold shaRest; rw [show a.length / 64 = 0 by omega]; rfl
      rw [this]
theorem shaRest_append (a b : List UInt8) : shaRest (a ++ b) = shaRest (shaRest a ++ b) := by
  unfold shaRest
  have h1 : a.length / 64 * 64 ≤ a.length := Nat.div_mul_le_self _ _
  rw [← List.drop_append_of_le_length h1, List.drop_drop]
  congr 1
  simp only [List.length_append, List.length_drop]
  omega
/-- A text's end: a bit, zeros, its length. -/
def be64 (n : Nat) : List UInt8 := [UInt8.ofNat (n / 72057594037927936), UInt8.ofNat (n / 281474976710656), UInt8.ofNat (n / 1099511627776), UInt8.ofNat (n / 4294967296), UInt8.ofNat (n / 16777216), UInt8.ofNat (n / 65536), UInt8.ofNat (n / 256), UInt8.ofNat n]
def shaTail (n : Nat) : List UInt8 := 128 :: (List.replicate ((119 - n % 64) % 64) 0 ++ be64 (8 * n))
theorem shaTail_length (n : Nat) : (n + (shaTail n).length) % 64 = 0 ∧ (shaTail n).length ≤ 72 := by
  simp only [shaTail, be64, List.length_cons, List.length_append, List.length_replicate, List.length_nil]
  omega
/-- A word as four bytes. -/
def by32 (v : UInt32) : List UInt8 := [UInt8.ofNat (v.toNat / 16777216), UInt8.ofNat (v.toNat / 65536), UInt8.ofNat (v.toNat / 256), UInt8.ofNat v.toNat]
def shaOut (h : List UInt32) : List UInt8 := h.flatMap by32
/-- The sum. -/
def sha (l : List UInt8) : List UInt8 := shaOut (shaAll shaH (l ++ shaTail l.length))
theorem shaOut_length (h : List UInt32) : (shaOut h).length = 4 * h.length := by
  induction h with
  | nil => rfl
  | cons v h ih => simp only [shaOut, List.flatMap_cons, List.length_append] at ih ⊢; rw [ih]; simp [by32]; omega
theorem sha_length (l : List UInt8) : (sha l).length = 32 := by rw [sha, shaOut_length, shaAll_length _ _ rfl]
/-- The first bits of bytes. -/
def keepB (bits : Int) (i : Nat) (c : UInt8) : UInt8 := UInt8.ofNat (c.toNat / 2 ^ (8 - min 8 (bits - 8 * i).toNat) * 2 ^ (8 - min 8 (bits - 8 * i).toNat))
def kept (l : List UInt8) (bits : Int) : List UInt8 := (sha l).mapIdx (keepB bits)
theorem kept_length (l : List UInt8) (bits : Int) : (kept l bits).length = 32 := by rw [kept, List.length_mapIdx, sha_length]
end Go.Ab
