/-
  SipHash-2-4 on integers, in the words in which the walk of the program leaves them.
-/
import Derived.Test.YtbncbjblbdjddaaBytes
namespace Go.Proofs.Ytbncbjblbdjddaa
open Go.RowKit

/-- rotation to the left by n bits: k = 2^n, m = 2^(64-n) -/
def rotI (k m a : Int) : Int := bits .or .u64 (IntKind.u64.wrap (a * k)) (a / m)
def addI (a b : Int) : Int := IntKind.u64.wrap (a + b)
def xorI (a b : Int) : Int := bits .xor .u64 a b
/-- the state of the hash -/
structure St where
  a : Int
  b : Int
  c : Int
  d : Int
def St.agg (s : St) : Value := .agg #[.int .u64 s.a, .int .u64 s.b, .int .u64 s.c, .int .u64 s.d]
def St.round (s : St) : St :=
  let a1 := addI s.a s.b
  let b1 := xorI (rotI 8192 2251799813685248 s.b) a1
  let a2 := rotI 4294967296 4294967296 a1
  let c1 := addI s.c s.d
  let d1 := xorI (rotI 65536 281474976710656 s.d) c1
  let a3 := addI a2 d1
  let d2 := xorI (rotI 2097152 8796093022208 d1) a3
  let c2 := addI c1 b1
  let b2 := xorI (rotI 131072 140737488355328 b1) c2
  let c3 := rotI 4294967296 4294967296 c2
  ⟨a3, b2, c3, d2⟩
def St.rounds (s : St) : Nat → St
  | 0 => s
  | n + 1 => (s.rounds n).round
def St.fin (t : St) (m : Int) : St := ⟨xorI t.a m, t.b, t.c, t.d⟩
def St.mix (s : St) (m : Int) : St := St.fin ((St.mk s.a s.b s.c (xorI s.d m)).rounds 2) m
theorem agg_eq (s : St) : s.agg = .agg #[.int .u64 s.a, .int .u64 s.b, .int .u64 s.c, .int .u64 s.d] := rfl

def sipInit (k0 k1 : Nat) : St := ⟨xorI k0 8317987319222330741, xorI k1 7237128888997146477, xorI k0 7816392313619706465, xorI k1 8387220255154660723⟩
def sipWords (s : St) (xs : List UInt8) : Nat → St
  | 0 => s
  | k + 1 => (sipWords s xs k).mix (leNat ((xs.drop (8 * k)).take 8))
def sipLast (xs : List UInt8) : Nat := leNat (xs.drop (8 * (xs.length / 8))) + xs.length % 256 * 72057594037927936
def St.mark (t : St) : St := ⟨t.a, t.b, xorI t.c 255, t.d⟩
def St.out (u : St) : Int := xorI (xorI (xorI u.a u.b) u.c) u.d
/-- the hash of the bytes xs -/
def sip (key xs : List UInt8) : Int :=
  St.out (((sipWords (sipInit (leNat (key.take 8)) (leNat (key.drop 8))) xs (xs.length / 8)).mix (sipLast xs)).mark.rounds 4)

theorem last_lt (xs : List UInt8) : leNat (xs.drop (8 * (xs.length / 8))) < 72057594037927936 := by
  have h := leNat_lt (xs.drop (8 * (xs.length / 8)))
  have h1 : (xs.drop (8 * (xs.length / 8))).length ≤ 7 := by simp; omega
  have h2 : 2 ^ (8 * (xs.drop (8 * (xs.length / 8))).length) ≤ 2 ^ 56 := Nat.pow_le_pow_right (by omega) (by omega)
  have h3 : (2 : Nat) ^ 56 = 72057594037927936 := by decide
  omega
theorem last_or (xs : List UInt8) : bits .or .u64 ((leNat (xs.drop (8 * (xs.length / 8))) : Nat) : Int) (IntKind.u64.wrap (((xs.length : Nat) : Int) * 72057594037927936)) = ((sipLast xs : Nat) : Int) := by
  have h := last_lt xs
  have e : IntKind.u64.wrap (((xs.length : Nat) : Int) * 72057594037927936) = IntKind.u64.wrap (((xs.length % 256 : Nat) : Int) * 2 ^ 56) := by
    rw [IntKind.wrap_u64, IntKind.wrap_u64]
    have : (2 : Int) ^ 56 = 72057594037927936 := by decide
    rw [this]
    omega
  have h3 : (2 : Nat) ^ 56 = 72057594037927936 := by decide
  rw [e, or_step (by omega) (by rw [h3]; omega), h3]
  rfl
theorem last_or' {xs : List UInt8} {n : Nat} (h : xs.length = n) : bits .or .u64 ((leNat (xs.drop (8 * (n / 8))) : Nat) : Int) (IntKind.u64.wrap (((n : Nat) : Int) * 72057594037927936)) = ((sipLast xs : Nat) : Int) := by
  subst h
  rw [last_or]
theorem last_add' {xs : List UInt8} {n : Nat} (h : xs.length = n) : IntKind.u64.wrap (((leNat (xs.drop (8 * (n / 8))) : Nat) : Int) + IntKind.u64.wrap (((n : Nat) : Int) % 256 * 72057594037927936)) = ((sipLast xs : Nat) : Int) := by
  subst h
  have h := last_lt xs
  unfold sipLast
  rw [IntKind.wrap_u64, IntKind.wrap_u64]
  omega
theorem last_add'' {xs : List UInt8} {n : Nat} (h : xs.length = n) : IntKind.u64.wrap (((leNat (xs.drop (8 * (n / 8))) : Nat) : Int) + ((n : Nat) : Int) % 256 * 72057594037927936) = ((sipLast xs : Nat) : Int) := by
  subst h
  have h := last_lt xs
  unfold sipLast
  rw [IntKind.wrap_u64]
  omega
end Go.Proofs.Ytbncbjblbdjddaa
