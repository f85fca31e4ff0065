/-
  Words for byte slices in memory; numbers of bytes, the least significant one first.
-/
import Derived.WalkKit
import Derived.Laws.Bits64
import Derived.Laws.Bits64b
import Derived.Deep.MidRow
import Derived.Deep.WholeRow
import Derived.Laws.CopyOwn
import Derived.Test.YtohhaibbbnobpaaMono
namespace Go.Proofs.Ytohhaibbbnobpaa
open Go.RowKit

/-- the byte as a value -/
abbrev B8 (x : UInt8) : Value := .int .u8 (x.toNat : Int)

/-- the slice '.slice A n c' holds the bytes xs -/
def Reads (w : World) (A : Option Addr) (n : Nat) (xs : List UInt8) : Prop :=
  xs.length = n ∧ (0 < n → ∃ b off, A = some ⟨b, off, none⟩ ∧ b < w.heap.size ∧ ∀ j x, xs[j]? = some x → w.cell? ⟨b, off + j, none⟩ = some (B8 x))

theorem Reads.nil (w : World) (A : Option Addr) : Reads w A 0 [] := ⟨rfl, fun h => absurd h (by omega)⟩
theorem Reads.ext {w w' : World} {A : Option Addr} {n : Nat} {xs : List UInt8} (h : Reads w A n xs) (e : Ext w w') : Reads w' A n xs := by
  refine ⟨h.1, fun hn => ?_⟩
  obtain ⟨b, off, rfl, hb, hc⟩ := h.2 hn
  obtain ⟨g, rfl⟩ := e
  exact ⟨b, off, rfl, by simp; omega, fun j u hu => by rw [cell_plus _ _ _ _ _ hb]; exact hc j u hu⟩
theorem Reads.steady {C : World → Prop} (A : Option Addr) (n : Nat) (xs : List UInt8) : Steady C fun w => Reads w A n xs := fun _ _ _ e h => h.ext e
theorem Reads.cell {w : World} {b off : Nat} {n k : Nat} {xs : List UInt8} (h : Reads w (some ⟨b, off, none⟩) n xs) (hk : k < n) : w.cell? ⟨b, off + k, none⟩ = some (B8 (xs[k]'(by have := h.1; omega))) := by
  obtain ⟨b', off', e, _, hc⟩ := h.2 (by omega)
  injection e with e
  injection e with e1 e2
  subst e1 e2
  exact hc k _ (List.getElem?_eq_getElem _)
/-- a part of the slice: 'b[i:j]' -/
theorem Reads.sub {w : World} {b off : Nat} {n : Nat} {xs : List UInt8} (h : Reads w (some ⟨b, off, none⟩) n xs) {i m : Nat} (hi : i + m ≤ n) : Reads w (some ⟨b, off + i, none⟩) m ((xs.drop i).take m) := by
  refine ⟨by have := h.1; simp; omega, fun hm => ?_⟩
  obtain ⟨b', off', e, hb, hc⟩ := h.2 (by omega)
  injection e with e
  injection e with e1 e2
  subst e1 e2
  refine ⟨_, _, rfl, hb, fun j x hx => ?_⟩
  rw [Nat.add_assoc]
  apply hc
  rw [List.getElem?_take] at hx
  split at hx
  · rw [List.getElem?_drop] at hx; exact hx
  · cases hx

def leNat : List UInt8 → Nat
  | [] => 0
  | x :: xs => x.toNat + 256 * leNat xs

theorem leNat_lt : ∀ xs : List UInt8, leNat xs < 2 ^ (8 * xs.length)
  | [] => by simp [leNat]
  | x :: xs => by
    have := leNat_lt xs
    have hx := x.toNat_lt
    simp only [leNat, List.length_cons, Nat.mul_add, Nat.pow_add]
    omega
theorem leNat_append : ∀ xs ys : List UInt8, leNat (xs ++ ys) = leNat xs + 2 ^ (8 * xs.length) * leNat ys
  | [], ys => by simp [leNat]
  | x :: xs, ys => by
    simp only [List.cons_append, leNat, leNat_append xs ys, List.length_cons, Nat.mul_add, Nat.pow_add]
    have : 256 * (2 ^ (8 * xs.length) * leNat ys) = 2 ^ (8 * xs.length) * 2 ^ (8 * 1) * leNat ys := by
      rw [show (2 : Nat) ^ (8 * 1) = 256 by decide, ← Nat.mul_assoc, Nat.mul_comm 256]
    omega
theorem leNat_lt64 {xs : List UInt8} (h : xs.length ≤ 8) : leNat xs < 18446744073709551616 := by
  have h1 := leNat_lt xs
  have h2 : 2 ^ (8 * xs.length) ≤ 2 ^ 64 := Nat.pow_le_pow_right (by omega) (by omega)
  have h3 : (2 : Nat) ^ 64 = 18446744073709551616 := by decide
  omega
theorem leNat_take_succ {xs : List UInt8} {k : Nat} (h : k < xs.length) : leNat (xs.take (k + 1)) = leNat (xs.take k) + xs[k].toNat * 2 ^ (8 * k) := by
  rw [List.take_succ_eq_append_getElem h, leNat_append]
  simp [leNat, Nat.min_eq_left (Nat.le_of_lt h), Nat.mul_comm]
theorem leNat_drop {xs : List UInt8} {k : Nat} (h : k < xs.length) : leNat (xs.drop k) = xs[k].toNat + 256 * leNat (xs.drop (k + 1)) := by
  rw [List.drop_eq_getElem_cons h, leNat]

theorem or_step {a x i : Nat} (ha : a < 2 ^ i) (hx : x * 2 ^ i + a < 18446744073709551616) :
    bits .or .u64 (a : Int) (IntKind.u64.wrap ((x : Int) * 2 ^ i)) = ((a + x * 2 ^ i : Nat) : Int) := by
  have e1 : IntKind.u64.wrap ((x : Int) * 2 ^ i) = ((x * 2 ^ i : Nat) : Int) := by
    rw [IntKind.wrap_u64]
    have : ((x : Int) * 2 ^ i) = ((x * 2 ^ i : Nat) : Int) := by push_cast; rfl
    rw [this]
    omega
  rw [e1, bits_or_u64_nat _ _ (by omega) (by omega)]
  congr 1
  have := Nat.shiftLeft_add_eq_or_of_lt ha x
  rw [Nat.shiftLeft_eq] at this
  rw [Nat.or_comm, ← this]
  omega
theorem wrap_byte (x : UInt8) : IntKind.u64.wrap ((x.toNat : Nat) : Int) = ((x.toNat : Nat) : Int) := by
  have := x.toNat_lt
  rw [IntKind.wrap_u64]
  omega
theorem little_step {xs : List UInt8} {k : Nat} (h : k < xs.length) (h8 : xs.length ≤ 8) :
    bits .or .u64 ((leNat (xs.take k) : Nat) : Int) (IntKind.u64.wrap (((xs[k].toNat : Nat) : Int) * 2 ^ (8 * k))) = ((leNat (xs.take (k + 1)) : Nat) : Int) := by
  have h1 := leNat_lt (xs.take k)
  rw [List.length_take, Nat.min_eq_left (by omega)] at h1
  have h2 := leNat_take_succ h
  have h3 : leNat (xs.take (k + 1)) < 18446744073709551616 := leNat_lt64 (by simp; omega)
  rw [or_step h1 (by omega), h2]
theorem number_step {xs : List UInt8} {k : Nat} (h : k < xs.length) (h8 : xs.length ≤ 8) :
    IntKind.u64.wrap (IntKind.u64.wrap (((leNat (xs.drop (k + 1)) : Nat) : Int) * 256) + ((xs[k].toNat : Nat) : Int)) = ((leNat (xs.drop k) : Nat) : Int) := by
  have h2 := leNat_drop h
  have h3 : leNat (xs.drop k) < 18446744073709551616 := leNat_lt64 (by simp; omega)
  rw [IntKind.wrap_u64, IntKind.wrap_u64]
  omega

/-- the value v is a slice of bytes with a known length and bytes xs -/
def IsBytes (w : World) (v : Value) (xs : List UInt8) : Prop :=
  ∃ A c, v = .slice A xs.length c ∧ Reads w A xs.length xs ∧ xs.length ≤ c ∧ c ≤ 9223372036854775807
theorem IsBytes.ext {w w' : World} {v : Value} {xs : List UInt8} (h : IsBytes w v xs) (e : Ext w w') : IsBytes w' v xs :=
  let ⟨A, c, h1, h2, h3, h4⟩ := h
  ⟨A, c, h1, h2.ext e, h3, h4⟩
theorem IsBytes.steady {C : World → Prop} (xs : List UInt8) (v : Value) : Steady C fun w => IsBytes w v xs := fun _ _ _ e h => h.ext e

/-- a row of bytes of the call's own -/
theorem reads_of_own {w : World} {base : Nat} {e : TypeId} {v : Value} {n : Nat} {xs : List UInt8} (h : w.ownsRow base e 1 v n (xs.map B8)) : IsBytes w v xs ∧ xs.length = n := by
  have hl : xs.length = n := by have := h.1; simpa using this
  subst hl
  refine ⟨?_, rfl⟩
  rcases h.2 with ⟨rfl, h0⟩ | ⟨g, cap, cur, rfl, hg, hh, hn, hc, hs, ht⟩
  · obtain rfl := List.eq_nil_of_length_eq_zero h0
    exact ⟨none, 0, rfl, Reads.nil w none, Nat.le_refl _, by simp⟩
  · refine ⟨_, _, rfl, ⟨rfl, fun _ => ⟨g, 0, rfl, ?_, fun j x hx => ?_⟩⟩, hn, by unfold maxLen at hc; omega⟩
    · rcases Nat.lt_or_ge g w.heap.size with h' | h'
      · exact h'
      · rw [Array.getElem?_eq_none h'] at hh; cases hh
    · have hj : (xs.map B8)[j]? = some (B8 x) := by rw [List.getElem?_map, hx]; rfl
      rw [← ht, List.getElem?_take] at hj
      split at hj
      · simp only [World.cell?, hh, Option.isSome_none, Bool.false_eq_true, if_false, Nat.zero_add]
        rw [← hj, Array.getElem?_toList]
      · cases hj

theorem own_block_ge {w : World} {base : Nat} {e : TypeId} {size : Nat} {v : Value} {n : Nat} {xs : List Value} (h : w.ownsRow base e size v n xs) : ∀ k, v.ownBlock = some k → base ≤ k := by
  intro k hk
  rcases h.2 with ⟨rfl, _⟩ | ⟨g, cap, cur, rfl, hg, _⟩
  · cases hk
  · simp only [Value.ownBlock, Option.some.injEq] at hk
    omega
theorem cell_one (w : World) (u : Value) (t : TypeId) : ∀ j x, [u][j]? = some x → (w.alloc (.cells #[u] t)).cell? ((⟨w.heap.size, 0, none⟩ : Addr).add j) = some x := by
  intro j x hx
  cases j with
  | zero => simpa [Addr.add] using hx
  | succ j => simp at hx

/-! ### whole arrays -/
theorem range_new (w : World) (cs : List Value) (t : TypeId) : (w.alloc (.cells cs.toArray t)).rangeAt w.heap.size 0 cs := by
  intro j v hv
  simp [hv]
theorem range_ext {w w' : World} {b o : Nat} {cs : List Value} (h : w.rangeAt b o cs) (e : Ext w w') : w'.rangeAt b o cs := by
  obtain ⟨g, rfl⟩ := e
  intro j v hv
  have h1 := h j v hv
  rw [cell_plus _ _ _ _ _ (World.block_lt_of_cell? _ _ h1)]
  exact h1
theorem setRow_plus (w : World) (c c' : Array Value) (t : TypeId) (g : Grow) : (wplus (w.alloc (.cells c t)) g).setRow w.heap.size c' = wplus (w.alloc (.cells c' t)) g := by
  simp only [World.setRow, wplus]
  congr 1
  apply Array.ext_getElem?
  intro k
  rw [Array.getElem?_modify]
  rcases Nat.lt_or_ge k (w.heap.size + 1) with hk | hk
  · rw [Array.getElem?_append_left (by simpa using hk), Array.getElem?_append_left (by simpa using hk)]
    simp only [World.alloc, Array.getElem?_push]
    by_cases h : k = w.heap.size
    · subst h; simp
    · rw [if_neg (fun e => h e.symm)]; simp [h]
  · rw [Array.getElem?_append_right (by simpa using hk), Array.getElem?_append_right (by simpa using hk), if_neg (by omega)]
    simp
/-- a whole array or struct, loaded in a region that draws -/
theorem quiet_load_row {P : Program} {W0 : World} {o : Oper} {a : Act} {K : Act → Prop} (ty : TypeId) (x : Operand) (ho : o.op = .load ty x) (b off : Nat) (hx : a.eval x = .pointer (some ⟨b, off, none⟩))
    (cs : List Value) (d : TypeDesc) (hc : W0.rangeAt b off cs) (hu : P.underlying ty = some d) (hd : d.isRow = true) (hi : (P.info? ty).map (·.size) = some cs.length) (hK : K (a.put o.dst (.agg cs.toArray))) : o.quiet P a (Ext W0) K := by
  refine ⟨.agg cs.toArray, fun w hw => ?_, hK⟩
  unfold Oper.quietAt execOp
  simp only [ho, hx, Instr.loadAt, Instr.sureAddr, Sem.run_bind, Sem.run_pure, Result.andThen_ok, run_loadVar_mid w b off ty cs d (range_ext hc hw) hu hd hi]
  exact ⟨rfl, rfl⟩
/-- a whole array or struct, loaded behind a guard that is true -/
theorem wpList_load_g {P : Program} {ops : Array Oper} {rest : List Oper} {op : Oper} {a : Act} {w : World} {Q : Exit → Act → World → Prop} (hw : Region.wanted op (yielded ops a.tmps) = true) (ty : TypeId) (x : Operand) (ho : op.op = .load ty x)
    (b o : Nat) (hx : a.eval x = .pointer (some ⟨b, o, none⟩)) (cs : List Value) (d : TypeDesc) (hc : w.rangeAt b o cs)
    (hu : P.underlying ty = some d) (hd : d.isRow = true) (hi : (P.info? ty).map (·.size) = some cs.length)
    (h : wpList P ops Q rest (a.put op.dst (.agg cs.toArray)) w) : wpList P ops Q (op :: rest) a w :=
  wpList_step fun _ hK => by rw [if_pos hw]; exact wp_load_mid ty x ho b o hx cs d hc hu hd hi (hK _ _ h)
end Go.Proofs.Ytohhaibbbnobpaa
