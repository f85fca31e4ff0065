/-
  The reference's Same, bytes.Equal, and Mod of the makers.
-/
import Derived.Test.YtbncbjblbdjddaaBytes
import Derived.Test.YtbncbjblbdjddaaRows
import Derived.WalkSpells
import Derived.WalkLawsBesides
import Derived.Lib.Hide
namespace Go.Proofs.Ytbncbjblbdjddaa
open Go.RowKit

theorem take_succ_eq {xs ys : List UInt8} {k : Nat} (hx : k < xs.length) (hy : k < ys.length) (h : xs.take k = ys.take k) (e : xs[k].toNat = ys[k].toNat) : xs.take (k + 1) = ys.take (k + 1) := by
  rw [List.take_succ_eq_append_getElem hx, List.take_succ_eq_append_getElem hy, h, UInt8.toNat_inj.1 e]

set_option maxRecDepth 100000 in
set_option maxHeartbeats 400000 in
theorem same_any (A : Option Addr) (n c : Nat) (xs : List UInt8) (B : Option Addr) (m d : Nat) (ys : List UInt8) (w : World) (hx : Reads w A n xs) (hy : Reads w B m ys) (hn : n ≤ 140737488355328) (hm : m ≤ 140737488355328) :
    Calls Try.prog 13 #[.slice A n c, .slice B m d] w fun e w' => e = .returned (.bool (decide (xs = ys))) ∧ Ext w w' := by
  have HX := Lib.hid hx.1
  have HY := Lib.hid hy.1
  by_cases hnm : n = m
  · subst hnm
    have hne : ((n : Int) != (n : Int)) = false := by simp
    go_enter Try.func13, Try.ntmps13
    go_wp2
    go_loopw [5] (fun i wr => ∃ k : Nat, k ≤ n ∧ i = .int .i64 k ∧ Hid (xs.take k = ys.take k) ∧ Hid (Ext w wr)) (fun i _ => n - (intOf i).toNat)
    case atStart => exact ⟨0, Nat.zero_le _, rfl, rfl, Ext.refl w⟩
    case round =>
      obtain ⟨k, hk, rfl, ht, hE⟩ := hrel
      by_cases hlt : k < n
      · obtain ⟨b, off, rfl, hb, _⟩ := hx.2 (by omega)
        obtain ⟨b', off', rfl, hb', _⟩ := hy.2 (by omega)
        have hc := (hx.ext hE.out).cell hlt
        have hc' := (hy.ext hE.out).cell hlt
        have hbw : b < wr.heap.size := World.block_lt_of_cell? _ _ hc
        have hbw' : b' < wr.heap.size := World.block_lt_of_cell? _ _ hc'
        go_wp2
        refine wp_region_monoL [] (by kernel_rfl) (by kernel_rfl) trivial ?_
        iterate 9
          refine wpM_quiet lax_of rfl rfl rfl (fun K hK => ?_)
          go_big_quiet_op
          refine hK _ ?_; clear hK K
        refine wpM_nil (fun W hW _ => ?_)
        have hE' := Lib.hid (hE.out.trans hW)
        clear hW
        by_cases he : xs[k]'(by have := HX.out; omega) = ys[k]'(by have := HY.out; omega)
        · have hcmp : (((xs[k]'(by have := HX.out; omega)).toNat : Int) != ((ys[k]'(by have := HY.out; omega)).toNat : Int)) = false := by rw [he]; simp
          go_wp2
          go_roundw
          case rel => exact ⟨k + 1, by omega, by go_num, take_succ_eq (by have := HX.out; omega) (by have := HY.out; omega) ht.out (by rw [he]), hE'⟩
          case measure => simp [intOf]; omega
        · have hcmp : (((xs[k]'(by have := HX.out; omega)).toNat : Int) != ((ys[k]'(by have := HY.out; omega)).toNat : Int)) = true := by
            simp only [bne_iff_ne, ne_eq]
            intro h; apply he; exact UInt8.toNat_inj.1 (by omega)
          go_wp2
          go_ret
          refine ⟨?_, hE'.out⟩
          have : decide (xs = ys) = false := by
            simp only [decide_eq_false_iff_not]
            intro h; subst h; exact he rfl
          rw [this]
          rfl
      · obtain rfl : k = n := by omega
        go_wp2
        go_ret
        refine ⟨?_, hE.out⟩
        have h1 := ht.out
        rw [List.take_of_length_le (by have := HX.out; omega), List.take_of_length_le (by have := HY.out; omega)] at h1
        rw [decide_eq_true h1]
        rfl
  · have hne : ((n : Int) != (m : Int)) = true := by simp; omega
    go_enter Try.func13, Try.ntmps13
    go_wp2
    go_ret
    refine ⟨?_, Ext.refl w⟩
    have : decide (xs = ys) = false := by
      simp only [decide_eq_false_iff_not]
      intro h; subst h; exact hnm (HX.out.symm.trans HY.out)
    rw [this]
    rfl

theorem foldl_push : ∀ (xs : List UInt8) (s : ByteArray), ((xs.map fun x => (x.toNat : Int)).foldl (fun r n => r.push (UInt8.ofNat n.toNat)) s) = ⟨s.data ++ xs.toArray⟩
  | [], s => by simp
  | x :: xs, s => by
    simp only [List.map_cons, List.foldl_cons]
    rw [foldl_push xs]
    simp [ByteArray.push]
theorem run_convert_reads {P : Program} (w : World) (src dst e : TypeId) (A : Option Addr) (n c : Nat) (xs : List UInt8)
    (hs : P.underlying src = some (.slice e)) (he : P.underlying e = some (.int .u8)) (hd : P.underlying dst = some .string) (h : Reads w A n xs) :
    (convert src dst (.slice A n c)).run P w = .ok (.string ⟨xs.toArray⟩) w := by
  rw [run_convert_bytes_string w src dst e A n c hs he hd]
  cases A with
  | none =>
    have h0 : n = 0 := by
      rcases Nat.eq_zero_or_pos n with h0 | h0
      · exact h0
      · obtain ⟨_, _, h1, _⟩ := h.2 h0; cases h1
    subst h0
    obtain rfl := List.eq_nil_of_length_eq_zero h.1
    simp [Conv.bytesToString]
    rfl
  | some a =>
    have hl : (loadCells a n).run P w = .ok ((xs.map fun x => (x.toNat : Int)).map (Value.int .u8)).toArray w := by
      have := run_loadCells_list (P := P) w a (xs.map B8) (fun j v hv => by
        rw [List.getElem?_map] at hv
        cases hx : xs[j]? with
        | none => rw [hx] at hv; cases hv
        | some x =>
          rw [hx] at hv
          simp only [Option.map_some, Option.some.injEq] at hv
          subst hv
          have hp : 0 < n := by
            have := (List.getElem?_eq_some_iff.1 hx).1
            have := h.1
            omega
          obtain ⟨b, off, e, _, hc⟩ := h.2 hp
          injection e with e
          subst e
          rw [Addr.add_mid]
          exact hc j x hx)
      rw [List.length_map, h.1] at this
      rw [List.map_map]
      exact this
    rw [run_bytesToString w a n c _ hl, foldl_push]
    simp

set_option maxHeartbeats 400000 in
theorem equal_any (A : Option Addr) (n c : Nat) (xs : List UInt8) (B : Option Addr) (m d : Nat) (ys : List UInt8) (w : World) (hx : Reads w A n xs) (hy : Reads w B m ys) :
    Calls Try.prog 26 #[.slice A n c, .slice B m d] w fun e w' => e = .returned (.bool (decide (xs = ys))) ∧ w = w' := by
  have h1 := run_convert_reads (P := Try.prog) w 24 9 5 A n c xs Try.underlying24 Try.underlying5 Try.underlying9 hx
  have h2 := run_convert_reads (P := Try.prog) w 24 9 5 B m d ys Try.underlying24 Try.underlying5 Try.underlying9 hy
  go_enter Try.func26, Try.ntmps26
  go_wp2
  go_ret
  refine ⟨?_, rfl⟩
  show Ending.returned (.bool (xs == ys)) = _
  have e : (xs == ys) = decide (xs = ys) := by rw [Bool.eq_iff_iff]; simp
  rw [e]

theorem tmod_cases (x m : Int) (hm : 0 < m) : (x.tmod m < 0 → x % m = x.tmod m + m) ∧ (0 ≤ x.tmod m → x % m = x.tmod m) ∧ -m < x.tmod m ∧ x.tmod m < m := by
  have h := Int.tmod_eq_emod (a := x) (b := m)
  have h1 := Int.emod_nonneg x (by omega : m ≠ 0)
  have h2 := Int.emod_lt_of_pos x hm
  split at h
  · omega
  · rename_i hc
    have h3 : x % m ≠ 0 := fun e => hc (.inr (Int.dvd_of_emod_eq_zero e))
    omega

set_option maxHeartbeats 400000 in
theorem mod_any (x m : Int) (w : World) (_hx : -9223372036854775808 ≤ x ∧ x ≤ 9223372036854775807) (hm : 0 < m) (hm' : m ≤ 1000000) :
    Calls Try.prog 11 #[.int .i64 x, .int .i64 m] w fun e w' => e = .returned (.int .i64 (x % m)) ∧ w = w' := by
  have h0 : (m == 0) = false := by simp; omega
  by_cases hs : x.tmod m < 0
  · have hd : decide (x.tmod m < 0) = true := by simpa using hs
    go_enter Try.func11, Try.ntmps11
    go_wp2
    go_ret
    refine ⟨?_, rfl⟩
    show Ending.returned (.int .i64 (wrap64 (x.tmod m + m))) = _
    have ht := tmod_cases x m hm
    rw [IntWalk.wrap64_in _ ⟨by omega, by omega⟩, ht.1 hs]
  · have hd : decide (x.tmod m < 0) = false := by simpa using hs
    go_enter Try.func11, Try.ntmps11
    go_wp2
    go_ret
    refine ⟨?_, rfl⟩
    show Ending.returned (.int .i64 (x.tmod m)) = _
    have ht := tmod_cases x m hm
    rw [ht.2.1 (by omega)]
end Go.Proofs.Ytbncbjblbdjddaa
