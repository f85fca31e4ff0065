/-
  SiphashTags: Tag and Verify return what the reference returns, for all arguments. No condition.
-/
import Derived.Test.YtbncbjblbdjddaaSipNumbers
namespace Go.Proofs.Ytbncbjblbdjddaa
open Go.ChangeShapes Go.WideShapes Go.ChangeAt Go.RowKit

/-- a row of bytes of the call's own, from block B on -/
def OwnB (B : Nat) (w : World) (u : Value) (T : List UInt8) : Prop :=
  IsBytes w u T ∧ (0 < T.length → ∃ g cap, u = .slice (some ⟨g, 0, none⟩) T.length cap ∧ B ≤ g ∧ g < w.heap.size ∧ ∀ j, w.frozen? ⟨g, j, none⟩ = false)
theorem OwnB.ext {B : Nat} {w w' : World} {u : Value} {T : List UInt8} (h : OwnB B w u T) (e : Ext w w') : OwnB B w' u T := by
  refine ⟨h.1.ext e, fun hp => ?_⟩
  obtain ⟨g, cap, h1, h2, h3, h4⟩ := h.2 hp
  obtain ⟨x, rfl⟩ := e
  exact ⟨g, cap, h1, h2, by simp; omega, fun j => by rw [frozen_plus _ _ _ _ _ h3]; exact h4 j⟩
theorem ownB_of {w : World} {B B' : Nat} {e : TypeId} {u : Value} {n : Nat} {T : List UInt8} (h : w.ownsRow B e 1 u n (T.map B8)) (hB : B' ≤ B) : OwnB B' w u T := by
  obtain ⟨h1, rfl⟩ := reads_of_own h
  refine ⟨h1, fun hp => ?_⟩
  rcases h.2 with ⟨_, h0⟩ | ⟨g, cap, cur, rfl, hg, hh, _⟩
  · omega
  · refine ⟨g, cap, rfl, by omega, ?_, fun j => ?_⟩
    · rcases Nat.lt_or_ge g w.heap.size with h' | h'
      · exact h'
      · rw [Array.getElem?_eq_none h'] at hh; cases hh
    · simp [World.frozen?, hh]

/-- what Tag answers: the bytes (none where n is out of range), and whether there are any -/
def tagIf (s : Int) (n : Int) : List UInt8 := if 1 ≤ n ∧ n ≤ 8 then tagOf s n.toNat else []
def tagOk (n : Int) : Bool := decide (1 ≤ n ∧ n ≤ 8)
/-- the two results, and the bytes -/
def TagV (n : Int) (T : List UInt8) (v : Value) (w : World) : Prop := ∃ A c, v = .tuple #[.slice A T.length c, .bool (tagOk n)] ∧ Reads w A T.length T
def TagO (B : Nat) (n : Int) (T : List UInt8) (v : Value) (w : World) : Prop := ∃ u, v = .tuple #[u, .bool (tagOk n)] ∧ OwnB B w u T
theorem steady_TagV {C : World → Prop} (n : Int) (T : List UInt8) (v : Value) : Steady C (TagV n T v) := fun _ _ _ e ⟨A, c, h1, h2⟩ => ⟨A, c, h1, h2.ext e⟩
theorem steady_TagO {C : World → Prop} (B : Nat) (n : Int) (T : List UInt8) (v : Value) : Steady C (TagO B n T v) := fun _ _ _ e ⟨u, h1, h2⟩ => ⟨u, h1, h2.ext e⟩

theorem tag_any (key : List UInt8) (hk : key.length = 16) (A : Option Addr) (n c : Nat) (xs : List UInt8) (m : Int) (w : World) (h : Reads w A n xs) (hnc : n ≤ c) (hn : n ≤ 140737488355328) (hc : c ≤ 9223372036854775807) :
    Calls Try.prog 12 #[keyV key, .slice A n c, .int .i64 m] w fun e w' => ∃ v, e = .returned v ∧ Ext w w' ∧ TagV m (tagIf (sip key xs) m) v w' := by
  by_cases hg : 1 ≤ m ∧ m ≤ 8
  · obtain ⟨k, rfl⟩ := Int.eq_ofNat_of_zero_le (by omega : 0 ≤ m)
    have e1 : tagOk (k : Int) = true := by simp [tagOk]; omega
    have e2 : tagIf (sip key xs) (k : Int) = tagOf (sip key xs) k := by unfold tagIf; rw [if_pos hg, Int.toNat_natCast]
    rw [e2]
    exact (tag_good key hk A n c xs k (by omega) (by omega) w h hnc hn hc).mono fun e w' ⟨v, he, hx, A', c', hb, hr, _⟩ => ⟨_, he, hx, A', c', by rw [hb, e1], hr⟩
  · have e1 : tagOk m = false := by unfold tagOk; exact decide_eq_false hg
    have e2 : tagIf (sip key xs) m = [] := by unfold tagIf; rw [if_neg hg]
    rw [e2]
    exact (tag_bad key (.slice A n c) m w (by omega)).mono fun e w' ⟨he, hx⟩ => ⟨_, he, hx, none, 0, by rw [e1]; rfl, Reads.nil _ _⟩
theorem reftag_any (key : List UInt8) (hk : key.length = 16) (A : Option Addr) (n c : Nat) (xs : List UInt8) (m : Int) (w : World) (h : Reads w A n xs) (hnc : n ≤ c) (hn : n ≤ 140737488355328) (hc : c ≤ 9223372036854775807) (B : Nat) (hB : B ≤ w.heap.size) :
    Calls Try.prog 14 #[keyV key, .slice A n c, .int .i64 m] w fun e w' => ∃ v, e = .returned v ∧ Ext w w' ∧ TagO B m (tagIf (sip key xs) m) v w' := by
  by_cases hg : 1 ≤ m ∧ m ≤ 8
  · obtain ⟨k, rfl⟩ := Int.eq_ofNat_of_zero_le (by omega : 0 ≤ m)
    have e1 : tagOk (k : Int) = true := by simp [tagOk]; omega
    have e2 : tagIf (sip key xs) (k : Int) = tagOf (sip key xs) k := by unfold tagIf; rw [if_pos hg, Int.toNat_natCast]
    rw [e2]
    exact (reftag_good key hk A n c xs k (by omega) (by omega) w h hnc hn hc).mono fun e w' ⟨v, he, hx, hb⟩ => ⟨_, he, hx, v, by rw [e1], ownB_of hb hB⟩
  · have e1 : tagOk m = false := by unfold tagOk; exact decide_eq_false hg
    have e2 : tagIf (sip key xs) m = [] := by unfold tagIf; rw [if_neg hg]
    rw [e2]
    exact (reftag_bad key (.slice A n c) m w (by omega)).mono fun e w' ⟨he, hx⟩ => ⟨_, he, hx, .slice none 0 0, by rw [e1], ⟨none, 0, rfl, Reads.nil _ _, by simp, by omega⟩, fun h => absurd h (by simp)⟩

theorem xor_u8 (x y : UInt8) : bits .xor .u8 (x.toNat : Int) (y.toNat : Int) = ((x ^^^ y).toNat : Int) := by
  have hx := x.toNat_lt
  have hy := y.toNat_lt
  have h1 : (BitVec.ofInt 8 (x.toNat : Int)).toNat = x.toNat := by
    rw [BitVec.ofInt_natCast, BitVec.toNat_ofNat]; exact Nat.mod_eq_of_lt (by omega)
  have h2 : (BitVec.ofInt 8 (y.toNat : Int)).toNat = y.toNat := by
    rw [BitVec.ofInt_natCast, BitVec.toNat_ofNat]; exact Nat.mod_eq_of_lt (by omega)
  have hxy : x.toNat ^^^ y.toNat < 2 ^ 8 := Nat.xor_lt_two_pow (by omega) (by omega)
  show IntKind.u8.wrap ((BitVec.ofInt 8 (x.toNat : Int) ^^^ BitVec.ofInt 8 (y.toNat : Int)).toNat : Int) = _
  rw [BitVec.toNat_xor, h1, h2, IntKind.wrap_u8, UInt8.toNat_xor]
  omega
theorem xor_ne {x y : UInt8} (h : x ^^^ y = x) : y = 0 := by
  have : x ^^^ (x ^^^ y) = x ^^^ x := by rw [h]
  rwa [← UInt8.xor_assoc, UInt8.xor_self, UInt8.zero_xor] at this
/-- one byte is turned -/
theorem Reads.set {w : World} {g n j : Nat} {T : List UInt8} {y : UInt8} (h : Reads w (some ⟨g, 0, none⟩) n T) (hj : j < n) : Reads (w.setCell ⟨g, j, none⟩ (B8 y)) (some ⟨g, 0, none⟩) n (T.set j y) := by
  refine ⟨by rw [List.length_set]; exact h.1, fun hp => ⟨g, 0, rfl, ?_, fun i x hx => ?_⟩⟩
  · obtain ⟨b, off, e, hb, _⟩ := h.2 hp
    injection e with e
    injection e with e1 e2
    subst e1
    simpa using hb
  · have hl := h.1
    rw [Nat.zero_add]
    by_cases hij : i = j
    · subst hij
      rw [List.getElem?_set_self (by omega)] at hx
      injection hx with hx
      subst hx
      have := h.cell (k := i) (by omega)
      rw [Nat.zero_add] at this
      exact World.cell?_setCell_same _ _ _ this
    · rw [List.getElem?_set_ne (fun e => hij e.symm)] at hx
      have hi : i < n := by
        have := (List.getElem?_eq_some_iff.1 hx).1
        omega
      rw [World.cell?_setCell_other _ _ _ _ (fun e => hij (by injection e with _ e2; exact e2.symm))]
      have := h.cell (k := i) hi
      rw [Nat.zero_add] at this
      rw [this]
      have hx' : T[i]? = some (T[i]'(by omega)) := List.getElem?_eq_getElem _
      rw [hx'] at hx
      injection hx with hx
      rw [hx]
theorem verB_set {s : Int} {a j : Nat} (h1 : 1 ≤ a) (h8 : a ≤ 8) (hj : j < (tagOf s a).length) (y : UInt8) : verB s ((tagOf s a).set j ((tagOf s a)[j] ^^^ y)) = decide (y = 0) := by
  unfold verB
  rw [List.length_set, tagOf_length]
  by_cases hy : y = 0
  · subst hy
    simp [h1, h8]
  · rw [decide_eq_false hy]
    simp only [decide_eq_false_iff_not]
    rintro ⟨_, _, h⟩
    apply hy
    have : (tagOf s a)[j]? = ((tagOf s a).set j ((tagOf s a)[j] ^^^ y))[j]? := congrArg (fun l : List UInt8 => l[j]?) h
    rw [List.getElem?_set_self hj, List.getElem?_eq_getElem hj] at this
    injection this with this
    exact xor_ne this.symm

theorem verB_tagIf (s m : Int) : verB s (tagIf s m) = tagOk m := by
  unfold tagIf tagOk
  by_cases h : 1 ≤ m ∧ m ≤ 8
  · rw [if_pos h, decide_eq_true h, verB_tag s (by omega) (by omega)]
  · rw [if_neg h, decide_eq_false h, verB_nil]

set_option maxRecDepth 100000 in
set_option maxHeartbeats 4000000 in
theorem tags_walk (key : List UInt8) (hk : key.length = 16) (A : Option Addr) (n c : Nat) (xs : List UInt8) (B : Option Addr) (m d : Nat) (ys : List UInt8) (x y z : Int) (hx : -9223372036854775808 ≤ x ∧ x ≤ 9223372036854775807) (hy : -9223372036854775808 ≤ y ∧ y ≤ 9223372036854775807) (hz : 0 ≤ z ∧ z ≤ 255)
    (w : World) (h : Reads w A n xs) (hnc : n ≤ c) (hc : c ≤ 140737488351232) (h2 : Reads w B m ys) (hmd : m ≤ d) (hd : d ≤ 140737488351232) :
    Calls Try.prog 5 #[keyV key, .slice A n c, .slice B m d, .int .i64 x, .int .i64 y, .int .u8 z] w fun e w' => e = .returned (.bool true) ∧ Ext w w' := by
  have hrange := range_new w (key.map B8) 23
  have hE0 : Ext w (w.alloc (.cells (key.map B8).toArray 23)) := Ext.alloc _ _
  have hR := h.ext hE0
  have hS := h2.ext hE0
  have HL := Lib.hid hk
  clear hk h h2
  have m1 := fun W => mod_any x 10 W hx (by omega) (by omega)
  obtain ⟨x1, hx1⟩ : ∃ x1, x % 10 = x1 := ⟨_, rfl⟩
  have hx1b : 0 ≤ x1 ∧ x1 < 10 := by omega
  rw [hx1] at m1
  have M1 := Lib.hid m1
  clear m1 hx1
  go_enter Try.func5, Try.ntmps5
  go_wp2
  generalize w.alloc (.cells (key.map B8).toArray 23) = W0 at *
  obtain ⟨T, hT⟩ : ∃ T, tagIf (sip key xs) x1 = T := ⟨_, rfl⟩
  obtain ⟨U, hU⟩ : ∃ U, tagIf (sip key xs) x = U := ⟨_, rfl⟩
  obtain ⟨s, hs⟩ : ∃ s, sip key xs = s := ⟨_, rfl⟩
  have HT := Lib.hid hT
  have HU := Lib.hid hU
  have HS := Lib.hid hs
  clear hT hU hs
  refine wp_region_monoL [(3, isV (.int .i64 x1)), (4, TagO W0.heap.size x1 T)] (by kernel_rfl) (by kernel_rfl) ⟨steady_isV _, steady_TagO _ _ _, trivial⟩ ?_
  refine wpM_quiet0 lax_of rfl rfl rfl (fun K hK => ?_)
  refine quiet_load_row 23 _ rfl _ _ rfl _ _ hrange Try.underlying23 rfl (key_info' HL.out) (hK _ ?_)
  clear hK K
  simp only [Act.put, List.setIfInBounds_toArray, List.set_cons_zero, List.set_cons_succ]
  iterate 2
    refine wpM_quiet0 lax_of rfl rfl rfl (fun K hK => ?_)
    go_big_quiet_op
    refine hK _ ?_; clear hK K
  refine wpM_val _ lax_of rfl rfl (fun W hW => ?_) ?_
  · obtain ⟨g, rfl⟩ := hW
    go_simp
    exact fit_same (M1.out _)
  simp only [Act.put, List.setIfInBounds_toArray, List.set_cons_zero, List.set_cons_succ]
  refine wpM_call _ rfl rfl (fun W hW hF => ?_) (fun v hv => ?_)
  · obtain ⟨g, rfl⟩ := hW
    clear hF
    go_simp
    exact fit_psi (by have h1 := reftag_any key HL.out A n c xs x1 _ (hR.ext (Ext.plus W0 g)) hnc (by omega) (by omega) W0.heap.size (by simp); rw [HT.out] at h1; exact h1)
  obtain ⟨_, _, _, u1, rfl, _⟩ := hv
  simp only [Act.put, List.setIfInBounds_toArray, List.set_cons_zero, List.set_cons_succ]
  iterate 5
    refine wpM_quiet lax_of rfl rfl rfl (fun K hK => ?_)
    go_big_quiet_op
    refine hK _ ?_; clear hK K
  refine wpM_nil (fun W1 hW1 hJ => ?_)
  obtain ⟨_, u, e1, hO1⟩ := hJ
  obtain ⟨rfl, -⟩ : u1 = u ∧ True := by simpa using e1
  clear e1
  go_wp2
  refine wp_region_monoL [(3, isV (.int .i64 x1)), (4, TagV x1 T)] (by kernel_rfl) (by kernel_rfl) ⟨steady_isV _, steady_TagV _ _, trivial⟩ ?_
  refine wpM_quiet0 lax_of rfl rfl rfl (fun K hK => ?_)
  refine quiet_load_row 23 _ rfl _ _ rfl _ _ (range_ext hrange hW1) Try.underlying23 rfl (key_info' HL.out) (hK _ ?_)
  clear hK K
  simp only [Act.put, List.setIfInBounds_toArray, List.set_cons_zero, List.set_cons_succ]
  iterate 2
    refine wpM_quiet0 lax_of rfl rfl rfl (fun K hK => ?_)
    go_big_quiet_op
    refine hK _ ?_; clear hK K
  refine wpM_val _ lax_of rfl rfl (fun W hW => ?_) ?_
  · obtain ⟨g, rfl⟩ := hW
    go_simp
    exact fit_same (M1.out _)
  simp only [Act.put, List.setIfInBounds_toArray, List.set_cons_zero, List.set_cons_succ]
  refine wpM_call _ rfl rfl (fun W hW hF => ?_) (fun v hv => ?_)
  · obtain ⟨g, rfl⟩ := hW
    clear hF
    go_simp
    exact fit_psi (by have h1 := tag_any key HL.out A n c xs x1 _ ((hR.ext hW1).ext (Ext.plus W1 g)) hnc (by omega) (by omega); rw [HT.out] at h1; exact h1)
  obtain ⟨_, _, _, A2, c2, rfl, _⟩ := hv
  simp only [Act.put, List.setIfInBounds_toArray, List.set_cons_zero, List.set_cons_succ]
  iterate 5
    refine wpM_quiet lax_of rfl rfl rfl (fun K hK => ?_)
    go_big_quiet_op
    refine hK _ ?_; clear hK K
  refine wpM_nil (fun W2 hW2 hJ => ?_)
  obtain ⟨_, A2', c2', e1, hR2⟩ := hJ
  obtain ⟨rfl, rfl⟩ : A2 = A2' ∧ c2 = c2' := by simpa using e1
  clear e1
  have hE2 := hW1.trans hW2
  have hO2 := hO1.ext hW2
  clear hO1 hW1 hW2
  go_wp2_with (refine wpList_load_mid rfl 23 _ rfl _ _ rfl _ _ (range_ext hrange hE2) Try.underlying23 rfl (key_info' HL.out) ?_)
  refine (tag_any key HL.out A n c xs x _ (hR.ext hE2) hnc (by omega) (by omega)).mono ?_
  rw [HU.out]
  rintro e W3 ⟨v, rfl, hW3, A3, c3, rfl, hR3⟩
  have hE3 := hE2.trans hW3
  have hO3 := hO2.ext hW3
  have hR2' := hR2.ext hW3
  clear hE2 hO2 hR2 hW3
  go_wp2_with (refine wpList_load_mid rfl 23 _ rfl _ _ rfl _ _ (range_ext hrange hE3) Try.underlying23 rfl (key_info' HL.out) ?_)
  refine (reftag_any key HL.out A n c xs x _ (hR.ext hE3) hnc (by omega) (by omega) 0 (by omega)).mono ?_
  rw [HU.out]
  rintro e W4 ⟨v, rfl, hW4, u4, rfl, ⟨A4, c4, rfl, hR4, _, _⟩, _⟩
  have hE4 := hE3.trans hW4
  have hO4 := hO3.ext hW4
  have hR2 := hR2'.ext hW4
  have hR3' := hR3.ext hW4
  clear hE3 hO3 hR2' hR3 hW4
  obtain ⟨ok1, hok1⟩ : ∃ b, tagOk x1 = b := ⟨_, rfl⟩
  obtain ⟨ok2, hok2⟩ : ∃ b, tagOk x = b := ⟨_, rfl⟩
  rw [hok1, hok2]
  have HO1 := Lib.hid hok1
  clear hok1 hok2
  obtain ⟨⟨A1, c1, rfl, hR1, hn1, hc1⟩, hown⟩ := hO4
  have hTl : T.length ≤ 8 := by
    rw [← HT.out]; unfold tagIf; split
    · rw [tagOf_length]; omega
    · simp
  have hUl : U.length ≤ 8 := by
    rw [← HU.out]; unfold tagIf; split
    · rw [tagOf_length]; omega
    · simp
  have ok1n : (ok1 != ok1) = false := by simp
  have ok2n : (ok2 != ok2) = false := by simp
  go_wp2
  refine wp_region_monoL [(11, isV (.bool true)), (17, isV (.bool true)), (24, isV (.bool (verB s ys))), (28, isV (.bool (verB s ys))), (35, isV (.bool ok1))] (by kernel_rfl) (by kernel_rfl) ⟨steady_isV _, steady_isV _, steady_isV _, steady_isV _, steady_isV _, trivial⟩ ?_
  iterate 11
    refine wpM_quiet0 lax_of rfl rfl rfl (fun K hK => ?_)
    go_big_quiet_op
    refine hK _ ?_; clear hK K
  refine wpM_val _ lax_of rfl rfl (fun W hW => ?_) ?_
  · obtain ⟨g, rfl⟩ := hW
    go_simp
    exact fit_val (by have h1 := same_any A1 _ c1 T A2 _ c2 T _ (hR1.ext (Ext.plus W4 g)) (hR2.ext (Ext.plus W4 g)) (by omega) (by omega); rw [decide_eq_true rfl] at h1; exact h1)
  simp only [Act.put, List.setIfInBounds_toArray, List.set_cons_zero, List.set_cons_succ]
  iterate 5
    refine wpM_quiet0 lax_of rfl rfl rfl (fun K hK => ?_)
    go_big_quiet_op
    refine hK _ ?_; clear hK K
  refine wpM_val _ lax_of rfl rfl (fun W hW => ?_) ?_
  · obtain ⟨g, rfl⟩ := hW
    go_simp
    exact fit_val (by have h1 := same_any A3 _ c3 U A4 _ c4 U _ (hR3'.ext (Ext.plus W4 g)) (hR4.ext (Ext.plus W4 g)) (by omega) (by omega); rw [decide_eq_true rfl] at h1; exact h1)
  simp only [Act.put, List.setIfInBounds_toArray, List.set_cons_zero, List.set_cons_succ]
  iterate 3
    refine wpM_quiet0 lax_of rfl rfl rfl (fun K hK => ?_)
    go_big_quiet_op
    refine hK _ ?_; clear hK K
  refine wpM_quiet0 lax_of rfl rfl rfl (fun K hK => ?_)
  refine quiet_load_row 23 _ rfl _ _ rfl _ _ (range_ext hrange hE4) Try.underlying23 rfl (key_info' HL.out) (hK _ ?_)
  clear hK K
  simp only [Act.put, List.setIfInBounds_toArray, List.set_cons_zero, List.set_cons_succ]
  iterate 2
    refine wpM_quiet0 lax_of rfl rfl rfl (fun K hK => ?_)
    go_big_quiet_op
    refine hK _ ?_; clear hK K
  refine wpM_val _ lax_of rfl rfl (fun W hW => ?_) ?_
  · obtain ⟨g, rfl⟩ := hW
    go_simp
    exact fit_val (by have h1 := verify_any key HL.out A n c xs B m d ys _ ((hR.ext hE4).ext (Ext.plus W4 g)) hnc (by omega) (by omega) ((hS.ext hE4).ext (Ext.plus W4 g)) (by omega); rw [HS.out] at h1; exact h1)
  simp only [Act.put, List.setIfInBounds_toArray, List.set_cons_zero, List.set_cons_succ]
  refine wpM_quiet0 lax_of rfl rfl rfl (fun K hK => ?_)
  refine quiet_load_row 23 _ rfl _ _ rfl _ _ (range_ext hrange hE4) Try.underlying23 rfl (key_info' HL.out) (hK _ ?_)
  clear hK K
  simp only [Act.put, List.setIfInBounds_toArray, List.set_cons_zero, List.set_cons_succ]
  iterate 2
    refine wpM_quiet0 lax_of rfl rfl rfl (fun K hK => ?_)
    go_big_quiet_op
    refine hK _ ?_; clear hK K
  refine wpM_val _ lax_of rfl rfl (fun W hW => ?_) ?_
  · obtain ⟨g, rfl⟩ := hW
    go_simp
    exact fit_val (by have h1 := refverify_any key HL.out A n c xs B m d ys _ ((hR.ext hE4).ext (Ext.plus W4 g)) hnc (by omega) (by omega) ((hS.ext hE4).ext (Ext.plus W4 g)) (by omega); rw [HS.out] at h1; exact h1)
  simp only [Act.put, List.setIfInBounds_toArray, List.set_cons_zero, List.set_cons_succ]
  iterate 3
    refine wpM_quiet0 lax_of rfl rfl rfl (fun K hK => ?_)
    go_big_quiet_op
    refine hK _ ?_; clear hK K
  refine wpM_quiet0 lax_of rfl rfl rfl (fun K hK => ?_)
  refine quiet_load_row 23 _ rfl _ _ rfl _ _ (range_ext hrange hE4) Try.underlying23 rfl (key_info' HL.out) (hK _ ?_)
  clear hK K
  simp only [Act.put, List.setIfInBounds_toArray, List.set_cons_zero, List.set_cons_succ]
  iterate 2
    refine wpM_quiet0 lax_of rfl rfl rfl (fun K hK => ?_)
    go_big_quiet_op
    refine hK _ ?_; clear hK K
  refine wpM_val _ lax_of rfl rfl (fun W hW => ?_) ?_
  · obtain ⟨g, rfl⟩ := hW
    go_simp
    exact fit_val (by have h1 := verify_any key HL.out A n c xs A1 _ c1 T _ ((hR.ext hE4).ext (Ext.plus W4 g)) hnc (by omega) (by omega) (hR1.ext (Ext.plus W4 g)) (by omega); rw [← HT.out, verB_tagIf, HO1.out, HT.out] at h1; exact h1)
  simp only [Act.put, List.setIfInBounds_toArray, List.set_cons_zero, List.set_cons_succ]
  iterate 3
    refine wpM_quiet0 lax_of rfl rfl rfl (fun K hK => ?_)
    go_big_quiet_op
    refine hK _ ?_; clear hK K
  refine wpM_nil (fun W5 hW5 _ => ?_)
  have hE5 := hE4.trans hW5
  have hR5 := hR1.ext hW5
  clear hE4 hR1 hR2 hR3' hR4
  cases ok1 with
  | false =>
    have hTn : T = [] := by
      rw [← HT.out]
      unfold tagIf
      rw [if_neg (by have := HO1.out; unfold tagOk at this; simpa using this)]
    subst hTn
    go_wp2_with fail
    refine (known_any _).mono ?_
    rintro e W6 ⟨rfl, hW6⟩
    go_wp2_with (refine wpList_load_g rfl 23 _ rfl _ _ rfl _ _ (range_ext hrange (hE5.trans hW6)) Try.underlying23 rfl (key_info' HL.out) ?_)
    refine (verify_any key HL.out A n c xs A1 0 c1 [] _ (hR.ext (hE5.trans hW6)) hnc (by omega) (by omega) (hR5.ext hW6) (by omega)).mono ?_
    rw [verB_nil]
    rintro e W7 ⟨rfl, hW7⟩
    go_wp2
    go_ret
    exact ⟨rfl, hE0.trans (hE5.trans (hW6.trans hW7))⟩
  | true =>
    have hxg : 1 ≤ x1 ∧ x1 ≤ 8 := by have := HO1.out; unfold tagOk at this; simpa using this
    obtain ⟨a, rfl⟩ := Int.eq_ofNat_of_zero_le hx1b.1
    have hTe : T = tagOf s a := by
      rw [← HT.out, HS.out]
      unfold tagIf
      rw [if_pos hxg, Int.toNat_natCast]
    have hTa : T.length = a := by rw [hTe, tagOf_length]
    obtain ⟨g, cap, e1, hgB, hgW, hfz⟩ := hown (by omega)
    obtain ⟨rfl, rfl⟩ : A1 = some ⟨g, 0, none⟩ ∧ c1 = cap := by simpa using e1
    clear e1 hown
    have HTe := Lib.hid hTe
    clear hTe
    rw [hTa] at hR5 hn1 ⊢
    have HTa := Lib.hid hTa
    clear hTa hTl
    have m2 := fun W => mod_any y a W hy (by omega) (by omega)
    obtain ⟨j, hj, hja⟩ : ∃ j : Nat, y % (a : Int) = (j : Int) ∧ j < a := ⟨(y % (a : Int)).toNat, by have := Int.emod_nonneg y (by omega : (a : Int) ≠ 0); omega, by have := Int.emod_nonneg y (by omega : (a : Int) ≠ 0); have := Int.emod_lt_of_pos y (by omega : (0 : Int) < a); omega⟩
    rw [hj] at m2
    have M2 := Lib.hid m2
    clear m2 hj
    have hcl := hR5.cell hja
    rw [Nat.zero_add] at hcl
    have hfr : W5.frozen? ⟨g, j, none⟩ = false := by
      obtain ⟨gg, rfl⟩ := hW5
      rw [frozen_plus _ _ _ _ _ hgW]
      exact hfz j
    obtain ⟨zb, rfl⟩ : ∃ zb : UInt8, z = (zb.toNat : Int) := ⟨UInt8.ofNat z.toNat, by rw [UInt8.toNat_ofNat']; omega⟩
    clear hfz hW5 hgW
    have hxr := xor_u8 (T[j]'(by have := HTa.out; omega)) zb
    go_wp2_with fail
    refine (M2.out _).mono ?_
    rintro e w' ⟨rfl, rfl⟩
    have hR6 := hR5.set (y := T[j]'(by have := HTa.out; omega) ^^^ zb) hja
    have hE6 : Ext W0 (W5.setCell ⟨g, j, none⟩ (B8 (T[j]'(by have := HTa.out; omega) ^^^ zb))) := Ext.of_below (hE5.below.setCell (p := ⟨g, j, none⟩) hgB _)
    simp only [B8, UInt8.toNat_xor] at hR6 hE6
    have hver : verB s (T.set j (T[j]'(by have := HTa.out; omega) ^^^ zb)) = decide (zb = 0) := by
      obtain rfl := HTe.out
      exact verB_set (by omega) (by omega) _ zb
    have HV := Lib.hid hver
    clear hver
    go_wp2_with fail
    generalize T.set j (T[j]'(by have := HTa.out; omega) ^^^ zb) = T' at *
    generalize W5.setCell ⟨g, j, none⟩ (.int .u8 ((T[j]'(by have := HTa.out; omega)).toNat ^^^ zb.toNat : Nat)) = W6 at *
    refine (known_any _).mono ?_
    rintro e W7 ⟨rfl, hW7⟩
    go_wp2_with (refine wpList_load_g rfl 23 _ rfl _ _ rfl _ _ (range_ext hrange (hE6.trans hW7)) Try.underlying23 rfl (key_info' HL.out) ?_)
    refine (verify_any key HL.out A n c xs _ a c1 T' _ (hR.ext (hE6.trans hW7)) hnc (by omega) (by omega) (hR6.ext hW7) (by omega)).mono ?_
    rw [HS.out, HV.out]
    rintro e W8 ⟨rfl, hW8⟩
    by_cases hzb : zb = 0
    · have h1 : (((zb.toNat : Nat) : Int) == 0) = true := by rw [hzb]; rfl
      rw [decide_eq_true hzb]
      go_wp2
      go_ret
      exact ⟨rfl, hE0.trans (hE6.trans (hW7.trans hW8))⟩
    · have h1 : (((zb.toNat : Nat) : Int) == 0) = false := by
        simp only [beq_eq_false_iff_ne, ne_eq]
        intro h; apply hzb; exact UInt8.toNat_inj.1 (by simpa using h)
      rw [decide_eq_false hzb]
      go_wp2
      go_ret
      exact ⟨rfl, hE0.trans (hE6.trans (hW7.trans hW8))⟩

set_option maxRecDepth 100000 in
theorem siphashTags_lifted (os : Os) (started : os.Started) (H : Type) (enc : TypeId × Value → H) :
    ReturnsInHanded {} Try.checked os 5 .any (Rows.siphashTagsSpec.pre6 enc Try.prog Try.f5 Rows.siphashTagsRow.domain false) (Rows.siphashTagsSpec.post enc Try.prog Try.f5 false true false false) := by
  refine returnsInHanded_of_change_sized (C := Try.checked) own started (by kernel_rfl) Try.func5
    (ChangeSpec.witness6 (enc := enc) (C := Try.checked) false ⟨#[], #[.agg (Array.replicate 16 (.int .u8 0)), .slice none 0 0, .slice none 0 0, .int .i64 0, .int .i64 0, .int .u8 0], []⟩ 8 (by kernel_rfl) (by kernel_rfl) (by kernel_rfl) (by kernel_rfl)) ?_
  intro W base args ds gs before hval0 hW hcnd hsz0 _
  have hval : ∀ (j : Nat) t v, Try.f5.params[j]? = some t → args[j]? = some v → Value.okWide Try.prog W .any base t v := hval0
  have hsz : (DataW.weightsEach Try.prog (Try.f5.params.toList ++ Rows.siphashTagsSpec.plain.varTypes Try.prog) (ds ++ gs)).all (· ≤ reachBytes) = true := hsz0
  have hW' := hW
  obtain ⟨p, q, hA0, hV, rfl, hfz, hnd⟩ := hW
  have hA : DataW.TrodAll enc Try.prog W 0 (fun _ => true) true Try.f5.params.toList args.toList ds p := hA0
  have hAll := hA
  rw [Try.params5] at hA hval hsz hAll
  obtain ⟨v0, vs0, d0, ds0, p0, q0, hargs, rfl, rfl, h0, r0⟩ := trodAll_cons hA
  obtain ⟨v1, vs1, d1, ds1, p1, q1, rfl, rfl, rfl, h1, r1⟩ := trodAll_cons r0
  obtain ⟨v2, vs2, d2, ds2, p2, q2, rfl, rfl, rfl, h2, r2⟩ := trodAll_cons r1
  obtain ⟨v3, vs3, d3, ds3, p3, q3, rfl, rfl, rfl, h3, r3⟩ := trodAll_cons r2
  obtain ⟨v4, vs4, d4, ds4, p4, q4, rfl, rfl, rfl, h4, r4⟩ := trodAll_cons r3
  obtain ⟨v5, vs5, d5, ds5, p5, q5, rfl, rfl, rfl, h5, r5⟩ := trodAll_cons r4
  obtain ⟨rfl, rfl, rfl⟩ := trodAll_nil r5
  obtain rfl : args = #[v0, v1, v2, v3, v4, v5] := by cases args; simp_all
  obtain ⟨rfl, rfl⟩ := trodVars_none hV
  obtain ⟨key0, hk0, rfl⟩ := open_arr8 Try.underlying23 Try.underlying5 (by kernel_rfl) (by kernel_rfl) (hval 0 23 v0 rfl rfl) h0
  obtain ⟨A1, n1, c1, xs1, rfl, hR1, hnc1, hc1⟩ := open_bytes Try.underlying24 Try.underlying5 (by kernel_rfl) (by kernel_rfl) (hval 1 24 v1 rfl rfl) h1 hsz (j := 1) rfl rfl
  obtain ⟨A2, n2, c2, xs2, rfl, hR2, hnc2, hc2⟩ := open_bytes Try.underlying24 Try.underlying5 (by kernel_rfl) (by kernel_rfl) (hval 2 24 v2 rfl rfl) h2 hsz (j := 2) rfl rfl
  obtain ⟨x3, rfl, rfl, rfl, w3⟩ := open_int Try.underlying3 (hval 3 3 v3 rfl rfl) h3
  obtain ⟨x4, rfl, rfl, rfl, w4⟩ := open_int Try.underlying3 (hval 4 3 v4 rfl rfl) h4
  obtain ⟨x5, rfl, rfl, rfl, w5⟩ := open_int Try.underlying5 (hval 5 5 v5 rfl rfl) h5
  clear hA0 hval0 hsz0
  refine (tags_walk key0 hk0 A1 n1 c1 xs1 A2 n2 c2 xs2 x3 x4 x5 (i64_bd w3) (i64_bd w4) (u8_bd w5) W hR1 hnc1 hc1 hR2 hnc2 hc2).mono fun e W' ⟨he, hx⟩ => ?_
  subst he
  have bel := hx.below
  exact ⟨_, rfl, _, _, _, [], _, [], hW', trodAll_mk1 (shut_bool Try.underlying4 _), trodAll_below laidOut bel (by kernel_rfl) hAll, rfl, bel.frame _, fun h => by cases h⟩

theorem siphashTags_holds : Rows.SiphashTagsSaid :=
  OpenClaim.holds_of_wide 5 Try.f5 rfl rfl rfl rfl rfl rfl rfl ⟨rfl, rfl, rfl, rfl, rfl⟩ rfl rfl rfl rfl rfl (by kernel_rfl) Try.func5 (by kernel_rfl)
    (of_decide_eq_true (by kernel_rfl)) (by unfold Func.isWrapper; first | (rw [if_pos (by decide +kernel)]; kernel_rfl) | (rw [if_neg (by decide +kernel)]; exact ⟨rfl, rfl⟩))
    (fun os started H enc _ => siphashTags_lifted os started H enc)
#print axioms siphashTags_holds
end Go.Proofs.Ytbncbjblbdjddaa
