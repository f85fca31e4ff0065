/-
  SHADOWS, second make: rows that grow. Where the elements of a slice lie; append onto a row that is read already (its spare room is the call's own).
-/
import Derived.Test.YtohfnlkjdjmipaaV11
import Derived.Laws.MakeOwn
namespace Go.Proofs.Ytohfnlkjdjmipaa
open Go.RowKit

/-! ### sources -/
inductive Cut where
  | whole
  | part (a m : Nat)
def Cut.app {α : Type} : Cut → List α → List α
  | .whole, l => l
  | .part a m, l => (l.drop a).take m
theorem Cut.map {α β : Type} (f : α → β) (c : Cut) (l : List α) : c.app (l.map f) = (c.app l).map f := by
  cases c with
  | whole => rfl
  | part a m => simp [Cut.app, List.map_take, List.map_drop]
def SrcIs (rd : Rd) (w : World) (u : Value) (sz : Nat) (xs : List (List SC)) : Prop :=
  ∃ a c vals, u = .slice a xs.length c ∧ vals.length = xs.length * sz ∧ RowIs rd sz vals xs ∧ (xs = [] ∨ ∃ ad, a = some ad ∧ ∀ j v, vals[j]? = some v → w.cell? (ad.add j) = some v) ∧ xs.length ≤ c ∧ c ≤ maxLen ∧ ∀ ad, a = some ad → xs = [] ∨ ∃ b o, ad = ⟨b, o, none⟩
def srcS (s : St) (sz : Nat) : SV → Option (List (List SC) × Cut)
  | .c (.lit (.slice none 0 0)) => some ([], .whole)
  | .c (.slc s' _ _ xs) => if s' = sz then some (xs, .whole) else none
  | .c (.own d) => match look s.hp d with
    | some (.row _ s' _ xs) => if s' = sz then some (xs, .whole) else none
    | _ => none
  | .c (.row d m) => match look s.hp d with
    | some (.row _ s' _ xs) => if s' = sz then some (xs, .part 0 m) else none
    | _ => none
  | .c (.sub d s1 a m) => match look s.hp d with
    | some (.row _ s' _ xs) => if s' = sz ∧ s1 = sz then some (xs, .part a m) else none
    | _ => none
  | .c (.win d off m) => match s.lookB d with
    | some cs => match immL ((cs.drop off).take m) with
      | some ys => if sz = 1 ∧ ys.length = m then some (ys.map (fun c => [c]), .whole) else none
      | none => none
    | none => none
  | _ => none
theorem RowIs.cut {rd : Rd} {sz : Nat} {us : List Value} {xs : List (List SC)} (h : RowIs rd sz us xs) (a m : Nat) : RowIs rd sz ((us.drop (a * sz)).take (m * sz)) ((xs.drop a).take m) := by
  refine ⟨fun x hx => h.1 x (List.mem_of_mem_drop (List.mem_of_mem_take hx)), fun i x j y hx hy => ?_⟩
  rw [List.getElem?_take] at hx
  split at hx
  · rename_i hi
    rw [List.getElem?_drop] at hx
    obtain ⟨u, h1, h2⟩ := h.2 _ x j y hx hy
    refine ⟨u, ?_, h2⟩
    have hj : j < sz := by
      have := (List.getElem?_eq_some_iff.1 hy).1
      rw [h.1 x (List.mem_of_getElem? hx)] at this
      exact this
    have hlt : i * sz + j < m * sz := by
      calc i * sz + j < i * sz + sz := by omega
        _ = (i + 1) * sz := by rw [Nat.add_mul, Nat.one_mul]
        _ ≤ m * sz := Nat.mul_le_mul_right _ hi
    rw [List.getElem?_take, if_pos hlt, List.getElem?_drop, ← Nat.add_assoc, ← Nat.add_mul]
    exact h1
  · cases hx
theorem tk_sliceM {w : World} {e sz n : Nat} {V : Value} {us : List Value} (h : w.ownsRowM e sz V n us) : ∃ a c, V = .slice a n c ∧ n ≤ c ∧ c ≤ maxLen ∧ vlen V = n ∧ (n = 0 ∨ ∃ b, a = some ⟨b, 0, none⟩ ∧ V.ownBlock = some b) := by
  rcases h.2 with ⟨h1, h2⟩ | ⟨gb, cap, cur, fz, h1, _, _, h2, h3, _⟩
  · subst h2; exact ⟨none, 0, h1, Nat.le_refl _, by simp [maxLen], by rw [h1]; rfl, .inl rfl⟩
  · exact ⟨_, cap, h1, h2, h3, by rw [h1]; rfl, .inr ⟨gb, rfl, by rw [h1]; rfl⟩⟩
theorem tk_slice {w : World} {e sz n : Nat} {V : Value} {us : List Value} (h : w.ownsRow 0 e sz V n us) : ∃ a c, V = .slice a n c ∧ n ≤ c ∧ c ≤ maxLen ∧ vlen V = n ∧ (n = 0 ∨ ∃ b, a = some ⟨b, 0, none⟩ ∧ V.ownBlock = some b) := tk_sliceM h.m
theorem srcS_rel {s : St} {sz : Nat} {v : SV} {xs : List (List SC)} {c : Cut} (h : srcS s sz v = some (xs, c)) {g : Env} {rd : Rd} {a : Act} {w : World} {o : Oper} (hv : OView g rd a w s o) {u : Value} (hu : VRel rd g u v) : SrcIs rd w u sz (c.app xs) := by
  unfold srcS at h
  split at h
  · cases h
    rw [rel_lit hu]
    exact ⟨none, 0, [], rfl, by simp [Cut.app], ⟨by simp [Cut.app], by simp [Cut.app]⟩, .inl rfl, Nat.le_refl _, by simp [maxLen], fun _ _ => .inl rfl⟩
  · split at h
    · rename_i hs; subst hs
      cases h
      obtain ⟨h1, _⟩ := hu
      obtain ⟨ay, cy, vals, h2 | ⟨ad, c, h3, h4, _⟩⟩ := src_row hv.reads h1
      · obtain ⟨h3, h3a, h3b, h4, h5, h6⟩ := h2
        refine ⟨ay, cy, vals, h3, h5, h4, ?_, h3a, h3b, fun ad hq => ?_⟩
        · rcases h6 with h6 | h6
          · exact .inl (List.eq_nil_of_length_eq_zero h6)
          · exact .inr h6
        · subst hq
          cases h1 with
          | nil s' a c hm => exact .inl rfl
          | slc b o n c s' xs' ff hn hc hm hs hr hu => cases h3; exact .inr ⟨_, _, rfl⟩
      · subst h4
        obtain ⟨ad2, c2, h3, hc2⟩ : ∃ ad c, u = .slice ad 0 c ∧ c ≤ maxLen := ⟨ad, c, h3, by assumption⟩
        exact ⟨ad2, c2, [], h3, by simp [Cut.app], ⟨by simp [Cut.app], by simp [Cut.app]⟩, .inl rfl, Nat.zero_le _, hc2, fun _ _ => .inl rfl⟩
    · cases h
  · rename_i d
    split at h
    · rename_i e s' n xs' hl
      split at h
      · rename_i hs; subst hs
        cases h
        obtain ⟨us, h1, h2, h3⟩ := hv.holds d _ hl
        obtain ⟨rfl, _⟩ := hu
        obtain ⟨b, c, h4, h4a, h4b, _, h5⟩ := tk_slice h1
        refine ⟨b, c, us, by simp only [Cut.app]; rw [h2]; exact h4, by simp only [Cut.app]; rw [h2]; exact h1.1, h3, ?_, by simp only [Cut.app]; omega, h4b, fun ad hq => ?_⟩
        · rcases h5 with h5 | ⟨bb, h5, h6⟩
          · exact .inl (List.eq_nil_of_length_eq_zero (h2.trans h5))
          · exact .inr ⟨_, h5, h1.cells h6⟩
        · rcases h5 with h5 | ⟨bb, h5, h6⟩
          · exact .inl (List.eq_nil_of_length_eq_zero (h2.trans h5))
          · rw [h5] at hq; cases hq; exact .inr ⟨_, _, rfl⟩
      · cases h
    · cases h
  · rename_i d m
    split at h
    · rename_i e s' n xs' hl
      split at h
      · rename_i hs; subst hs
        cases h
        obtain ⟨us, h1, h2, h3⟩ := hv.holds d _ hl
        obtain ⟨a', N, c', k1, rfl, k3⟩ := hu
        obtain ⟨b, c, h4, h4a, h4b, _, h5⟩ := tk_slice h1
        rw [h4] at k1
        cases k1
        have hlen : (Cut.app (.part 0 m) xs).length = m := by simp only [Cut.app, List.drop_zero, List.length_take]; omega
        have hcut := h3.cut 0 m
        refine ⟨_, _, (us.drop (0 * s')).take (m * s'), by rw [hlen], ?_, hcut, ?_, by rw [hlen]; omega, h4b, fun ad hq => ?_⟩
        · rw [hlen, Nat.zero_mul, List.drop_zero, List.length_take, h1.1]
          exact Nat.min_eq_left (Nat.mul_le_mul_right _ k3)
        · rcases h5 with h5 | ⟨bb, h5, h6⟩
          · left; exact List.eq_nil_of_length_eq_zero (by rw [hlen]; omega)
          · refine .inr ⟨_, h5, fun j v hj => h1.cells h6 j v ?_⟩
            rw [Nat.zero_mul, List.drop_zero, List.getElem?_take] at hj
            split at hj
            · exact hj
            · cases hj
        · rcases h5 with h5 | ⟨bb, h5, h6⟩
          · left; exact List.eq_nil_of_length_eq_zero (by rw [hlen]; omega)
          · rw [h5] at hq; cases hq; exact .inr ⟨_, _, rfl⟩
      · cases h
    · cases h
  · rename_i d s1 a' m
    split at h
    · rename_i e s' n xs' hl
      split at h
      · rename_i hs; obtain ⟨rfl, rfl⟩ := hs
        cases h
        obtain ⟨us, h1, h2, h3⟩ := hv.holds d _ hl
        obtain ⟨b, N, c, x, c', k1, k2, rfl, k4, k5, k6⟩ := hu
        obtain ⟨b', c2, h4, _, _, _, h5⟩ := tk_slice h1
        rw [h4] at k1
        cases k1
        have hlen : (Cut.app (.part a' m) xs).length = m := by simp only [Cut.app, List.length_take, List.length_drop]; omega
        refine ⟨_, _, (us.drop (a' * s1)).take (m * s1), by rw [hlen], ?_, h3.cut a' m, ?_, by rw [hlen]; omega, k5, fun ad hq => ?_⟩
        · rw [hlen, List.length_take, List.length_drop, h1.1, ← Nat.sub_mul]
          exact Nat.min_eq_left (Nat.mul_le_mul_right _ (by omega))
        · rcases k6 with k6 | ⟨blk, k6, k7⟩
          · left; exact List.eq_nil_of_length_eq_zero (by rw [hlen]; omega)
          · rcases h5 with h5 | ⟨bb, h5, h6⟩
            · left; exact List.eq_nil_of_length_eq_zero (by rw [hlen]; omega)
            · rw [k6] at h5
              cases h5
              refine .inr ⟨_, k7, fun j v hj => ?_⟩
              rw [List.getElem?_take] at hj
              split at hj
              · rw [List.getElem?_drop] at hj
                have := h1.cells h6 _ v hj
                rw [addr_add] at this ⊢
                rw [Nat.zero_add] at this
                exact this
              · cases hj
        · rcases k6 with k6 | ⟨blk, k6, k7⟩
          · left; exact List.eq_nil_of_length_eq_zero (by rw [hlen]; omega)
          · rw [k7] at hq; cases hq; exact .inr ⟨_, _, rfl⟩
      · cases h
    · cases h
  · rename_i d off m
    split at h
    · rename_i cs hl
      split at h
      · rename_i ys hys
        split at h
        · rename_i hs; obtain ⟨rfl, hs⟩ := hs
          cases h
          obtain ⟨A, c, rfl, k2, k3, k4⟩ := hu
          obtain ⟨i1, i2⟩ := immL_get _ _ hys
          have hb := hv.box d cs hl
          -- the cells
          have hex : ∃ vals : List Value, vals.length = m ∧ ∀ j v, vals[j]? = some v → w.cell? ⟨(g.pos d).1, (g.pos d).2 + off + j, none⟩ = some v ∧ ∃ y, ys[j]? = some y ∧ IRel rd v y := by
            refine ⟨(List.range m).map fun j => (w.cell? ⟨(g.pos d).1, (g.pos d).2 + off + j, none⟩).getD undef, by simp, fun j v hj => ?_⟩
            rw [List.getElem?_map] at hj
            obtain ⟨j', hj', rfl⟩ := Option.map_eq_some_iff.1 hj
            have hjm := (List.getElem?_eq_some_iff.1 hj').1
            rw [List.getElem?_eq_getElem hjm] at hj'
            simp only [List.getElem_range, Option.some.injEq] at hj'
            subst hj'
            rw [List.length_range] at hjm
            have hy : j < ys.length := by omega
            obtain ⟨x, hx1, hx2⟩ := i2 j _ (List.getElem?_eq_getElem hy)
            rw [List.getElem?_take, if_pos hjm, List.getElem?_drop] at hx1
            obtain ⟨u, q1, q2⟩ := hb (off + j) x hx1
            rw [← Nat.add_assoc] at q1
            refine ⟨by rw [q1]; rfl, ys[j], List.getElem?_eq_getElem hy, ?_⟩
            rw [q1]
            exact imm_rel q2 hx2
          obtain ⟨vals, e1, e2⟩ := hex
          have hlen : (Cut.app .whole (ys.map fun c => [c])).length = m := by simp [Cut.app, hs]
          refine ⟨A, c, vals, by rw [hlen], by rw [hlen, e1, Nat.mul_one], ⟨by simp [Cut.app], fun i x j y hx hy => ?_⟩, ?_, by rw [hlen]; exact k2, k3, fun ad hq => ?_⟩
          · simp only [Cut.app, List.getElem?_map] at hx
            obtain ⟨y0, hy0, rfl⟩ := Option.map_eq_some_iff.1 hx
            have hj0 : j = 0 := by have := (List.getElem?_eq_some_iff.1 hy).1; simp at this; exact this
            subst hj0
            simp at hy
            subst hy
            have hi : i < vals.length := by have := (List.getElem?_eq_some_iff.1 hy0).1; omega
            obtain ⟨_, y1, q1, q2⟩ := e2 i _ (List.getElem?_eq_getElem hi)
            rw [hy0] at q1
            cases q1
            exact ⟨_, by rw [Nat.mul_one, Nat.add_zero]; exact List.getElem?_eq_getElem hi, q2⟩
          · rcases k4 with k4 | k4
            · left; exact List.eq_nil_of_length_eq_zero (by rw [hlen]; exact k4)
            · exact .inr ⟨_, k4, fun j v hj => by rw [addr_add]; exact (e2 j v hj).1⟩
          · rcases k4 with k4 | k4
            · left; exact List.eq_nil_of_length_eq_zero (by rw [hlen]; exact k4)
            · rw [k4] at hq; cases hq; exact .inr ⟨_, _, rfl⟩
        · cases h
      · cases h
    · cases h
  · cases h
theorem SrcIs.one {rd : Rd} {sz : Nat} {vals : List Value} {xs : List (List SC)} (hs : 0 < sz) (hl : vals.length = xs.length * sz) (h : RowIs rd sz vals xs) (h1 : ∀ x ∈ xs, x.all SC.one = true) : ∀ u ∈ vals, u.oneCell' = true := by
  intro u hu'
  obtain ⟨k, hk, rfl⟩ := List.getElem_of_mem hu'
  have hkl : k < xs.length * sz := by omega
  have hi2 : k / sz < xs.length := Nat.div_lt_of_lt_mul (by rw [Nat.mul_comm]; exact hkl)
  have hx2 := List.getElem?_eq_getElem hi2
  have hlx := h.1 _ (List.getElem_mem hi2)
  have hj2 : k % sz < (xs[k / sz]).length := by rw [hlx]; exact Nat.mod_lt _ hs
  obtain ⟨v, q1, q2⟩ := h.2 _ _ _ _ hx2 (List.getElem?_eq_getElem hj2)
  rw [show k / sz * sz + k % sz = k by have := Nat.div_add_mod k sz; rw [Nat.mul_comm] at this; omega, List.getElem?_eq_getElem hk] at q1
  cases q1
  exact oneCell_imm q2 (List.all_eq_true.1 (h1 _ (List.getElem_mem hi2)) _ (List.getElem_mem hj2))

/-! ### append onto a row of the call's own, whatever of it may be written -/
theorem run_append_keep {P : Program} {w : World} (t ty e : TypeId) (i : TypeInfo) (z : Value) (sz bytes : Nat) (ht : P.underlying t = some (.slice e)) (hi : P.info? e = some i) (hz : i.zero = some z) (hsize : i.size = sz) (hby : i.bytes = bytes) (hzs : z.cells.size = sz) (hsz : 0 < sz)
    (V : Value) (n : Nat) (us : List Value) (hown : w.ownsRow 0 e sz V n us) (ad : Addr) (m c : Nat) (vals : List Value) (hl : vals.length = m * sz) (hcells : ∀ j u, vals[j]? = some u → w.cell? (ad.add j) = some u) (h1 : ∀ u ∈ vals, u.oneCell' = true) (hm : 0 < m)
    (h63 : n + m ≤ maxLen) (hbytes : (n + m) * bytes ≤ 140737488355328) :
    ∃ V' w', (Builtin.append_ #[t, t] ty #[V, .slice (some ad) m c]).run P w = .ok V' w' ∧ w'.ownsRow 0 e sz V' (n + m) (us ++ vals) ∧ Keep w (fun b o => V.ownBlock = some b ∧ n * sz ≤ o) w' ∧ ∀ k, V'.ownBlock = some k → V.ownBlock = some k ∨ w.heap.size ≤ k := by
  subst hsize
  subst hby
  have hsmall : n + m ≤ 9223372036854775807 := by simp only [maxLen] at h63; omega
  have hlen : (us ++ vals).length = (n + m) * i.size := by rw [List.length_append, hown.1, hl, Nat.add_mul]
  have grown : ∀ (old : Nat), old < n + m →
      (w.drew.alloc (.cells (us.toArray ++ vals.toArray ++ Builtin.zeroCells z.cells (grownCap w (n + m) old e - (n + m))) e)).ownsRow 0 e i.size
        (.slice (some ⟨w.heap.size, 0, none⟩) (n + m) (grownCap w (n + m) old e)) (n + m) (us ++ vals) ∧
      Keep w (fun b o => V.ownBlock = some b ∧ n * i.size ≤ o) (w.drew.alloc (.cells (us.toArray ++ vals.toArray ++ Builtin.zeroCells z.cells (grownCap w (n + m) old e - (n + m))) e)) := by
    intro old ho
    have hge := grownCap_ge w (n + m) old e
    have hcm : grownCap w (n + m) old e ≤ maxLen := grownCap_le_maxLen w (n + m) old e h63
    refine ⟨⟨hlen, .inr ⟨w.heap.size, _, _, rfl, Nat.zero_le _, heap_alloc_new w.drew _, hge, hcm, ?_, ?_⟩⟩, (Keep.of_ext ((Ext.drew w).trans (Ext.alloc _ _))).weak (fun _ _ x => x.elim)⟩
    · simp only [Array.size_append, List.size_toArray, size_zeroCells, hzs, hown.1, hl, ← Nat.add_mul]
      congr 1
      omega
    · simp only [Array.toList_append, List.append_assoc]
      rw [← List.append_assoc, ← hlen]
      exact List.take_left
  rcases hown.2 with ⟨rfl, rfl⟩ | ⟨gb, cap, cur, rfl, hbg, hgg, hnc, hcm, hcs, htake⟩
  · have hx : us = [] := List.eq_nil_of_length_eq_zero (by simpa using hown.1)
    subst hx
    have hr := run_append_nil (P := P) w t ty e i z ht hi hz ad m c vals hl hcells hm (by omega) (by have hb := hbytes; simp only [Nat.zero_add] at hb; omega)
    have hgr := grown 0 (by omega)
    simp only [Nat.zero_add, List.nil_append, Array.empty_append] at hgr ⊢
    exact ⟨_, _, hr, hgr.1, hgr.2, fun k hk => .inr (by simp only [Value.ownBlock, Option.some.injEq] at hk; omega)⟩
  · by_cases hroom : n + m ≤ cap
    · have hfit : n * i.size + vals.length ≤ cur.size := by rw [hl, hcs, ← Nat.add_mul]; exact Nat.mul_le_mul_right _ hroom
      have hr := run_append_room (P := P) w t ty e i ht hi gb n cap cur hgg ad m c vals hl hcells h1 hroom hfit
      refine ⟨_, _, hr, ⟨hlen, .inr ⟨gb, cap, _, rfl, hbg, setRow_heap w gb cur _ e _ hgg, hroom, hcm, ?_, ?_⟩⟩, ⟨rfl, rfl, rfl, by simp, fun b hb => ?_⟩, fun k hk => .inl (by simpa [Value.ownBlock] using hk)⟩
      · simp only [List.size_toArray, List.length_append, List.length_take, List.length_drop, Array.length_toList]
        omega
      · rw [htake, ← hlen]
        exact List.take_left
      · by_cases hbb : b = gb
        · subst hbb
          refine .inr ⟨cur, _, e, (0, 0), hgg, setRow_heap w b cur _ e _ hgg, ?_, fun j hj => ?_⟩
          · simp only [List.size_toArray, List.length_append, List.length_take, List.length_drop, Array.length_toList]
            omega
          · have hj' : j < n * i.size := by
              rcases Nat.lt_or_ge j (n * i.size) with h | h
              · exact h
              · exact absurd ⟨rfl, h⟩ hj
            rw [List.getElem?_toArray, List.append_assoc, List.getElem?_append_left (by simp only [List.length_take, Array.length_toList]; omega), List.getElem?_take, if_pos hj']
            simp
        · exact .inl (setRow_other w gb b _ hbb)
    · have holds : ∀ j u, us[j]? = some u → w.cell? ((⟨gb, 0, none⟩ : Addr).add j) = some u := hown.cells (g := gb) rfl
      have hr := run_append_grow (P := P) w t ty e i z ht hi hz ⟨gb, 0, none⟩ n cap us hown.1 holds ad m c vals hl hcells (by omega) (by omega) (growslice_fits (by omega) hbytes)
      have hgr := grown cap (by omega)
      exact ⟨_, _, hr, hgr.1, hgr.2, fun k hk => .inr (by simp only [Value.ownBlock, Option.some.injEq] at hk; omega)⟩

/-- cells of a row are written, wherever its mark lies behind it -/
theorem run_storeCells_atM (P : Program) (g o : Nat) (t : TypeId) (fz : Nat × Nat) : ∀ (vs : List Value) (i : Nat) (cur : Array Value) (w : World), w.heap[g]? = some (.cells cur t fz) → unfrozen fz cur.size → o + i + vs.length ≤ cur.size → (∀ v ∈ vs, v.oneCell' = true) →
    (storeCells ⟨g, o, none⟩ vs i).run P w = .ok () (w.setRow g (cur.toList.take (o + i) ++ vs ++ cur.toList.drop (o + i + vs.length)).toArray)
  | [], i, cur, w, hg, _, _, _ => by
    simp only [storeCells, List.append_nil, List.length_nil, Nat.add_zero, List.take_append_drop, Array.toArray_toList]
    rw [setRow_self w g cur t fz hg]
    rfl
  | v :: rest, i, cur, w, hg, hfz, hl, h1 => by
    have hi : o + i < cur.size := by simp at hl; omega
    have hadd : (⟨g, o, none⟩ : Addr).add i = ⟨g, o + i, none⟩ := by unfold Addr.add; split <;> simp_all
    have hcell : w.cell? ⟨g, o + i, none⟩ = some cur[o + i] := by simp [World.cell?, hg, hi]
    have hfro : w.frozen? ⟨g, o + i, none⟩ = false := by
      have := hfz _ hi
      obtain ⟨lo, hi'⟩ := fz
      simp only [World.frozen?, hg, Bool.and_eq_false_iff, decide_eq_false_iff_not]
      simp only at this
      omega
    have hst : (store ((⟨g, o, none⟩ : Addr).add i) v).run P w = .ok () (w.setRow g (cur.setIfInBounds (o + i) v)) := by
      rw [hadd, run_store P w _ v _ (h1 v (by simp)), hcell]
      simp [hfro, setCell_eq_setRow w g (o + i) cur t fz v hg]
    have ih := run_storeCells_atM P g o t fz rest (i + 1) (cur.setIfInBounds (o + i) v) (w.setRow g (cur.setIfInBounds (o + i) v)) (setRow_heap w g cur _ t _ hg) (by simpa using hfz) (by simp at hl ⊢; omega) (fun x hx => h1 x (by simp [hx]))
    simp only [storeCells, Sem.run_bind, hst, Result.andThen_ok, ih, setRow_setRow]
    congr 3
    have e := list_seg_step cur.toList (o + i) v rest (by simp at hl ⊢; omega)
    simpa [Array.toList_setIfInBounds, Nat.add_assoc] using e
theorem run_append_keepM {P : Program} {w : World} (t ty e : TypeId) (i : TypeInfo) (z : Value) (sz bytes : Nat) (ht : P.underlying t = some (.slice e)) (hi : P.info? e = some i) (hz : i.zero = some z) (hsize : i.size = sz) (hby : i.bytes = bytes) (hzs : z.cells.size = sz) (hsz : 0 < sz)
    (V : Value) (n : Nat) (us : List Value) (hown : w.ownsRowM e sz V n us) (ad : Addr) (m c : Nat) (vals : List Value) (hl : vals.length = m * sz) (hcells : ∀ j u, vals[j]? = some u → w.cell? (ad.add j) = some u) (h1 : ∀ u ∈ vals, u.oneCell' = true) (hm : 0 < m)
    (h63 : n + m ≤ maxLen) (hbytes : (n + m) * bytes ≤ 140737488355328) :
    ∃ V' w', (Builtin.append_ #[t, t] ty #[V, .slice (some ad) m c]).run P w = .ok V' w' ∧ w'.ownsRowM e sz V' (n + m) (us ++ vals) ∧ Keep w (fun b o => V.ownBlock = some b ∧ n * sz ≤ o) w' ∧ ∀ k, V'.ownBlock = some k → V.ownBlock = some k ∨ w.heap.size ≤ k := by
  subst hsize
  subst hby
  have hsmall : n + m ≤ 9223372036854775807 := by simp only [maxLen] at h63; omega
  have hlen : (us ++ vals).length = (n + m) * i.size := by rw [List.length_append, hown.1, hl, Nat.add_mul]
  have grown : ∀ (old : Nat), old < n + m →
      (w.drew.alloc (.cells (us.toArray ++ vals.toArray ++ Builtin.zeroCells z.cells (grownCap w (n + m) old e - (n + m))) e)).ownsRowM e i.size
        (.slice (some ⟨w.heap.size, 0, none⟩) (n + m) (grownCap w (n + m) old e)) (n + m) (us ++ vals) ∧
      Keep w (fun b o => V.ownBlock = some b ∧ n * i.size ≤ o) (w.drew.alloc (.cells (us.toArray ++ vals.toArray ++ Builtin.zeroCells z.cells (grownCap w (n + m) old e - (n + m))) e)) := by
    intro old ho
    have hge := grownCap_ge w (n + m) old e
    have hcm : grownCap w (n + m) old e ≤ maxLen := grownCap_le_maxLen w (n + m) old e h63
    refine ⟨⟨hlen, .inr ⟨w.heap.size, _, _, (0, 0), rfl, heap_alloc_new w.drew _, fun j _ q => Nat.not_lt_zero _ q.2, hge, hcm, ?_, ?_⟩⟩, (Keep.of_ext ((Ext.drew w).trans (Ext.alloc _ _))).weak (fun _ _ x => x.elim)⟩
    · simp only [Array.size_append, List.size_toArray, size_zeroCells, hzs, hown.1, hl, ← Nat.add_mul]
      congr 1
      omega
    · simp only [Array.toList_append, List.append_assoc]
      rw [← List.append_assoc, ← hlen]
      exact List.take_left
  rcases hown.2 with ⟨rfl, rfl⟩ | ⟨gb, cap, cur, fz, rfl, hgg, huf, hnc, hcm, hcs, htake⟩
  · have hx : us = [] := List.eq_nil_of_length_eq_zero (by simpa using hown.1)
    subst hx
    have hr := run_append_nil (P := P) w t ty e i z ht hi hz ad m c vals hl hcells hm (by omega) (by have hb := hbytes; simp only [Nat.zero_add] at hb; omega)
    have hgr := grown 0 (by omega)
    simp only [Nat.zero_add, List.nil_append, Array.empty_append] at hgr ⊢
    exact ⟨_, _, hr, hgr.1, hgr.2, fun k hk => .inr (by simp only [Value.ownBlock, Option.some.injEq] at hk; omega)⟩
  · by_cases hroom : n + m ≤ cap
    · have hfit : n * i.size + vals.length ≤ cur.size := by rw [hl, hcs, ← Nat.add_mul]; exact Nat.mul_le_mul_right _ hroom
      have hf := run_firstCells_some (P := P) w i.size m ad m c vals hl hcells
      have hst := run_storeCells_atM P gb (n * i.size) e fz vals 0 cur w hgg huf (by simpa using hfit) h1
      simp only [Nat.add_zero] at hst
      have hr : (Builtin.append_ #[t, t] ty #[.slice (some ⟨gb, 0, none⟩) n cap, .slice (some ad) m c]).run P w = .ok (.slice (some ⟨gb, 0, none⟩) (n + m) cap) (w.setRow gb (cur.toList.take (n * i.size) ++ vals ++ cur.toList.drop (n * i.size + vals.length)).toArray) := by
        simp [Builtin.append_, run_underlying ht, sizeOf, typeInfo, hi, Builtin.lenOf, hroom, hf, Addr.add_lit, hst]
      have hsz2 : (cur.toList.take (n * i.size) ++ vals ++ cur.toList.drop (n * i.size + vals.length)).toArray.size = cur.size := by
        simp only [List.size_toArray, List.length_append, List.length_take, List.length_drop, Array.length_toList]
        omega
      refine ⟨_, _, hr, ⟨hlen, .inr ⟨gb, cap, _, fz, rfl, setRow_heap w gb cur _ e _ hgg, by rw [hsz2]; exact huf, hroom, hcm, ?_, ?_⟩⟩, ⟨rfl, rfl, rfl, by simp, fun b hb => ?_⟩, fun k hk => .inl (by simpa [Value.ownBlock] using hk)⟩
      · rw [hsz2]; exact hcs
      · rw [htake, ← hlen]
        exact List.take_left
      · by_cases hbb : b = gb
        · subst hbb
          refine .inr ⟨cur, _, e, fz, hgg, setRow_heap w b cur _ e _ hgg, ?_, fun j hj => ?_⟩
          · simp only [List.size_toArray, List.length_append, List.length_take, List.length_drop, Array.length_toList]
            omega
          · have hj' : j < n * i.size := by
              rcases Nat.lt_or_ge j (n * i.size) with h | h
              · exact h
              · exact absurd ⟨rfl, h⟩ hj
            rw [List.getElem?_toArray, List.append_assoc, List.getElem?_append_left (by simp only [List.length_take, Array.length_toList]; omega), List.getElem?_take, if_pos hj']
            simp
        · exact .inl (setRow_other w gb b _ hbb)
    · have holds : ∀ j u, us[j]? = some u → w.cell? ((⟨gb, 0, none⟩ : Addr).add j) = some u := hown.cells (g := gb) rfl
      have hr := run_append_grow (P := P) w t ty e i z ht hi hz ⟨gb, 0, none⟩ n cap us hown.1 holds ad m c vals hl hcells (by omega) (by omega) (growslice_fits (by omega) hbytes)
      have hgr := grown cap (by omega)
      exact ⟨_, _, hr, hgr.1, hgr.2, fun k hk => .inr (by simp only [Value.ownBlock, Option.some.injEq] at hk; omega)⟩

/-! ### a name's tokens change -/
section
variable {K : Ctx} {g g' : Env} {w w' : World} {n : Nat} {a : Act} {s : St}
/-- the spare token of one name has grown, or is what it was -/
structure Grew (g g' : Env) (d0 : Nat) : Prop where
  pos : ∀ d, g'.pos d = g.pos d
  tk1 : ∀ d, (g'.tk d).1 = (g.tk d).1
  tk : ∀ d, d ≠ d0 → g'.tk d = g.tk d
  tk2 : g'.tk d0 = g.tk d0 ∨ vlen (g.tk d0).2 < vlen (g'.tk d0).2
theorem CRel0.grew {rd rd' : Rd} (hle : rd.le rd') {d0 : Nat} (k : Grew g g' d0) {v : Value} {x : SC} (h : CRel0 rd g v x) : CRel0 rd' g' v x := by
  cases x with
  | lit u => exact h.mono hle
  | ref cs => exact h.mono hle
  | box d off => simp only [CRel0, k.pos] at *; exact h
  | own d => simp only [CRel0, k.tk1] at *; exact h
  | row d n => simp only [CRel0, k.tk1] at *; exact h
  | win d off n => simp only [CRel0, k.pos] at *; exact h
  | sub d s a n => simp only [CRel0, k.tk1] at *; exact h
  | elt d s i off => simp only [CRel0, k.tk1] at *; exact h
  | any => trivial
  | clo c cs => exact h.elim
  | slc s tag n xs =>
    refine ⟨h.1.mono hle, ?_⟩
    rcases tag with _ | _ | t
    · trivial
    · exact h.2
    · have h2 := h.2
      simp only [Tag] at h2 ⊢
      by_cases ht : t = d0
      · subst ht
        rcases k.tk2 with e | e
        · rw [e]; exact h2
        · exact ⟨by omega, fun q => by omega⟩
      · rw [k.tk t ht]; exact h2
theorem CRel.grew {rd rd' : Rd} (hle : rd.le rd') {d0 : Nat} (k : Grew g g' d0) {v : Value} {x : SC} (h : CRel rd g v x) : CRel rd' g' v x := by
  cases x with
  | clo c cs =>
    obtain ⟨caps, h1, h2, h3⟩ := h
    exact ⟨caps, h1, h2, fun j y hy => let ⟨u, h4, h5⟩ := h3 j y hy; ⟨u, h4, h5.grew hle k⟩⟩
  | lit u => exact CRel0.up (CRel0.grew hle k (x := .lit u) h)
  | ref u => exact CRel0.up (CRel0.grew hle k (x := .ref u) h)
  | box d off => exact CRel0.up (CRel0.grew hle k (x := .box d off) h)
  | own d => exact CRel0.up (CRel0.grew hle k (x := .own d) h)
  | row d n => exact CRel0.up (CRel0.grew hle k (x := .row d n) h)
  | win d off n => exact CRel0.up (CRel0.grew hle k (x := .win d off n) h)
  | sub d s a n => exact CRel0.up (CRel0.grew hle k (x := .sub d s a n) h)
  | elt d s i off => exact CRel0.up (CRel0.grew hle k (x := .elt d s i off) h)
  | any => trivial
  | slc s tag n xs => exact CRel0.up (CRel0.grew hle k (x := .slc s tag n xs) h)
/-- the spare room behind a row is taken -/
theorem RG.grow (h : RG K g n a w s) {d : Nat} {r0 r : Res} (hl : look s.hp d = some r0) (hgr : Grew g g' d) (hk : Keep w (Foot g d r0) w') (hfoot : ∀ b o, Foot g' d r b o → Foot g d r0 b o ∨ w.heap.size ≤ b) (hnb : ∀ cs, r ≠ .box cs) (hr0 : r0.isBox = false)
    (hh : (rdOf K g s.hp w).le (rdOf K g' (setL d r s.hp) w') → Holds (rdOf K g' (setL d r s.hp) w') g' w' d r) : RG K g' n a w' (s.setR d r) ∧ (rdOf K g s.hp w).le (rdOf K g' (setL d r s.hp) w') := by
  have ht : ∀ e, (e == d) = false → e ≠ d := fun e h => by simpa using h
  have ht' : ∀ e, (e == d) = true → e = d := fun e h => by simpa using h
  have he : ∀ e x, (e == d) = false → look s.hp e = some x → g'.pos e = g.pos e ∧ g'.tk e = g.tk e := fun e x h1 _ => ⟨hgr.pos e, hgr.tk e (ht e h1)⟩
  have hl' : ∀ e, e ≠ d → look (setL d r s.hp) e = look s.hp e := fun e he' => by rw [look_setL, if_neg (Ne.symm he')]
  have hld : look (setL d r s.hp) d = some r := by rw [look_setL, if_pos rfl]
  have hk' : Keep w (fun b o => ∃ e x, (e == d) = true ∧ look s.hp e = some x ∧ Foot g e x b o) w' := hk.weak (fun b o x => ⟨d, r0, by simp, hl, x⟩)
  have hf' : ∀ e x b o, (e == d) = true → look (setL d r s.hp) e = some x → Foot g' e x b o → (∃ e' r', (e' == d) = true ∧ look s.hp e' = some r' ∧ Foot g e' r' b o) ∨ w.heap.size ≤ b := by
    intro e x b o h1 h2 h3
    have := ht' e h1; subst this
    rw [hld] at h2; cases h2
    rcases hfoot b o h3 with h4 | h4
    · exact .inl ⟨e, r0, by simp, hl, h4⟩
    · exact .inr h4
  have hle := rd_step (K := K) (g := g) (g' := g') (w := w) (w' := w') (h := s.hp) (h' := setL d r s.hp) h.hg (· == d) he (fun e x h1 h2 => ⟨x, fun y => y, by rw [← hl' e (ht e h1)]; exact h2, x.map_id.symm⟩) hk' hf'
  have k := h.hg.step (g' := g') (w' := w') (h' := setL d r s.hp) (· == d) (fun y => y) (fun _ => true) he (fun e x h1 h2 => ⟨x, by rw [← hl' e (ht e h1)]; exact h2, x.map_id.symm, x.every_true⟩) hk' hf'
    (fun e e' x x' b o h1 h2 hne => absurd ((ht' e h1).trans (ht' e' h2).symm) hne) (fun u x _ hc => hc.grew hle hgr)
    (fun e x h1 h2 => by have := ht' e h1; subst this; rw [hld] at h2; cases h2; exact hh hle)
    (fun e cs h1 _ h2 => by have := ht' e h1; subst this; rw [hld] at h2; cases h2; exact absurd rfl (hnb cs))
    (fun e x h1 h2 _ b o hf => by
      have := ht' e h1; subst this
      rw [hld] at h2; cases h2
      rcases hfoot b o hf with h4 | h4
      · exact h.hg.new e r0 hl hr0 b o h4
      · exact .inl (Nat.le_trans h.hg.keep.size h4))
  exact ⟨⟨h.defers, h.size, h.few, k, fun t v hv => let ⟨u, h1, h2⟩ := h.tmps t v hv; ⟨u, h1, h2.imp1 (p := fun _ => true) (fun v x _ hc => hc.grew hle hgr) v.every_true⟩⟩, hle⟩
end

/-! ### append onto a row that is read -/
def appTArgs (P : Program) (s : St) (o : Oper) : Option (Nat × Nat × Nat × Nat × Nat × Nat × List (List SC) × List (List SC) × Cut) := match o.op with
  | .call { callee := .builtin .append, args := xs, argTypes := ts } => match xs.toList, ts.toList with
    | [x, y], [t, t'] => match P.underlying t with
      | some (.slice e) => match P.info? e with
        | some ie => match opd s x, (opd s y).bind (srcS s ie.size) with
          | some (.c (.slc sz (d + 2) N a)), some (b, c) => match look s.hp d with
            | some (.spare e' sz' N') => if t = t' ∧ ie.zero.map (·.cells.size) = some ie.size ∧ 0 < ie.size ∧ e' = e ∧ sz = ie.size ∧ sz' = ie.size then some (d, e, ie.size, ie.bytes, N, N', a, b, c) else none
            | _ => none
          | _, _ => none
        | none => none
      | _ => none
    | _, _ => none
  | _ => none
theorem S_appT {α : Type} {P : Program} {K : Ctx} {n : Nat} {ops : Array Oper} {o : Oper} {s : St} {d e sz by_ N : Nat} (f : α → List SC) (hone : ∀ x, (f x).all SC.one = true) {l1 l2 l' : List α} {c : Cut} (he : appO by_ l1 (c.app l2) = some l') (h : appTArgs P s o = some (d, e, sz, by_, N, N, l1.map f, l2.map f, c)) (hgd : guardOf ops o s = some true) (hd : dstOk n o = true) :
    Stp P K n ops o s ((s.setR d (.spare e sz l'.length)).put o.dst (.c (.slc sz (d + 2) l'.length (l'.map f)))) := by
  unfold appTArgs at h
  split at h
  rotate_left
  · cases h
  rename_i xs ts ho
  split at h
  rotate_left
  · cases h
  rename_i x y t t' hxs hts
  have hxs' : xs = #[x, y] := by rw [← Array.toArray_toList (xs := xs), hxs]
  have hts' : ts = #[t, t'] := by rw [← Array.toArray_toList (xs := ts), hts]
  subst hxs'
  subst hts'
  split at h
  rotate_left
  · cases h
  rename_i e1 hu
  split at h
  rotate_left
  · cases h
  rename_i ie hi
  split at h
  rotate_left
  · cases h
  rename_i sz1 d1 N1 a1 b1 c1 hx hy
  split at h
  rotate_left
  · cases h
  rename_i e2 sz2 N2 hl
  split at h
  rotate_left
  · cases h
  rename_i hq
  obtain ⟨rfl, hz, hs0, rfl, rfl, rfl⟩ := hq
  cases h
  obtain ⟨z, hz, hzc⟩ := Option.map_eq_some_iff.1 hz
  simp only [appO] at he
  split at he
  rotate_left
  · cases he
  rename_i hb
  cases he
  refine Stp_mk hgd fun g a w r K' Q hK => ?_
  have hview := r.view.o o
  obtain ⟨vy, hy1, hy2⟩ := Option.bind_eq_some_iff.1 hy
  have hvx := hview.op x _ (by simp [ho, Op.operands, Call.operands]) hx
  have hsrc := srcS_rel hy2 hview (hview.op y _ (by simp [ho, Op.operands, Call.operands]) hy1)
  rw [Cut.map] at hsrc
  obtain ⟨rx, htag⟩ := hvx
  have hN := irel_n rx
  rw [List.length_map] at hN
  subst hN
  obtain ⟨us, hown⟩ := r.hg.holds d _ hl
  obtain ⟨aV, cV, hV, hVc, hVm, hvl, hblk⟩ := tk_sliceM hown
  have hux : a.eval x = (g.tk d).2 := htag.2 hvl.symm
  unfold Oper.wp
  simp only [execOp, ho, resolve, invoke, builtin, Sem.run_bind, Sem.run_pure, Result.andThen_ok, List.map_toArray, List.map_cons, List.map_nil]
  rw [hux] at rx ⊢
  generalize hvy : a.eval y = uy at *
  obtain ⟨ay, cy, vals, rfl, hlv, hrow, hwhere, _⟩ := hsrc
  rw [List.length_map] at hlv ⊢
  generalize hl2' : c.app l2 = l2' at *
  -- nothing appended
  by_cases hl2 : l2' = []
  · subst hl2
    rw [List.append_nil] at hK
    simp only [List.length_nil]
    rw [hV, run_append_zero t o.type e ie hu hi aV ay l1.length cV cy hVc, ← hV]
    simp only [Result.andThen_ok, Oper.upon]
    refine hK _ _ ⟨g, RG.put ?_ o.dst (dstOk_spec hd) ⟨?_, ?_⟩⟩
    · exact (r.upd (r := .spare e ie.size l1.length) hl (fun _ _ x => x) (Keep.refl _ _) (fun _ q => by cases q) (fun q => q) (fun _ => ⟨us, hown⟩)).1
    · have := (r.upd (r := .spare e ie.size l1.length) hl (fun _ _ x => x) (Keep.refl _ _) (fun _ q => by cases q) (fun q => q) (fun _ => ⟨us, hown⟩)).2
      exact rx.mono this
    · exact ⟨by omega, fun _ => rfl⟩
  have hpos : 0 < l2'.length := List.length_pos_iff.2 hl2
  obtain ⟨ad, rfl, hcells⟩ : ∃ ad, ay = some ad ∧ ∀ j v, vals[j]? = some v → w.cell? (ad.add j) = some v := by
    rcases hwhere with h0 | h0
    · exact absurd (List.map_eq_nil_iff.1 h0) hl2
    · exact h0
  have h1v := SrcIs.one hs0 (by rw [List.length_map]; exact hlv) hrow (fun x hx => by obtain ⟨y, _, rfl⟩ := List.mem_map.1 hx; exact hone y)
  obtain ⟨V', w', q1, q2, q3, q4⟩ := run_append_keepM (P := P) t o.type e ie z ie.size ie.bytes hu hi hz rfl rfl hzc hs0 _ _ us hown ad l2'.length cy vals hlv hcells h1v hpos (by unfold maxLen; omega) hb.1
  rw [q1]
  simp only [Result.andThen_ok, Oper.upon]
  obtain ⟨aV', cV', hV', hVc', hVm', hvl', hblk'⟩ := tk_sliceM q2
  -- the names afterwards
  let g' : Env := { pos := g.pos, tk := fun e => if e = d then ((g.tk d).1, V') else g.tk e }
  have hgd' : g'.tk d = ((g.tk d).1, V') := by simp [g']
  have hgr : Grew g g' d := ⟨fun _ => rfl, fun e => by by_cases q : e = d <;> simp [g', q], fun e q => by simp [g', q], .inr (by rw [hgd', hvl, hvl']; omega)⟩
  have hlen : (l1 ++ l2').length = l1.length + l2'.length := List.length_append
  obtain ⟨r1, hle⟩ := r.grow (g' := g') (w' := w') (r := .spare e ie.size (l1 ++ l2').length) hl hgr q3 (fun b o' hf => by
      simp only [Foot, hgd'] at hf
      rcases q4 b hf.1 with h5 | h5
      · refine .inl ⟨h5, Nat.le_trans (Nat.mul_le_mul_right _ ?_) hf.2⟩
        omega
      · exact .inr h5) (fun _ q => by cases q) rfl (fun _ => ⟨us ++ vals, by rw [hgd', hlen]; exact q2⟩)
  refine hK _ _ ⟨g', r1.put o.dst (dstOk_spec hd) ⟨?_, ?_⟩⟩
  · -- the elements
    have hrx : RowIs (rdOf K g s.hp w) ie.size us (l1.map f) := by
      rcases hblk with h0 | ⟨bb, hbb, hbk⟩
      · have : l1 = [] := List.eq_nil_of_length_eq_zero h0
        subst this
        exact ⟨by simp, by simp⟩
      · obtain ⟨_, _, valsx, hs | ⟨ad', c', h3, hnil', _⟩⟩ := src_row hview.reads rx
        · obtain ⟨h3, _, _, hrow', hlv', hw'⟩ := hs
          rw [List.length_map] at hlv' hw' h3
          rcases hw' with h0 | ⟨ad', hh, hcells'⟩
          · have : l1 = [] := List.eq_nil_of_length_eq_zero h0
            subst this
            exact ⟨by simp, by simp⟩
          · rw [hV, hbb] at h3
            cases h3
            cases hh
            have : us = valsx := by
              apply List.ext_getElem?
              intro j
              rcases Nat.lt_or_ge j (l1.length * ie.size) with hj | hj
              · have hju : j < us.length := by rw [hown.1]; exact hj
                have hjv : j < valsx.length := by omega
                have q1 := hown.cells hbk j (us[j]'hju) (List.getElem?_eq_getElem hju)
                have q2 := hcells' j (valsx[j]'hjv) (List.getElem?_eq_getElem hjv)
                rw [q1] at q2
                rw [List.getElem?_eq_getElem hju, List.getElem?_eq_getElem hjv]
                exact q2
              · rw [List.getElem?_eq_none (by rw [hown.1]; exact hj), List.getElem?_eq_none (by omega)]
            rw [this]
            exact hrow'
        · have : l1 = [] := by simpa using hnil'
          subst this
          exact ⟨by simp, by simp⟩
    have hr2 : RowIs (rdOf K g s.hp w) ie.size (us ++ vals) ((l1 ++ l2').map f) := by
      rw [List.map_append]
      exact hrx.append hrow (by rw [List.length_map]; exact hown.1)
    rcases hblk' with h0 | ⟨bb, hbb, hbk⟩
    · omega
    rw [hV', hbb, ← hlen]
    refine row_is (b := bb) (vals := us ++ vals) (hr2.mono hle) (by simp) (by rw [hlen]; exact hVc') hVm' (fun k v hv hk => ?_)
    -- each cell is read
    have hcell := q2.cells hbk k v hv
    rw [addr_add, Nat.zero_add] at hcell
    rcases q4 bb hbk with h5 | h5
    · -- in place
      rcases Nat.lt_or_ge k (l1.length * ie.size) with hk1 | hk1
      · rcases hblk with h0 | ⟨b2, hb2, hbk2⟩
        · rw [h0] at hk1; omega
        · rw [h5] at hbk2
          cases hbk2
          rw [hV, hb2] at rx
          have hv2 : us[k]? = some v := by rwa [List.getElem?_append_left (by rw [hown.1]; exact hk1)] at hv
          refine hle _ _ _ ?_
          generalize hsc : SC.slc ie.size 0 l1.length (l1.map f) = yy at rx
          generalize hvv : Value.slice (some ⟨bb, 0, none⟩) l1.length cV = vv at rx
          cases rx with
          | lit v => cases hsc
          | nil s' a c hm => injection hsc with _ _ h9 _; rw [h9] at hk1; omega
          | ref b o cs f hr hu => cases hsc
          | slc b o n c s' xs' ff hn hc hm hs hr hu =>
            cases hsc
            cases hvv
            have hs0' : 0 < ie.size := hs0
            have hi2 : k / ie.size < (l1.map f).length := by rw [List.length_map]; exact Nat.div_lt_of_lt_mul (by rw [Nat.mul_comm]; exact hk1)
            have hx2 := List.getElem?_eq_getElem hi2
            have hlx := hs _ (List.getElem_mem hi2)
            have hj2 : k % ie.size < ((l1.map f)[k / ie.size]).length := by rw [hlx]; exact Nat.mod_lt _ hs0'
            have h6 := hr _ _ _ _ hx2 (List.getElem?_eq_getElem hj2)
            rw [Nat.zero_add, show k / ie.size * ie.size + k % ie.size = k by have := Nat.div_add_mod k ie.size; rw [Nat.mul_comm] at this; omega] at h6
            have h7 := rdOf_le g s.hp r.hg.keep _ _ _ h6
            have h8 := hown.cells h5 k v hv2
            rw [addr_add, Nat.zero_add, h7] at h8
            rw [h6]; exact h8
      · unfold rdOf
        have hnew : ¬ InFoot g' (s.setR d (.spare e ie.size (l1 ++ l2').length)).hp bb k := by
          rintro ⟨d2, x2, k1, k2⟩
          simp only [St.setR, look_setL] at k1
          split at k1
          · rename_i hdd
            cases k1
            simp only [Foot, ← hdd, hgd'] at k2
            omega
          · rename_i hdd
            rw [foot_env ⟨hgr.pos d2, hgr.tk d2 (Ne.symm hdd)⟩] at k2
            exact r.hg.dis d2 d x2 _ bb k (Ne.symm hdd) k1 hl k2 ⟨h5, hk1⟩
        rw [if_neg hnew, if_neg]
        · exact hcell
        · exact fun q => (r.hg.new d _ hl rfl bb k ⟨h5, hk1⟩).elim (fun q2 => Nat.not_lt.2 q2 q.1) q.2
    · unfold rdOf
      have hnew : ¬ InFoot g' (s.setR d (.spare e ie.size (l1 ++ l2').length)).hp bb k := by
        rintro ⟨d2, x2, k1, k2⟩
        simp only [St.setR, look_setL] at k1
        split at k1
        · rename_i hdd
          cases k1
          simp only [Foot, ← hdd, hgd'] at k2
          omega
        · rename_i hdd
          rw [foot_env ⟨hgr.pos d2, hgr.tk d2 (Ne.symm hdd)⟩] at k2
          have := (r.hg.holds d2 x2 k1).lt k2
          omega
      rw [if_neg hnew, if_neg (by have := r.hg.keep.size; omega)]
      exact hcell
  · show _ ≤ vlen (g'.tk d).2 ∧ (_ = vlen (g'.tk d).2 → V' = (g'.tk d).2)
    rw [hgd']
    exact ⟨by rw [hvl', hlen]; exact Nat.le_refl _, fun _ => rfl⟩
end Go.Proofs.Ytohfnlkjdjmipaa
