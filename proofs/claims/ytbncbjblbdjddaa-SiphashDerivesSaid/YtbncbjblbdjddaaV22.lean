/-
  SHADOWS, second make: append within a row; a part of a row that becomes read-only.
-/
import Derived.Test.YtbncbjblbdjddaaV21
namespace Go.Proofs.Ytbncbjblbdjddaa
open Go.RowKit

section
variable {P : Program} {o : Oper} {s : St} {α : Type}
theorem preOf_look {v : SV} {d e sz N m : Nat} {xs : List (List SC)} (h : preOf s v = some (d, e, sz, N, xs, m)) : look s.hp d = some (.row e sz N xs) := by
  unfold preOf at h
  split at h
  · split at h
    · rename_i hl; cases h; exact hl
    · cases h
  · split at h
    · rename_i hl; cases h; exact hl
    · cases h
  · cases h
/-- append that stays within the row: its contents change, its token does not -/
theorem upd_appP {d e sz by_ N m : Nat} (f : α → List SC) (hone : ∀ x, (f x).all SC.one = true) {l1 l2 : List α} {c : Cut} (hc : decide (m + (c.app l2).length ≤ l1.length) = true) (h : appRArgs P s o = some (d, e, sz, by_, N, l1.map f, m, l2.map f, c)) :
    UpdOp P o s d (.row e sz N (l1.map f)) (.row e sz (l1.take m ++ c.app l2 ++ l1.drop (m + (c.app l2).length)).length ((l1.take m ++ c.app l2 ++ l1.drop (m + (c.app l2).length)).map f)) (.c (.row d (m + (c.app l2).length))) := by
  unfold appRArgs at h
  split at h
  rotate_left
  · cases h
  rename_i xs ts ho
  split at h
  rotate_left
  · cases h
  rename_i x y t t' hxs hts
  have hxs' : xs = #[x, y] := by rw [← Array.toArray_toList (xs := xs), hxs]
  have hts' : ts = #[t, t'] := by rw [← Array.toArray_toList (xs := ts), hts]
  subst hxs'
  subst hts'
  split at h
  rotate_left
  · cases h
  rename_i e1 hu
  split at h
  rotate_left
  · cases h
  rename_i ie hi
  split at h
  rotate_left
  · cases h
  rename_i d1 e1' sz1 N1 a1 m1 b1 c1 hx hy
  split at h
  rotate_left
  · cases h
  rename_i hq
  obtain ⟨rfl, hz, hs0, rfl, rfl⟩ := hq
  cases h
  obtain ⟨vx, hx1, hx2⟩ := Option.bind_eq_some_iff.1 hx
  obtain ⟨vy, hy1, hy2⟩ := Option.bind_eq_some_iff.1 hy
  have hc' := of_decide_eq_true hc
  have hl := preOf_look hx2
  refine ⟨hl, rfl, fun _ _ _ hf => hf, fun g rd A w hview => ?_⟩
  have hvx := hview.op x _ (by simp [ho, Op.operands, Call.operands]) hx1
  have hsrc := srcS_rel hy2 hview (hview.op y _ (by simp [ho, Op.operands, Call.operands]) hy1)
  rw [Cut.map] at hsrc
  obtain ⟨us, hown, hlenx, hrowx⟩ := hview.holds d _ hl
  obtain ⟨ax, cx, hV, hVc, hVm, hvl, hblk⟩ := tk_slice hown
  have hlx : l1.length = N := by rw [List.length_map] at hlenx; exact hlenx
  have hul := hown.1
  have hpre : A.eval x = .slice ax m cx ∧ m ≤ N := by
    unfold preOf at hx2
    split at hx2
    · split at hx2
      · cases hx2
        obtain ⟨q1, _⟩ := hvx
        exact ⟨by rw [q1, hV], Nat.le_refl _⟩
      · cases hx2
    · split at hx2
      · cases hx2
        obtain ⟨ax', N', cx', q1, q2, q3⟩ := hvx
        rw [hV] at q1
        cases q1
        exact ⟨q2, q3⟩
      · cases hx2
    · cases hx2
  obtain ⟨hvx', hmN⟩ := hpre
  generalize hl2' : c.app l2 = l2' at *
  generalize hvy : A.eval y = uy at *
  obtain ⟨ay, cy, vals, rfl, hlv, hrow, hwhere, _⟩ := hsrc
  rw [List.length_map] at hlv
  simp only [execOp, ho, resolve, invoke, builtin, Sem.run_bind, Sem.run_pure, Result.andThen_ok, List.map_toArray, List.map_cons, List.map_nil, hvx', hvy, List.length_map]
  have hvr : ∀ rd' : Rd, VRel rd' g (.slice ax (m + l2'.length) cx) (.c (.row d (m + l2'.length))) := fun rd' => ⟨ax, N, cx, hV, rfl, by omega⟩
  by_cases hl2 : l2' = []
  · subst hl2
    simp only [List.length_nil, Nat.add_zero, List.append_nil, List.take_append_drop] at hvr ⊢
    rw [run_append_zero t o.type e ie hu hi ax ay m cx cy (by omega)]
    simp only [Result.andThen_ok]
    exact ⟨_, _, rfl, Keep.refl _ _, .inr ⟨_, rfl, fun rd' _ => hvr rd'⟩, fun rd' hle => ⟨us, by rw [hlx]; exact hown, by simp, hrowx.mono hle⟩⟩
  have hpos : 0 < l2'.length := List.length_pos_iff.2 hl2
  obtain ⟨ad, rfl, hcells⟩ : ∃ ad, ay = some ad ∧ ∀ j v, vals[j]? = some v → w.cell? (ad.add j) = some v := by
    rcases hwhere with h0 | h0
    · exact absurd (List.map_eq_nil_iff.1 h0) hl2
    · exact h0
  have h1v := SrcIs.one hs0 (by rw [List.length_map]; exact hlv) hrow (fun x hx => by obtain ⟨y, _, rfl⟩ := List.mem_map.1 hx; exact hone y)
  rcases hblk with h0 | ⟨gb, hgb, hbk⟩
  · omega
  subst hgb
  have hbound : m * ie.size + vals.length ≤ N * ie.size := by rw [hlv, ← Nat.add_mul]; exact Nat.mul_le_mul_right _ (by omega)
  have hcell : ∀ j, j < vals.length → ∃ u, w.cell? ⟨gb, m * ie.size + j, none⟩ = some u := by
    intro j hj
    have := hown.cells hbk (m * ie.size + j) _ (List.getElem?_eq_getElem (by omega))
    rw [addr_add, Nat.zero_add] at this
    exact ⟨_, this⟩
  have hst := run_storeCells_cells (P := P) gb (m * ie.size) vals 0 w
    (fun j hj => by obtain ⟨u, q⟩ := hcell j hj; rw [Nat.add_zero, q]; rfl)
    (fun j hj => by
      rcases hown.2 with ⟨q, _⟩ | ⟨gb', cap, cur, q1, _, q2, _⟩
      · rw [q] at hbk; cases hbk
      · rw [q1] at hbk; cases hbk
        simp [World.frozen?, q2]) h1v
  simp only [Nat.add_zero] at hst
  obtain ⟨o1, o2⟩ := own_write hown hbk (m * ie.size) vals hbound
  have hfc := run_firstCells_some (P := P) w ie.size l2'.length ad l2'.length cy vals hlv hcells
  have hrun : (Builtin.append_ #[t, t] o.type #[.slice (some ⟨gb, 0, none⟩) m cx, .slice (some ad) l2'.length cy]).run P w = .ok (.slice (some ⟨gb, 0, none⟩) (m + l2'.length) cx) (w.setCells gb (m * ie.size) vals) := by
    have hroom : m + l2'.length ≤ cx := by omega
    simp [Builtin.append_, run_underlying hu, Builtin.lenOf, sizeOf, typeInfo, hi, hfc, addr_add, hst, hroom]
  rw [hrun]
  simp only [Result.andThen_ok]
  refine ⟨_, _, rfl, o2, .inr ⟨_, rfl, fun rd' _ => hvr rd'⟩, fun rd' hle => ⟨_, (by
    have hlN : (l1.take m ++ l2' ++ l1.drop (m + l2'.length)).length = N := by
      simp only [List.length_append, List.length_take, List.length_drop]
      omega
    rw [hlN]; exact o1), by simp, ?_⟩⟩
  · rw [List.map_append, List.map_append]
    refine RowIs.mono hle ?_
    have e1 : RowIs rd ie.size (us.take (m * ie.size)) ((l1.take m).map f) := by
      have := hrowx.cut 0 m
      simpa [List.map_take] using this
    have e3 : RowIs rd ie.size (us.drop (m * ie.size + vals.length)) ((l1.drop (m + l2'.length)).map f) := by
      have := hrowx.cut (m + l2'.length) (N - (m + l2'.length))
      have q : (us.drop ((m + l2'.length) * ie.size)).take ((N - (m + l2'.length)) * ie.size) = us.drop ((m + l2'.length) * ie.size) := List.take_of_length_le (by rw [List.length_drop, hul, ← Nat.sub_mul]; exact Nat.le_refl _)
      have q' : ((l1.map f).drop (m + l2'.length)).take (N - (m + l2'.length)) = (l1.drop (m + l2'.length)).map f := by
        rw [List.map_drop]; exact List.take_of_length_le (by rw [List.length_drop, hlenx]; exact Nat.le_refl _)
      rw [q, q', Nat.add_mul, ← hlv] at this
      exact this
    refine (e1.append hrow ?_).append e3 ?_
    · simp only [List.length_map, List.length_take]; rw [Nat.min_eq_left (by rw [hul]; omega), Nat.min_eq_left (by omega)]
    · simp only [List.length_map, List.length_append, List.length_take]; rw [Nat.min_eq_left (by rw [hul]; omega), Nat.min_eq_left (by omega), hlv, Nat.add_mul]

/-! ### a list in other words -/
def slcAt (s : St) (t : Nat) : Option (Nat × Nat × List (List SC)) := match look s.tmps t with
  | some (.c (.slc sz 0 N xs)) => some (sz, N, xs)
  | _ => none
variable {K : Ctx} {n : Nat} {Q : Exit → St → Prop} {C : Cfg} {D : Dr}
theorem TS_recast (t : Nat) {sz N : Nat} {xs : List (List SC)} (N2 : Nat) (ys : List (List SC)) (hy : xs = ys) (hN : ys.length = N2) (h : slcAt C.st t = some (sz, N, xs)) (he : C.pre = true) (k : TS P K n (C.withS (C.st.put (some t) (.c (.slc sz 0 N2 ys)))) Q) : TS P K n C Q := by
  refine TS_state _ (fun a w ⟨g, r⟩ => ?_) he k
  unfold slcAt at h
  split at h
  · rename_i sz' N' xs' hl
    cases h
    refine ⟨g, r.recast hl (fun u hu => ?_)⟩
    obtain ⟨h1, _⟩ := hu
    have := irel_len h1
    rw [hy, hN] at this
    exact ⟨this, trivial⟩
  · cases h
theorem TS_appP (d e sz by_ N m : Nat) (f : α → List SC) (hone : ∀ x, (f x).all SC.one = true) {l1 l2 : List α} (c : Cut) (hc : decide (m + (c.app l2).length ≤ l1.length) = true) (h : C.with1 (appRArgs P) = some (d, e, sz, by_, N, l1.map f, m, l2.map f, c)) (hg : C.go1 n = true)
    (kk : TS P K n (C.next ((C.st.setR d (.row e sz (l1.take m ++ c.app l2 ++ l1.drop (m + (c.app l2).length)).length ((l1.take m ++ c.app l2 ++ l1.drop (m + (c.app l2).length)).map f))).put C.dst (.c (.row d (m + (c.app l2).length))))) Q) : TS P K n C Q :=
  TS_upd (fun _os _o ho => upd_appP f hone hc (with1_op h ho)) hg kk
theorem TD_appP (d e sz by_ N m : Nat) (f : α → List SC) (hone : ∀ x, (f x).all SC.one = true) {l1 l2 : List α} (c : Cut) (hc : decide (m + (c.app l2).length ≤ l1.length) = true) (h : D.with1 (appRArgs P) = some (d, e, sz, by_, N, l1.map f, m, l2.map f, c)) (hg : D.go1 n = true)
    (kk : TD P K n (D.push ⟨D.need, D.dst, .c (.row d (m + (c.app l2).length)), some (d, .row e sz (l1.take m ++ c.app l2 ++ l1.drop (m + (c.app l2).length)).length ((l1.take m ++ c.app l2 ++ l1.drop (m + (c.app l2).length)).map f)), false⟩) Q) : TD P K n D Q :=
  TD_upd (fun _os _o ho => upd_appP f hone hc (with1D_op h ho)) hg kk
end
end Go.Proofs.Ytbncbjblbdjddaa
