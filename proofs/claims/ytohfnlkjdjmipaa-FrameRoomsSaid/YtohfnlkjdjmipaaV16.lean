/-
  SHADOWS, second make: parts of rows, copy into rows, append onto rows that may be written, and rows that become read-only.
-/
import Derived.Test.YtohfnlkjdjmipaaV15
namespace Go.Proofs.Ytohfnlkjdjmipaa
open Go.RowKit

theorem run_bounds {P : Program} {w : World} {A : Act} {g : Env} {rd : Rd} {s : St} {o : Oper} (hview : OView g rd A w s o) {lo hi : Option Operand} (hlm : ∀ y, lo = some y → y ∈ o.op.operands.toList) (hhm : ∀ y, hi = some y → y ∈ o.op.operands.toList) (sl : Bool) {len cap : Nat} {a b : Int} {vlo vhi : Option (IntKind × Int)}
    (hlo : lo.map (opd s) = vlo.map fun p => some (int p.1 p.2)) (hhi : hi.map (opd s) = vhi.map fun p => some (int p.1 p.2)) (ha : a = (vlo.map (·.2)).getD 0) (hb : b = (vhi.map (·.2)).getD (len : Int)) (h0 : 0 ≤ a) (h1 : a ≤ b) (h2 : b ≤ len) (hcap : len ≤ cap) :
    (Instr.sliceBounds sl len cap (lo.map A.eval) (hi.map A.eval) (none : Option Value)).run P w = .ok (a.toNat, b.toNat, cap) w := by
  have hb' : ∀ cd, (match hi.map A.eval with | some v => Instr.sliceBound v cap cd | none => pure len : Sem Nat).run P w = .ok b.toNat w := by
    intro cd
    cases hi with
    | none =>
      cases vhi with
      | none => simp at hb; subst hb; simp
      | some p => simp at hhi
    | some y =>
      cases vhi with
      | none => simp at hhi
      | some p =>
        simp only [Option.map_some, Option.some.injEq, Option.getD_some] at hhi hb
        have := rel_lit (hview.op y _ (hhm y rfl) hhi)
        simp only [Option.map_some, this]
        rw [← hb]
        exact run_bound _ _ _ _ (by omega) (by omega)
  have ha' : ∀ cd, (match lo.map A.eval with | some v => Instr.sliceBound v b.toNat cd | none => pure 0 : Sem Nat).run P w = .ok a.toNat w := by
    intro cd
    cases lo with
    | none =>
      cases vlo with
      | none => simp at ha; subst ha; simp
      | some p => simp at hlo
    | some y =>
      cases vlo with
      | none => simp at hlo
      | some p =>
        simp only [Option.map_some, Option.some.injEq, Option.getD_some] at hlo ha
        have := rel_lit (hview.op y _ (hlm y rfl) hlo)
        simp only [Option.map_some, this]
        rw [← ha]
        exact run_bound _ _ _ _ (by omega) (by omega)
  unfold Instr.sliceBounds
  cases hi with
  | none =>
    have hbb := hb' .sliceAcap
    cases lo with
    | none =>
      have haa := ha' .sliceB
      simp at haa hbb ⊢
      exact ⟨haa, hbb⟩
    | some y =>
      have haa := ha' .sliceB
      simp only [Option.map_none, Option.map_some, Sem.run_bind, Sem.run_pure, Result.andThen_ok, Option.isSome_none, Bool.false_eq_true, if_false] at haa hbb ⊢
      injection hbb with hbb1
      rw [hbb1] at *
      rw [haa]; simp
  | some z =>
    cases lo with
    | none =>
      cases sl <;>
      · simp only [Option.map_none, Option.map_some, Sem.run_bind, Sem.run_pure, Result.andThen_ok, Bool.false_eq_true, if_false, if_true]
        have haa := ha' .sliceB
        first
          | (have hbb := hb' .sliceAcap; simp only [Option.map_some] at hbb; rw [hbb])
          | (have hbb := hb' .sliceAlen; simp only [Option.map_some] at hbb; rw [hbb])
        simp at haa ⊢
        exact haa
    | some y =>
      cases sl <;>
      · simp only [Option.map_some, Sem.run_bind, Sem.run_pure, Result.andThen_ok, Option.isSome_none, Bool.false_eq_true, if_false, if_true]
        have haa := ha' .sliceB
        first
          | (have hbb := hb' .sliceAcap; simp only [Option.map_some] at hbb; rw [hbb])
          | (have hbb := hb' .sliceAlen; simp only [Option.map_some] at hbb; rw [hbb])
        simp only [Option.map_some] at haa
        simp only [Result.andThen_ok, haa]

section
variable {P : Program} {o : Oper} {s : St} {α : Type}
/-! ### parts of a row -/
def slRArgs (P : Program) (s : St) (o : Oper) : Option (Nat × Nat × Nat × Int × Int) := match o.op with
  | .slice t x lo hi none => match opd s x, P.underlying t with
    | some (.c (.own d)), some (.slice e') => match look s.hp d, P.info? e' with
      | some (.row _ sz N _), some ie => match bnd s 0 lo, bnd s N hi with
        | some (_, a), some (_, b) => if ie.size = sz then some (d, sz, N, a, b) else none
        | _, _ => none
      | _, _ => none
    | _, _ => none
  | _ => none
theorem slR_run {d sz N : Nat} {a b : Int} (h : slRArgs P s o = some (d, sz, N, a, b)) (hc : decide (0 ≤ a ∧ a ≤ b ∧ b ≤ (N : Int)) = true) {g : Env} {rd : Rd} {A : Act} {w : World} (hview : OView g rd A w s o) :
    ∃ x c, (g.tk d).1 = .slice x N c ∧ N ≤ c ∧ c ≤ maxLen ∧ (N = 0 ∨ ∃ blk, x = some ⟨blk, 0, none⟩) ∧ (execOp A.eval o).run P w = .ok (.value (.slice (if c = a.toNat then x else x.map (·.add (a.toNat * sz))) (b.toNat - a.toNat) (c - a.toNat))) w := by
  unfold slRArgs at h
  split at h
  rotate_left
  · cases h
  rename_i t xo lo hi ho
  split at h
  rotate_left
  · cases h
  rename_i d1 e1 hx hu
  split at h
  rotate_left
  · cases h
  rename_i e2 sz2 N2 xs2 ie hl hie
  split at h
  rotate_left
  · cases h
  rename_i vlo a1 vhi b1 hlo hhi
  split at h
  rotate_left
  · cases h
  rename_i hsz
  cases h
  obtain ⟨c0, c1, c2⟩ := of_decide_eq_true hc
  obtain ⟨us, h3, h4, h5⟩ := hview.holds d _ hl
  obtain ⟨x, c, k1, k2, k3, _, k5⟩ := tk_slice h3
  obtain ⟨hv, _⟩ := hview.op xo _ (by simp [ho, Op.operands]) hx
  refine ⟨x, c, k1, k2, k3, ?_, ?_⟩
  · rcases k5 with k5 | ⟨blk, k5, _⟩
    · exact .inl k5
    · exact .inr ⟨blk, k5⟩
  · obtain ⟨q1, q2⟩ := bnd_spec hlo
    obtain ⟨q3, q4⟩ := bnd_spec hhi
    have hk := run_bounds (P := P) (A := A) hview (lo := lo) (hi := hi) (fun y hy => by subst hy; simp [ho, Op.operands]) (fun y hy => by subst hy; cases lo <;> simp [ho, Op.operands]) true (len := N) (cap := c) q1 q3 q2 q4 c0 c1 c2 k2
    simp only [execOp, ho, Option.map_none, Instr.sliceAt, Instr.slice, run_underlying hu, hv, k1, hk, sizeOf, typeInfo, program, hie, Sem.run_bind, Sem.run_pure, Sem.run, Result.andThen_ok, hsz]
theorem grow_slRow {d sz N : Nat} {a b : Int} (h : slRArgs P s o = some (d, sz, N, a, b)) (hc : decide (0 ≤ a ∧ a ≤ b ∧ b ≤ (N : Int)) = true) (ha : a = 0) : GrowOp P o s (.c (.row d b.toNat)) := by
  refine PureOp.grow fun g rd A w hview => ?_
  obtain ⟨x, c, k1, k2, k3, k4, k5⟩ := slR_run h hc hview
  obtain ⟨c0, c1, c2⟩ := of_decide_eq_true hc
  subst ha
  refine ⟨_, k5, x, N, c, k1, ?_, by omega⟩
  simp only [Int.toNat_zero, Nat.sub_zero, Nat.zero_mul]
  split
  · rfl
  · cases x with
    | none => rfl
    | some ad =>
      simp only [Option.map_some]
      rcases k4 with k4 | ⟨blk, k4⟩
      · congr 2
      · cases k4; rfl
theorem grow_slSub {d sz N : Nat} {a b : Int} (h : slRArgs P s o = some (d, sz, N, a, b)) (hc : decide (0 ≤ a ∧ a ≤ b ∧ b ≤ (N : Int)) = true) : GrowOp P o s (.c (.sub d sz a.toNat (b.toNat - a.toNat))) := by
  refine PureOp.grow fun g rd A w hview => ?_
  obtain ⟨x, c, k1, k2, k3, k4, k5⟩ := slR_run h hc hview
  obtain ⟨c0, c1, c2⟩ := of_decide_eq_true hc
  refine ⟨_, k5, x, N, c, _, _, k1, by omega, rfl, by omega, by omega, ?_⟩
  by_cases hz : b.toNat - a.toNat = 0
  · exact .inl hz
  · right
    rcases k4 with k4 | ⟨blk, k4⟩
    · omega
    · refine ⟨blk, k4, ?_⟩
      rw [if_neg (by omega), k4]
      simp only [Option.map_some, addr_add, Nat.zero_add]

/-! ### copy into a row -/
def cpL (l : List α) (a m : Nat) (src : List α) : List α := l.take a ++ src.take (min src.length m) ++ l.drop (a + min src.length m)
def cpArgs (P : Program) (s : St) (o : Oper) : Option (Nat × Nat × Nat × Nat × List (List SC) × Cut × Nat × List (List SC) × Cut) := match o.op with
  | .call { callee := .builtin .copy, args := xs, argTypes := ts } => match xs.toList, ts.toList with
    | [x, y], [t, _] => match P.underlying t with
      | some (.slice e') => match P.info? e' with
        | some ie => match (opd s x).bind (rowOfS s), (opd s y).bind (srcS s ie.size) with
          | some (d, e, sz, N, xs, c, a), some (ys, c') => if ie.size = sz ∧ 0 < sz then some (d, e, sz, N, xs, c, a, ys, c') else none
          | _, _ => none
        | none => none
      | _ => none
    | _, _ => none
  | _ => none
theorem run_copy_zero {P : Program} {w : World} (dT sT ty e : TypeId) (ie : TypeInfo) (hu : P.underlying dT = some (.slice e)) (hi : P.info? e = some ie) (x y : Option Addr) (dl dc sl sc : Nat) (h : Nat.min sl dl = 0) :
    (Builtin.copy_ #[dT, sT] ty #[.slice x dl dc, .slice y sl sc]).run P w = .ok (goInt 0) w := by
  cases x <;> cases y <;> simp [Builtin.copy_, run_underlying hu, Builtin.lenOf, Builtin.firstCells, sizeOf, typeInfo, hi, storeCells, h, loadCells, loadCellsFrom]
theorem upd_cpR {d e sz N a : Nat} {f : α → List SC} (hone : ∀ x, (f x).all SC.one = true) {l l2 : List α} {c c' : Cut} (h : cpArgs P s o = some (d, e, sz, N, l.map f, c, a, l2.map f, c')) :
    UpdOp P o s d (.row e sz N (l.map f)) (.row e sz (cpL l a (c.app l).length (c'.app l2)).length ((cpL l a (c.app l).length (c'.app l2)).map f)) (int .i64 (min (c'.app l2).length (c.app l).length : Nat)) := by
  unfold cpArgs at h
  split at h
  rotate_left
  · cases h
  rename_i xs ts ho
  split at h
  rotate_left
  · cases h
  rename_i x y t t' hxs hts
  have hxs' : xs = #[x, y] := by rw [← Array.toArray_toList (xs := xs), hxs]
  have hts' : ts = #[t, t'] := by rw [← Array.toArray_toList (xs := ts), hts]
  subst hxs'
  subst hts'
  split at h
  rotate_left
  · cases h
  rename_i e1 hu
  split at h
  rotate_left
  · cases h
  rename_i ie hie
  split at h
  rotate_left
  · cases h
  rename_i d1 e2 sz2 N2 xs2 c2 a2 ys2 c2' hx hy
  split at h
  rotate_left
  · cases h
  rename_i hq
  obtain ⟨hsz, hs0⟩ := hq
  cases h
  obtain ⟨vx, hx1, hx2⟩ := Option.bind_eq_some_iff.1 hx
  obtain ⟨vy, hy1, hy2⟩ := Option.bind_eq_some_iff.1 hy
  have hl : look s.hp d = some (.row e sz N (l.map f)) := by
    unfold rowOfS at hx2
    split at hx2
    · split at hx2
      · rename_i hl; cases hx2; exact hl
      · cases hx2
    · split at hx2
      · rename_i hl; cases hx2; exact hl
      · cases hx2
    · split at hx2
      · rename_i hl
        split at hx2
        · cases hx2; exact hl
        · cases hx2
      · cases hx2
    · cases hx2
  refine ⟨hl, rfl, fun _ _ _ hf => hf, fun g rd A w hview => ?_⟩
  obtain ⟨_, hr⟩ := rowOfS_rel hx2 hview (hview.op x _ (by simp [ho, Op.operands, Call.operands]) hx1)
  rw [hsz] at hy2
  obtain ⟨ay, cy, vals, v1, v2, v3, v4, _⟩ := srcS_rel hy2 hview (hview.op y _ (by simp [ho, Op.operands, Call.operands]) hy1)
  obtain ⟨us, h1, h2, h3⟩ := hr.own
  obtain ⟨xa, cap, q1, q2, q3, q4, q5⟩ := hr.val
  rw [Cut.map, List.length_map] at q1 q2 q4 q5 v1 v2
  rw [Cut.map] at v3 v4
  simp only [execOp, ho, resolve, invoke, builtin, Sem.run_bind, Sem.run_pure, Result.andThen_ok, List.map_toArray, List.map_cons, List.map_nil, q1, v1]
  generalize hk : min (c'.app l2).length (c.app l).length = k at *
  have hk' : Nat.min (c'.app l2).length (c.app l).length = k := hk
  by_cases hk0 : k = 0
  · rw [run_copy_zero t t' o.type _ ie hu hie _ _ _ _ _ _ (by rw [hk', hk0])]
    simp only [Result.andThen_ok]
    refine ⟨_, _, rfl, Keep.refl _ _, .inr ⟨_, rfl, fun rd' _ => ?_⟩, fun rd' hle => ?_⟩
    · rw [hk0]; exact .lit _
    · have : cpL l a (c.app l).length (c'.app l2) = l := by
        unfold cpL
        rw [hk, hk0]
        simp
      rw [this]
      have hlN : l.length = N := by simpa using h2
      exact ⟨us, by rw [hlN]; exact h1, by simp, h3.mono hle⟩
  · rcases q5 with q5 | ⟨b, q5, q6⟩
    · omega
    rcases v4 with v4 | ⟨ad, v4, v5⟩
    · have := List.map_eq_nil_iff.1 v4
      rw [this] at hk
      simp at hk
      omega
    subst q6
    subst v4
    have hkl : k ≤ (c'.app l2).length := by omega
    have hkd : k ≤ (c.app l).length := by omega
    have hvl : (vals.take (k * sz)).length = k * sz := by
      rw [List.length_take, v2]
      exact Nat.min_eq_left (Nat.mul_le_mul_right _ hkl)
    have hb1 : a * sz + k * sz ≤ N * sz := by rw [← Nat.add_mul]; exact Nat.mul_le_mul_right _ (by omega)
    have hul := h1.1
    have hsrc : ∀ j v, (vals.take (k * sz))[j]? = some v → w.cell? (ad.add j) = some v := by
      intro j v hj
      rw [List.getElem?_take] at hj
      split at hj
      · exact v5 j v hj
      · cases hj
    have hrowk : RowIs rd sz (vals.take (k * sz)) (((c'.app l2).map f).take k) := by
      have := v3.cut 0 k
      simpa using this
    have h1v := SrcIs.one (vals := vals.take (k * sz)) hs0 (by rw [hvl, List.length_take, List.length_map, Nat.min_eq_left hkl]) hrowk (fun x hx => by
      obtain ⟨y0, _, rfl⟩ := List.mem_map.1 (List.mem_of_mem_take hx); exact hone y0)
    have hst := run_storeCells_cells (P := P) b (a * sz) (vals.take (k * sz)) 0 w
      (fun j hj => by
        have := h1.cells q5 (a * sz + j) _ (List.getElem?_eq_getElem (by omega))
        rw [addr_add, Nat.zero_add] at this
        rw [Nat.add_zero, this]; rfl)
      (fun j hj => by
        rcases h1.2 with ⟨q, _⟩ | ⟨gb, cap, cur, q1, _, q2, _⟩
        · rw [q] at q5; cases q5
        · rw [q1] at q5; cases q5
          simp [World.frozen?, q2]) h1v
    simp only [Nat.add_zero] at hst
    obtain ⟨o1, o2⟩ := own_write h1 q5 (a * sz) (vals.take (k * sz)) (by omega)
    have hfc := run_firstCells_some (P := P) w sz k ad (c'.app l2).length cy (vals.take (k * sz)) hvl hsrc
    have hrun : (Builtin.copy_ #[t, t'] o.type #[.slice (some ⟨b, a * sz, none⟩) (c.app l).length cap, .slice (some ad) (c'.app l2).length cy]).run P w = .ok (goInt k) (w.setCells b (a * sz) (vals.take (k * sz))) := by
      simp [Builtin.copy_, run_underlying hu, Builtin.lenOf, sizeOf, typeInfo, hie, hsz, hk', hfc, hst]
    rw [hrun]
    simp only [Result.andThen_ok]
    refine ⟨_, _, rfl, o2, .inr ⟨_, rfl, fun rd' _ => .lit _⟩, fun rd' hle => ⟨_, (by
      have hlN : (cpL l a (c.app l).length (c'.app l2)).length = N := by
        unfold cpL
        simp only [List.length_map, List.length_append, List.length_take, List.length_drop, hk] at h2 ⊢
        omega
      rw [hlN]; exact o1), by simp, ?_⟩⟩
    · unfold cpL
      rw [hk, List.map_append, List.map_append, hvl, ← Nat.add_mul]
      refine RowIs.mono hle ?_
      have e1 : RowIs rd sz (us.take (a * sz)) ((l.take a).map f) := by
        have := h3.cut 0 a
        simpa [List.map_take] using this
      have e2 : RowIs rd sz (vals.take (k * sz)) (((c'.app l2).take k).map f) := by
        rw [List.map_take]; exact hrowk
      have e3 : RowIs rd sz (us.drop ((a + k) * sz)) ((l.drop (a + k)).map f) := by
        have := h3.cut (a + k) (N - (a + k))
        have q : (us.drop ((a + k) * sz)).take ((N - (a + k)) * sz) = us.drop ((a + k) * sz) := List.take_of_length_le (by rw [List.length_drop, hul, ← Nat.sub_mul]; exact Nat.le_refl _)
        have q' : ((l.map f).drop (a + k)).take (N - (a + k)) = (l.drop (a + k)).map f := by
          rw [List.map_drop]; exact List.take_of_length_le (by rw [List.length_drop, h2]; exact Nat.le_refl _)
        rw [q, q'] at this
        exact this
      have hal : a ≤ l.length := by rw [List.length_map] at h2; omega
      refine (e1.append e2 ?_).append e3 ?_
      · simp only [List.length_map, List.length_take]; rw [Nat.min_eq_left (by rw [hul]; omega), Nat.min_eq_left hal]
      · simp only [List.length_map, List.length_append, List.length_take, hvl]; rw [Nat.min_eq_left (by rw [hul]; omega), Nat.min_eq_left hal, Nat.min_eq_left hkl, Nat.add_mul]
end
end Go.Proofs.Ytohfnlkjdjmipaa
