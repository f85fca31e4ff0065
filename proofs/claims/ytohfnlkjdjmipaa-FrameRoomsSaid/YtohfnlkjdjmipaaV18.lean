/-
  SHADOWS, second make: calls that only read what the caller may write; bytes; arrays as slices and at computed places.
-/
import Derived.Test.YtohfnlkjdjmipaaV17
import Derived.Lib.Bytealg
namespace Go.Proofs.Ytohfnlkjdjmipaa
open Go.RowKit

section
variable {P : Program} {o : Oper} {s : St} {α : Type}
/-- all of the memory -/
def allRd (w : World) : Rd := fun b o => w.cell? ⟨b, o, none⟩
theorem SrcIs.irel {rd : Rd} {w : World} {u : Value} {sz : Nat} {xs : List (List SC)} (h : SrcIs rd w u sz xs) (hr : ∀ b o v, rd b o = some v → w.cell? ⟨b, o, none⟩ = some v) : IRel (allRd w) u (.slc sz 0 xs.length xs) := by
  obtain ⟨a, c, vals, rfl, h1, h2, h3, h4, h5, h6⟩ := h
  rcases h3 with h3 | ⟨ad, rfl, h3⟩
  · subst h3
    exact .nil sz a c h5
  · rcases h6 ad rfl with h6 | ⟨b, o, rfl⟩
    · subst h6
      exact .nil sz _ c h5
    · have hu : ∀ i x j y, xs[i]? = some x → x[j]? = some y → ∃ u, vals[i * sz + j]? = some u ∧ IRel rd u y := fun i x j y => h2.2 i x j y
      refine .slc b o _ c sz xs (fun i j => (vals[i * sz + j]?).getD undef) rfl h4 h5 h2.1 (fun i x j y hx hy => ?_) (fun i x j y hx hy => ?_)
      · obtain ⟨u, q1, q2⟩ := hu i x j y hx hy
        have := h3 _ _ q1
        rw [addr_add, ← Nat.add_assoc] at this
        rw [q1]
        exact this
      · obtain ⟨u, q1, q2⟩ := hu i x j y hx hy
        rw [q1]
        exact q2.mono hr
/-- an argument as something that is only read -/
def frz (s : St) (ks : List Nat) : SV → Option SV
  | .c (.own d) => match look s.hp d with
    | some (.row _ sz n xs) => some (.c (.slc sz 0 n xs))
    | _ => none
  | .c (.win d off m) => match srcS s 1 (.c (.win d off m)) with
    | some (xs, .whole) => some (.c (.slc 1 0 xs.length xs))
    | _ => none
  | v => some (castV ks v)
theorem frz_rel {ks : List Nat} {v A : SV} (h : frz s ks v = some A) {g : Env} {rd : Rd} {a : Act} {w : World} {o : Oper} (hv : OView g rd a w s o) {u : Value} (hu : VRel rd g u v) : VRel (allRd w) g u A := by
  unfold frz at h
  split at h
  · rename_i d
    split at h
    · rename_i e sz n xs hl
      have hsrc := srcS_rel (sz := sz) (v := .c (.own d)) (xs := xs) (c := .whole) (by simp [srcS, hl]) hv hu
      obtain ⟨us, _, h2, _⟩ := hv.holds d _ hl
      cases h
      rw [← h2]
      exact ⟨hsrc.irel hv.reads, trivial⟩
    · cases h
  · rename_i d off m
    split at h
    · rename_i xs hs
      cases h
      exact ⟨(srcS_rel hs hv hu).irel hv.reads, trivial⟩
    · cases h
  · cases h
    exact castV_rel ks (hu.mono (fun b o v => hv.reads b o v))
def frzL (s : St) : List (List Nat) → List SV → Option (List SV)
  | _, [] => some []
  | kss, v :: vs => match frz s (kss.headD []) v, frzL s kss.tail vs with
    | some A, some As => some (A :: As)
    | _, _ => none
theorem frzL_spec {s : St} : ∀ (kss : List (List Nat)) (vs As : List SV), frzL s kss vs = some As → vs.length = As.length ∧ ∀ (i : Nat) (v A : SV), vs[i]? = some v → As[i]? = some A → ∃ ks, frz s ks v = some A
  | _, [], As, h => by cases h; exact ⟨rfl, fun i v A h1 => by simp at h1⟩
  | kss, v :: vs, As, h => by
    simp only [frzL] at h
    split at h
    · rename_i A As' h1 h2
      cases h
      obtain ⟨k1, k2⟩ := frzL_spec kss.tail vs As' h2
      refine ⟨by simp [k1], fun i v' A' hv hA => ?_⟩
      cases i with
      | zero => simp at hv hA; subst hv; subst hA; exact ⟨_, h1⟩
      | succ i => simp at hv hA; exact k2 i v' A' hv hA
    · cases h
def SC.isLit : SC → Bool
  | .lit _ => true
  | _ => false
theorem lit_any {rd rd' : Rd} {g g' : Env} {v : Value} {x : SC} (hx : x.isLit = true) (h : CRel rd g v x) : CRel rd' g' v x := by
  cases x <;> simp only [SC.isLit, Bool.false_eq_true] at hx
  have := rel_lit (g := g) h
  subst this
  exact .lit _
/-- a call that reads, and returns numbers -/
theorem grow_conF {r : SV} {f : FuncId} {vs args : List SV} (kss : List (List Nat)) (hc : calleeOf s o = some (f, vs)) (hb : hasBody P f = true) (hargs : frzL s kss vs = some args) (hr : r.every SC.isLit = true) (hp : Con P f args [] r []) : GrowOp P o s r := by
  intro g rd a w hview
  obtain ⟨us, h1, h2, h3⟩ := callee_spec hc hb hview
  obtain ⟨k1, k2⟩ := frzL_spec kss vs args hargs
  have hcalls := hp (allRd w) g w us (fun _ _ _ h => h) (by rw [h1, k1]) (fun i y hy => by
    have hi : i < vs.length := by have := (List.getElem?_eq_some_iff.1 hy).1; omega
    obtain ⟨u, q1, q2⟩ := h2 i _ (List.getElem?_eq_getElem hi)
    obtain ⟨ks, q3⟩ := k2 i _ y (List.getElem?_eq_getElem hi) hy
    exact ⟨u, q1, frz_rel q3 hview q2⟩) (fun d x hx => by simp [look] at hx) (fun d d' x x' b o _ hx => by simp [look] at hx) (fun b o hx => (infoot_nil hx).elim)
  unfold mSafe
  rw [h3]
  refine hcalls.mono fun e w' hq => ?_
  obtain ⟨u, g', rfl, hk, _, _, _, _, hpost⟩ := hq
  have he : Ext w w' := (hk.weak (fun b o x => (infoot_nil x))).ext
  refine ⟨u, rfl, he, fun rd' _ _ => ?_⟩
  exact ((hpost (allRd w') (fun b o v hv => (Keep.of_ext he).cell hv (by simp)) (fun b o u _ _ h2 => h2)).1).imp1 (fun v x hx k => lit_any hx k) hr

/-! ### bytes -/
def u8L (l : List Int) : List UInt8 := l.map fun n => n.toNat.toUInt8
def bytesL (l : List Int) : ByteArray := ⟨(u8L l).toArray⟩
def cmpB (a b : List Int) : Int := Go.Lib.compareBytes (u8L a) (u8L b)
theorem run_loadBytes {P : Program} {w : World} : ∀ (l : List Int) (b o : Nat) (acc : ByteArray), (∀ j n, l[j]? = some n → w.cell? ⟨b, o + j, none⟩ = some (.int .u8 n)) → (Extern.Bytes.loadBytes ⟨b, o, none⟩ l.length acc).run P w = .ok ⟨acc.data ++ (u8L l).toArray⟩ w
  | [], b, o, acc, _ => by simp [Extern.Bytes.loadBytes, u8L]
  | n :: l, b, o, acc, h => by
    have h0 := h 0 n rfl
    rw [Nat.add_zero] at h0
    have ih := run_loadBytes (P := P) l b (o + 1) (acc.push n.toNat.toUInt8) (fun j m hj => by
      have := h (j + 1) m (by simpa using hj)
      rw [← this]; congr 2; omega)
    have hl : (load ⟨b, o, none⟩).run P w = .ok (.int .u8 n) w := by simp [load, Sem.run, h0]
    simp only [List.length_cons, Extern.Bytes.loadBytes, Sem.run_bind, hl, Result.andThen_ok, addr_add, ih]
    congr 2
    simp [u8L, ByteArray.push]
theorem run_bytesOf {rd : Rd} {w : World} {u : Value} {l : List Int} (h : SrcIs rd w u 1 (l.map (ecI .u8))) : (Extern.Bytes.bytesOf u).run P w = .ok (bytesL l) w := by
  obtain ⟨a, c, vals, rfl, h1, h2, h3, h4, h5, h6⟩ := h
  rw [List.length_map] at h1 ⊢
  cases a with
  | none =>
    rcases h3 with h3 | ⟨ad, q, _⟩
    · have := List.map_eq_nil_iff.1 h3
      subst this
      simp [Extern.Bytes.bytesOf, bytesL, u8L]
      rfl
    · cases q
  | some ad =>
    by_cases hl : l = []
    · subst hl
      simp [Extern.Bytes.bytesOf, bytesL, u8L, Extern.Bytes.loadBytes]
      rfl
    · have hne : ¬ l.map (ecI .u8) = [] := fun q => hl (List.map_eq_nil_iff.1 q)
      rcases h6 ad rfl with h6 | ⟨b, o', rfl⟩
      · exact absurd h6 hne
      rcases h3 with h3 | ⟨ad, q, h3⟩
      · exact absurd h3 hne
      cases q
      simp only [Extern.Bytes.bytesOf]
      rw [run_loadBytes l b o' .empty]
      · simp [bytesL]
      · intro j n hj
        obtain ⟨v, q1, q2⟩ := h2.2 j _ 0 (.lit (.int .u8 n)) (by rw [List.getElem?_map, hj]; rfl) rfl
        have := h3 _ _ q1
        rw [addr_add, Nat.mul_one, Nat.add_zero] at this
        rw [this]
        cases q2
        rfl
/-- a function without a body -/
structure Ext1 (P : Program) (f : FuncId) (e : Array Value → Sem Value) : Prop where
  it : ∃ fn, P.funcs[f]? = some fn ∧ (!(fn.name == "runtime.NumGoroutine") && fn.body.isNone && (Extern.findNext fn).isNone) = true ∧ Extern.find fn = some e
def cmpArgs (s : St) (o : Oper) : Option (FuncId × List (List SC) × Cut × List (List SC) × Cut) := match o.op with
  | .call { callee := .value fo, args := xs, argTypes := _ } => match (opd s fo).bind funOf, xs.toList with
    | some (f, []), [x, y] => match (opd s x).bind (srcS s 1), (opd s y).bind (srcS s 1) with
      | some (a, c), some (b, c') => some (f, a, c, b, c')
      | _, _ => none
    | _, _ => none
  | _ => none
theorem grow_cmp {f : FuncId} {l1 l2 : List Int} {c1 c2 : Cut} (hx : Ext1 P f Extern.BytealgCompare.compare) (h : cmpArgs s o = some (f, l1.map (ecI .u8), c1, l2.map (ecI .u8), c2)) : GrowOp P o s (int .i64 (cmpB (c1.app l1) (c2.app l2))) := by
  unfold cmpArgs at h
  split at h
  rotate_left
  · cases h
  rename_i fo xs ts ho
  split at h
  rotate_left
  · cases h
  rename_i f' x y hf hxs
  have hxs' : xs = #[x, y] := by rw [← Array.toArray_toList (xs := xs), hxs]
  subst hxs'
  split at h
  rotate_left
  · cases h
  rename_i a c b c' ha hb
  cases h
  refine PureOp.grow fun g rd A w hview => ?_
  obtain ⟨vf, hf1, hf2⟩ := Option.bind_eq_some_iff.1 hf
  obtain ⟨va, ha1, ha2⟩ := Option.bind_eq_some_iff.1 ha
  obtain ⟨vb, hb1, hb2⟩ := Option.bind_eq_some_iff.1 hb
  obtain ⟨caps, q1, q2⟩ := funOf_rel (hview.op fo _ (by simp [ho, Op.operands, Call.operands]) hf1) hf2
  have hcaps : caps = #[] := Array.eq_empty_of_size_eq_zero (by rw [q2.1]; rfl)
  subst hcaps
  have s1 := srcS_rel ha2 hview (hview.op x _ (by simp [ho, Op.operands, Call.operands]) ha1)
  have s2 := srcS_rel hb2 hview (hview.op y _ (by simp [ho, Op.operands, Call.operands]) hb1)
  rw [Cut.map] at s1 s2
  have e1 := run_bytesOf (P := P) s1
  have e2 := run_bytesOf (P := P) s2
  obtain ⟨fn, k1, k2, k3⟩ := hx.it
  simp only [Bool.and_eq_true, Bool.not_eq_true'] at k2
  have hcall : (callFunc f #[A.eval x, A.eval y]).run P w = .ok (.value (.int .i64 (cmpB (c1.app l1) (c2.app l2)))) w := by
    have hn : (Extern.findNext fn) = none := by simpa using k2.2
    have hcmp : (Extern.BytealgCompare.compare #[A.eval x, A.eval y]).run P w = .ok (.int .i64 (cmpB (c1.app l1) (c2.app l2))) w := by
      change Sem.run P (do pure (goInt (Extern.BytealgCompare.cmp (← Extern.Bytes.bytesOf (A.eval x)) (← Extern.Bytes.bytesOf (A.eval y))))) w = _
      simp only [Sem.run_bind, e1, e2, Result.andThen_ok, Sem.run_pure]
      rw [Go.Lib.cmp_eq]
      rfl
    simp only [callFunc, program, Sem.run_bind, Sem.run, k1, k2.1.1, k2.1.2, hn, k3, if_true, Bool.false_eq_true, if_false, mark, hcmp, Result.andThen_ok, Sem.run_pure]
  refine ⟨_, ?_, .lit _⟩
  simp only [execOp, ho, resolve, q1, Sem.run_bind, invoke, List.map_toArray, List.map_cons, List.map_nil]
  exact hcall
end
end Go.Proofs.Ytohfnlkjdjmipaa
