/-
  The arguments of a law, as shadows (second make): how they are opened, and what a law's call leaves.
-/
import Derived.Test.YtohfnlkjdjmipaaVD
import Derived.Test.YtohfnlkjdjmipaaRows
import Derived.ProofKit
import Derived.OpenShut
import Derived.ShutString
import Derived.ChangeOld
import Derived.SizedLaws
import Derived.Below
import Derived.Deep.MidRow
namespace Go.Proofs.Ytohfnlkjdjmipaa
open Go.ChangeShapes Go.WideShapes Go.ChangeAt Go.RowKit

theorem own : ownKnob Try.prog.godebug = none := by kernel_rfl
theorem laidOut : laidOutB Try.prog = true := by kernel_rfl

/-- the arguments read as before -/
theorem trodAll_below {H : Type} {enc : TypeId × Value → H} {P : Program} (hl : laidOutB P = true) {W W' : World} (hb : Below W.heap.size W W') :
    ∀ {ts : List TypeId} {vs : List Value} {ds : List (DataW H)} {ps : List MemPlace}, ts.all (fun t => P.readableRec t && decide (t < P.types.size)) = true →
      DataW.TrodAll enc P W 0 (fun _ => true) true ts vs ds ps → DataW.TrodAll enc P W' 0 (fun b => decide (b < W.heap.size)) true ts vs ds ps
  | [], _, _, _, _, h => by
    obtain ⟨rfl, rfl, rfl⟩ := trodAll_nil h
    exact trodAll_mk0
  | t :: ts, vs, ds, ps, hr, h => by
    obtain ⟨v, vs', d, ds', p, q, rfl, rfl, rfl, h1, h2⟩ := trodAll_cons h
    simp only [List.all_cons, Bool.and_eq_true, decide_eq_true_eq] at hr
    have lt : ∀ x ∈ p, x.block < W.heap.size := by obtain ⟨m, hm⟩ := h1; exact DataW.trod_lt m _ _ _ hm
    exact trodAll_cons_mk (Below.trod hl hr.1.1 hr.1.2 h1 hb lt) (trodAll_below hl hb hr.2 h2)

theorem i64_bd {x : Int} (h : (Lit.int .i64 x).wf = true) : -9223372036854775808 ≤ x ∧ x ≤ 9223372036854775807 := by
  simpa [Lit.wf, IntKind.min, IntKind.max, IntKind.signed, IntKind.bits] using h
theorem u64_bd {x : Int} (h : (Lit.int .u64 x).wf = true) : 0 ≤ x ∧ x ≤ 18446744073709551615 := by
  simpa [Lit.wf, IntKind.min, IntKind.max, IntKind.signed, IntKind.bits] using h
theorem u32_bd {x : Int} (h : (Lit.int .u32 x).wf = true) : 0 ≤ x ∧ x ≤ 4294967295 := by
  simpa [Lit.wf, IntKind.min, IntKind.max, IntKind.signed, IntKind.bits] using h
theorem u8_bd {x : Int} (h : (Lit.int .u8 x).wf = true) : 0 ≤ x ∧ x ≤ 255 := by
  simpa [Lit.wf, IntKind.min, IntKind.max, IntKind.signed, IntKind.bits] using h

/-- the reader that sees all -/
def rdAll (w : World) : Rd := fun b o => w.cell? ⟨b, o, none⟩
def env0 : Env := ⟨fun _ => (0, 0), fun _ => (.slice none 0 0, .slice none 0 0)⟩
theorem vrel_lit (rd : Rd) (g : Env) (v : Value) : VRel rd g v (.c (.lit v)) := IRel.lit v
def ArgsOk (rd : Rd) (g : Env) : List Value → List SV → Prop
  | [], [] => True
  | u :: us, x :: xs => VRel rd g u x ∧ ArgsOk rd g us xs
  | _, _ => False
theorem ArgsOk.get {rd : Rd} {g : Env} : ∀ {us : List Value} {xs : List SV}, ArgsOk rd g us xs → us.length = xs.length ∧ ∀ (i : Nat) (x : SV), xs[i]? = some x → ∃ u, us[i]? = some u ∧ VRel rd g u x
  | [], [], _ => ⟨rfl, fun i x h => by simp at h⟩
  | u :: us, y :: xs, h => by
    obtain ⟨h1, h2⟩ := h
    obtain ⟨k1, k2⟩ := h2.get
    refine ⟨by simp [k1], fun i x hx => ?_⟩
    rcases i with _ | i
    · cases hx; exact ⟨u, rfl, h1⟩
    · exact k2 i x (by simpa using hx)
/-- a law that is true -/
theorem con_true {P : Program} {f : FuncId} {args : List SV} (h : Con P f args [] (.c (.lit (.bool true))) []) {W : World} {us : List Value} (ha : ArgsOk (rdAll W) env0 us args) :
    Calls P f us.toArray W fun e w' => e = .returned (.bool true) ∧ Ext W w' := by
  obtain ⟨h1, h2⟩ := ha.get
  have nol : ∀ d (x : Res), look ([] : Hp) d = some x → False := fun d x hx => by simp [look] at hx
  have noin : ∀ g b o, ¬ InFoot g ([] : Hp) b o := by rintro g b o ⟨d, r, hd, _⟩; exact nol _ _ hd
  refine (h (rdAll W) env0 W us.toArray (fun b o v hv => hv) (by simpa using h1) (fun i x hx => by simpa using h2 i x hx) (fun d x hx => (nol d x hx).elim) (fun d d' r r' b o _ hd => (nol _ _ hd).elim) (fun b o hx => (noin _ _ _ hx).elim)).mono ?_
  rintro e w' ⟨u, g', rfl, hk, _, _, _, _, hu⟩
  have hE : Ext W w' := (hk.weak (fun b o x => noin _ _ _ x)).ext
  refine ⟨?_, hE⟩
  have := (hu (rdAll w') (by
    intro b o v hv
    obtain ⟨g, rfl⟩ := hE
    have hb := World.block_lt_of_cell? _ _ hv
    unfold rdAll
    rw [cell_plus _ _ _ _ _ hb]
    exact hv) (fun b o u _ _ hc => hc)).1
  cases this
  rfl
def wfI (k : IntKind) (n : Int) : Prop := (Lit.int k n).wf = true
def wfB (_ : Bool) : Prop := True
def wfA (k : IntKind) (n : Nat) (l : List Int) : Prop := l.length = n ∧ ∀ z ∈ l, wfI k z
def wfL {α : Type} (p : α → Prop) (l : List α) : Prop := l.length ≤ maxLen ∧ ∀ z ∈ l, p z
def Seg (rd : Rd) (cs : List Value) (off n : Nat) (l : List SC) : Prop := l.length = n ∧ ∀ (j : Nat) (y : SC), l[j]? = some y → ∃ u, cs[off + j]? = some u ∧ IRel rd u y
theorem Seg.append {rd : Rd} {cs : List Value} {off n m : Nat} {l l' : List SC} (h : Seg rd cs off n l) (k : Seg rd cs (off + n) m l') : Seg rd cs off (n + m) (l ++ l') := by
  refine ⟨by rw [List.length_append, h.1, k.1], fun j y hy => ?_⟩
  by_cases hj : j < l.length
  · rw [List.getElem?_append_left hj] at hy
    exact h.2 j y hy
  · rw [List.getElem?_append_right (by omega)] at hy
    obtain ⟨u, h1, h2⟩ := k.2 _ y hy
    have h3 := h.1
    refine ⟨u, ?_, h2⟩
    rw [← h1]
    congr 1
    omega

/-- a value of the type t is the shadow of an α -/
def Opens (P : Program) (t : TypeId) {α : Type} (f : α → List SC) (wf : α → Prop) : Prop :=
  ∀ (H : Type) (enc : TypeId × Value → H) (W : World) (fuel : Nat) (cs : List Value) (x : DataW H × List MemPlace), DataW.trod enc P W 0 (fun _ => true) true fuel t cs = some x → ∃ a : α, Seg (rdAll W) cs 0 cs.length (f a) ∧ wf a

theorem opens_int {P : Program} {t : TypeId} {k : IntKind} (ht : P.underlying t = some (.int k)) : Opens P t (ecI k) (wfI k) := by
  intro H enc W fuel cs x h
  obtain ⟨n, rfl, _, hw⟩ := DataW.trod_int ht h
  refine ⟨n, ⟨rfl, fun j y hy => ?_⟩, hw⟩
  rcases j with _ | j
  · simp only [ecI, List.getElem?_cons_zero, Option.some.injEq] at hy
    subst hy
    exact ⟨_, rfl, .lit _⟩
  · simp [ecI] at hy
theorem opens_bool {P : Program} {t : TypeId} (ht : P.underlying t = some .bool) : Opens P t ecB wfB := by
  intro H enc W fuel cs x h
  obtain ⟨n, rfl, _⟩ := DataW.trod_bool ht h
  refine ⟨n, ⟨rfl, fun j y hy => ?_⟩, trivial⟩
  rcases j with _ | j
  · simp only [ecB, List.getElem?_cons_zero, Option.some.injEq] at hy
    subst hy
    exact ⟨_, rfl, .lit _⟩
  · simp [ecB] at hy
theorem opens_arr {P : Program} {t e : TypeId} {n : Nat} {k : IntKind} (ht : P.underlying t = some (.array n e)) (he : P.underlying e = some (.int k)) (hc : P.cellsOf e = 1) (hct : P.cellsOf t = n) : Opens P t (arrS k n) (wfA k n) := by
  intro H enc W fuel cs x h
  obtain ⟨xs, m, _, _, hl, hyl, hy⟩ := DataW.trod_array ht h
  rw [hct] at hl
  have key : ∀ i, i < n → ∃ z, cs[i]? = some (.int k z) ∧ (Lit.int k z).wf = true := by
    intro i hi
    have h1 := hy i hi
    rw [hc] at h1
    simp only [Nat.mul_one] at h1
    have hc1 : (cs.drop i).take 1 = [cs[i]'(by omega)] := by
      rw [List.drop_eq_getElem_cons (by omega)]
      rfl
    obtain ⟨y, hyy⟩ : ∃ y, xs[i]? = some y := ⟨_, List.getElem?_eq_getElem (by omega)⟩
    rw [hc1, hyy] at h1
    obtain ⟨z, e0, _, wz⟩ := DataW.trod_int he h1
    simp only [List.cons.injEq, and_true] at e0
    exact ⟨z, by rw [List.getElem?_eq_getElem (by omega), e0], wz⟩
  refine ⟨cs.map (fun u => match u with | .int _ z => z | _ => 0), ⟨by simp [arrS, hl], fun j y hy => ?_⟩, by simp [hl], fun z hz => ?_⟩
  · unfold arrS at hy
    have hj : j < n := by
      have := (List.getElem?_eq_some_iff.1 hy).1
      simpa using this
    obtain ⟨z, h1, _⟩ := key j hj
    simp only [List.getElem?_map, List.getElem?_range hj, Option.map_some, Option.some.injEq] at hy
    subst hy
    rw [Nat.zero_add]
    refine ⟨_, h1, ?_⟩
    simp only [List.getD_eq_getElem?_getD, List.getElem?_map, h1, Option.map_some, Option.getD_some]
    exact .lit _
  · obtain ⟨u, hu, rfl⟩ := List.mem_map.1 hz
    obtain ⟨i, hi⟩ := List.getElem?_of_mem hu
    have hlt := (List.getElem?_eq_some_iff.1 hi).1
    obtain ⟨z, h1, h2⟩ := key i (by omega)
    rw [hi] at h1
    cases h1
    exact h2
theorem opens_field {P : Program} {H : Type} {enc : TypeId × Value → H} {W : World} {fuel : Nat} {cs : List Value} {x : DataW H × List MemPlace} {t : TypeId} {fs : Array Field} (ht : P.underlying t = some (.struct fs)) (h : DataW.trod enc P W 0 (fun _ => true) true fuel t cs = some x) (i : Nat) (fd : Field) (hf : fs.toList[i]? = some fd) {α : Type} {f : α → List SC} {wf : α → Prop} {n off : Nat} (hn : P.cellsOf fd.type = n) (ho : fd.offset = off) (hfit : decide (off + n ≤ P.cellsOf t) = true) (hop : Opens P fd.type f wf) :
    ∃ a, Seg (rdAll W) cs off n (f a) ∧ wf a := by
  obtain ⟨xs, m, _, _, hl, hlen, hg⟩ := DataW.trod_struct ht h
  have hfit' := of_decide_eq_true hfit
  have h1 := hg i fd (by simpa using hf)
  have hi := (List.getElem?_eq_some_iff.1 hf).1
  obtain ⟨y, hy⟩ : ∃ y, xs[i]? = some y := ⟨_, List.getElem?_eq_getElem (by rw [hlen]; simpa using hi)⟩
  rw [hy, hn, ho] at h1
  obtain ⟨a, hs, hw⟩ := hop H enc W m _ y h1
  have hcl : ((cs.drop off).take n).length = n := by simp; omega
  rw [hcl] at hs
  refine ⟨a, ⟨hs.1, fun j z hz => ?_⟩, hw⟩
  obtain ⟨u, k1, k2⟩ := hs.2 j z hz
  have hj := (List.getElem?_eq_some_iff.1 hz).1
  rw [hs.1] at hj
  rw [Nat.zero_add, List.getElem?_take, if_pos hj, List.getElem?_drop] at k1
  exact ⟨u, k1, k2⟩

theorem opens_slice {P : Program} {t e : TypeId} {sz : Nat} (ht : P.underlying t = some (.slice e)) (hsz : P.cellsOf e = sz) {α : Type} {f : α → List SC} {wf : α → Prop} (hop : Opens P e f wf) (hlen : ∀ a, (f a).length = sz) (hpos : decide (0 < sz) = true) : Opens P t (ecS sz f) (wfL wf) := by
  intro H enc W fuel cs x h
  have hp := of_decide_eq_true hpos
  rcases DataW.trod_slice ht h with ⟨rfl, _⟩ | ⟨a, len, cap, elems, rest, m, _, rfl, _, _, hlc, hcm, hel, hg, _⟩
  · refine ⟨[], ⟨rfl, fun j y hy => ?_⟩, by simp, fun z hz => absurd hz (by simp)⟩
    rcases j with _ | j
    · simp only [ecS, List.map_nil, List.getElem?_cons_zero, Option.some.injEq] at hy
      subst hy
      exact ⟨_, rfl, .nil _ _ _ (by decide)⟩
    · simp [ecS] at hy
  · have key : ∀ i, i < len → ∃ (us : List Value) (b : α), W.cells? 0 (a.add (i * sz)) sz = some us ∧ Seg (rdAll W) us 0 us.length (f b) ∧ wf b := by
      intro i hi
      have h1 := hg i hi
      rw [hsz] at h1
      obtain ⟨y, hy⟩ : ∃ y, elems[i]? = some y := ⟨_, List.getElem?_eq_getElem (by omega)⟩
      rw [hy] at h1
      obtain ⟨us, k1, k2⟩ := Option.bind_eq_some_iff.1 h1
      obtain ⟨b, k3, k4⟩ := hop H enc W m us y k2
      exact ⟨us, b, k1, k3, k4⟩
    have key2 : ∃ l : List α, l.length = len ∧ ∀ i b, l[i]? = some b → wf b ∧ ∃ us, W.cells? 0 (a.add (i * sz)) sz = some us ∧ Seg (rdAll W) us 0 us.length (f b) := by
      have : ∀ q, q ≤ len → ∃ l : List α, l.length = q ∧ ∀ i b, l[i]? = some b → wf b ∧ ∃ us, W.cells? 0 (a.add (i * sz)) sz = some us ∧ Seg (rdAll W) us 0 us.length (f b) := by
        intro q
        induction q with
        | zero => exact fun _ => ⟨[], rfl, fun i b hb => by simp at hb⟩
        | succ q ih =>
          intro hq
          obtain ⟨l, hl, hall⟩ := ih (by omega)
          obtain ⟨us, b, k1, k2, k3⟩ := key q (by omega)
          refine ⟨l ++ [b], by simp [hl], fun i c hc => ?_⟩
          by_cases hi : i < l.length
          · rw [List.getElem?_append_left hi] at hc
            exact hall i c hc
          · rw [List.getElem?_append_right (by omega)] at hc
            have hi0 : i - l.length = 0 := by
              have := (List.getElem?_eq_some_iff.1 hc).1
              simp at this
              omega
            rw [hi0] at hc
            cases hc
            have : i = q := by omega
            subst this
            exact ⟨k3, us, k1, k2⟩
      exact this len (Nat.le_refl _)
    obtain ⟨l, hl, hall⟩ := key2
    refine ⟨l, ⟨rfl, fun j y hy => ?_⟩, by omega, fun z hz => ?_⟩
    · rcases j with _ | j
      · simp only [ecS, List.getElem?_cons_zero, Option.some.injEq] at hy
        subst hy
        refine ⟨_, rfl, ?_⟩
        rw [hl]
        by_cases hz : len = 0
        · subst hz
          have : l = [] := List.eq_nil_of_length_eq_zero hl
          subst this
          exact .nil _ _ _ hcm
        · obtain ⟨b0, hb0⟩ : ∃ b, l[0]? = some b := ⟨_, List.getElem?_eq_getElem (by omega)⟩
          obtain ⟨_, us0, k0, _⟩ := hall 0 b0 hb0
          obtain ⟨hlen0, _, hc0⟩ := World.cells?_some k0
          have hcell0 := hc0 0 (by omega)
          obtain ⟨bl, off, spot⟩ := a
          have hspot : spot = none := by
            obtain ⟨z, hz0⟩ : ∃ z, us0[0]? = some z := ⟨_, List.getElem?_eq_getElem (by omega)⟩
            rw [hz0] at hcell0
            simpa [Addr.add] using World.cell?_spot hcell0
          subst hspot
          have cellAt : ∀ i b, l[i]? = some b → ∀ j y, (f b)[j]? = some y → ∃ u, W.cell? ⟨bl, off + i * sz + j, none⟩ = some u ∧ IRel (rdAll W) u y := by
            intro i b hb j y hy
            obtain ⟨_, us, k1, k2⟩ := hall i b hb
            obtain ⟨hlen1, _, hc1⟩ := World.cells?_some k1
            obtain ⟨u, q1, q2⟩ := k2.2 j y hy
            rw [Nat.zero_add] at q1
            have hj : j < sz := by have := (List.getElem?_eq_some_iff.1 hy).1; rw [hlen b] at this; exact this
            have := hc1 j (by omega)
            rw [q1] at this
            refine ⟨u, ?_, q2⟩
            rw [Addr.add_mid, Addr.add_mid] at this
            exact this
          refine .slc bl off len cap sz (l.map f) (fun i j => (W.cell? ⟨bl, off + i * sz + j, none⟩).getD (.bool false)) (by simp [hl]) hlc hcm ?_ ?_ ?_
          · intro x hx
            obtain ⟨b, _, rfl⟩ := List.mem_map.1 hx
            exact hlen b
          · intro i x j y hx hy
            rw [List.getElem?_map] at hx
            obtain ⟨b, hb, rfl⟩ := Option.map_eq_some_iff.1 hx
            obtain ⟨u, q1, _⟩ := cellAt i b hb j y hy
            simp only [rdAll, q1, Option.getD_some]
          · intro i x j y hx hy
            rw [List.getElem?_map] at hx
            obtain ⟨b, hb, rfl⟩ := Option.map_eq_some_iff.1 hx
            obtain ⟨u, q1, q2⟩ := cellAt i b hb j y hy
            simp only [q1, Option.getD_some]
            exact q2
      · simp [ecS] at hy
    · obtain ⟨i, hi⟩ := List.getElem?_of_mem hz
      exact (hall i z hi).1

/-- a struct as an argument -/
theorem open_agg {P : Program} {t : TypeId} {fs : Array Field} {H : Type} {enc : TypeId × Value → H} {W : World} {v : Value} {d : DataW H} {p : List MemPlace} {r : Reach} {b0 : Nat} {α : Type} {f : α → List SC} {wf : α → Prop} (hop : Opens P t f wf) (ht : P.underlying t = some (.struct fs))
    (hv : Value.okWide P W r b0 t v) (h : DataW.Trod enc P W 0 (fun _ => true) true t v d p) : ∃ a, VRel (rdAll W) env0 v (.agg (f a)) ∧ wf a := by
  obtain ⟨cs, rfl, _⟩ := okWide_struct ht hv
  obtain ⟨fuel, hf⟩ := h
  obtain ⟨a, hs, hw⟩ := hop H enc W fuel _ _ hf
  simp only [Value.cells] at hs
  refine ⟨a, ⟨cs, rfl, ⟨by simpa using hs.1.symm, fun j y hy => ?_⟩⟩, hw⟩
  obtain ⟨u, k1, k2⟩ := hs.2 j y hy
  exact ⟨u, by simpa using k1, k2.c⟩
/-- a single cell as an argument -/
theorem open_cell {P : Program} {t : TypeId} {H : Type} {enc : TypeId × Value → H} {W : World} {v : Value} {d : DataW H} {p : List MemPlace} {α : Type} {f : α → List SC} {wf : α → Prop} {c : α → SC} (hop : Opens P t f wf) (hc : ∀ a, f a = [c a]) (hv : v.cells = #[v]) (h : DataW.Trod enc P W 0 (fun _ => true) true t v d p) : ∃ a, VRel (rdAll W) env0 v (.c (c a)) ∧ wf a := by
  obtain ⟨fuel, hf⟩ := h
  obtain ⟨a, hs, hw⟩ := hop H enc W fuel _ _ hf
  rw [hv] at hs
  refine ⟨a, ?_, hw⟩
  obtain ⟨u, k1, k2⟩ := hs.2 0 (c a) (by rw [hc]; rfl)
  simp at k1
  subst k1
  exact k2.c
/-- an array as an argument -/
theorem open_arr {P : Program} {t e : TypeId} {n : Nat} {H : Type} {enc : TypeId × Value → H} {W : World} {v : Value} {d : DataW H} {p : List MemPlace} {r : Reach} {b0 : Nat} {α : Type} {f : α → List SC} {wf : α → Prop} (hop : Opens P t f wf) (ht : P.underlying t = some (.array n e))
    (hv : Value.okWide P W r b0 t v) (h : DataW.Trod enc P W 0 (fun _ => true) true t v d p) : ∃ a, VRel (rdAll W) env0 v (.agg (f a)) ∧ wf a := by
  simp only [Value.okWide, ht] at hv
  obtain ⟨cs, rfl, _⟩ := hv
  obtain ⟨fuel, hf⟩ := h
  obtain ⟨a, hs, hw⟩ := hop H enc W fuel _ _ hf
  simp only [Value.cells] at hs
  refine ⟨a, ⟨cs, rfl, ⟨by simpa using hs.1.symm, fun j y hy => ?_⟩⟩, hw⟩
  obtain ⟨u, k1, k2⟩ := hs.2 j y hy
  exact ⟨u, by simpa using k1, k2.c⟩
/-- a slice as an argument -/
theorem open_slc {P : Program} {t e : TypeId} {H : Type} {enc : TypeId × Value → H} {W : World} {v : Value} {d : DataW H} {p : List MemPlace} {r : Reach} {b0 : Nat} {α : Type} {sz : Nat} {f : α → List SC} {wf : List α → Prop} (hop : Opens P t (ecS sz f) wf) (ht : P.underlying t = some (.slice e))
    (hv : Value.okWide P W r b0 t v) (h : DataW.Trod enc P W 0 (fun _ => true) true t v d p) : ∃ a, VRel (rdAll W) env0 v (.c (eS sz f a)) ∧ wf a := by
  obtain ⟨a0, len, cap, rfl⟩ := okWide_slice ht hv
  exact open_cell hop (fun a => rfl) rfl h
end Go.Proofs.Ytohfnlkjdjmipaa
