/-
  The backoff, in plain words.
-/
import Derived.WalkKit
namespace Go.Proofs.Ytohhaibbbnobpaa
open Go.RowKit

structure Bk where
  st : Int
  bu : Int
  ex : Int
  cl : Int
  wt : Int
def Bk.agg (s : Bk) : Value := .agg #[.int .i64 s.st, .int .i64 s.bu, .int .i64 s.ex, .int .i64 s.cl, .int .i64 s.wt]
def expB (b : Int) : Int := min (3 + b) 5
/-- 8.1 -/
def Bk.Valid (s : Bk) : Prop := 0 ≤ s.bu ∧ s.bu ≤ 5 ∧ s.ex = min (3 + s.bu) 5 ∧
  ((s.st = 4 ∧ s.bu = 5 ∧ s.cl = 2 ∧ s.wt = 0) ∨
   (s.bu ≤ 4 ∧ ((s.st = 1 ∧ s.cl = 2 ∧ 1 ≤ s.wt ∧ ((s.ex = 3 ∧ s.wt < 8) ∨ (s.ex = 4 ∧ s.wt < 16) ∨ (s.ex = 5 ∧ s.wt < 32))) ∨
     (s.st = 2 ∧ 1 ≤ s.cl ∧ s.cl ≤ 2 ∧ s.wt = 0) ∨ (s.st = 3 ∧ s.cl = 0 ∧ s.wt = 0))))
instance (s : Bk) : Decidable s.Valid := by unfold Bk.Valid; infer_instance
def validB (s : Bk) : Bool := decide s.Valid
def endedB (s : Bk) : Bool := decide (s.Valid ∧ (s.st = 3 ∨ s.st = 4))

def powE (ex : Int) : Int := if ex = 3 then 8 else if ex = 4 then 16 else 32
/-- 8.2 -/
def Bk.drawn (s : Bk) (d : Int) : Bk := ⟨if d % powE s.ex = 0 then 2 else 1, s.bu, s.ex, 2, d % powE s.ex⟩
def beginB (d : Int) : Bk := Bk.drawn ⟨0, 0, 3, 0, 0⟩ d
def Bk.sense (s : Bk) (busy : Bool) (d : Int) : Bk :=
  if busy then (if s.bu + 1 ≤ 4 then Bk.drawn ⟨s.st, s.bu + 1, expB (s.bu + 1), s.cl, s.wt⟩ d else ⟨4, s.bu + 1, expB (s.bu + 1), 2, s.wt⟩)
  else ⟨if s.cl - 1 = 0 then 3 else s.st, s.bu, s.ex, s.cl - 1, s.wt⟩
/-- 8.3 -/
def Bk.step (s : Bk) (busy : Bool) (d : Int) : Bk :=
  if validB s then
    (if s.st = 1 then ⟨if s.wt - 1 = 0 then 2 else s.st, s.bu, s.ex, s.cl, s.wt - 1⟩ else if s.st = 2 then s.sense busy d else s)
  else ⟨0, 0, 0, 0, 0⟩
end Go.Proofs.Ytohhaibbbnobpaa
