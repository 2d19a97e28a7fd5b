/- Layer 10: what is asked for, and granted: the plain functions. -/
import Derived.Test.YtbbkgibopicaeaaRootFun
import Derived.Test.YtbbkgibopicaeaaSpecSet2
namespace Go.Proofs.Ytbbkgibopicaeaa
set_option linter.unusedVariables false
set_option linter.unusedSimpArgs false

def acqS (s : Spot) (who : Int) (first : Bool) : Spot := if 0 < s.count then ⟨s.addr, s.count - 1, s.line⟩ else ⟨s.addr, s.count, pushL s.line who first⟩
def acqE (t : List Spot) (a who : Int) (first : Bool) : Int :=
  if ¬ getE t a = 0 ∨ who < 0 then 1
  else if 0 ≤ place (getS t a).line who then 7
  else if ¬ 0 < (getS t a).count ∧ ¬ pushE (getS t a).line who first = 0 then pushE (getS t a).line who first
  else setErr t (acqS (getS t a) who first)
def acqL (t : List Spot) (a who : Int) (first : Bool) : List Spot := if acqE t a who first = 0 then setRow t (acqS (getS t a) who first) else []
def acqT (t : List Spot) (a who : Int) (first : Bool) : Bool := if acqE t a who first = 0 then decide (0 < (getS t a).count) else false

def relS (s : Spot) : Spot := if popE s.line = 0 then ⟨s.addr, s.count, s.line.tail⟩ else ⟨s.addr, s.count + 1, s.line⟩
def relE (t : List Spot) (a : Int) : Int :=
  if ¬ getE t a = 0 then 1
  else if ¬ popE (getS t a).line = 0 ∧ (getS t a).count = 2147483647 then 10
  else setErr t (relS (getS t a))
def relL (t : List Spot) (a : Int) : List Spot := if relE t a = 0 then setRow t (relS (getS t a)) else []
def relW (t : List Spot) (a : Int) : Int := if relE t a = 0 then (if popE (getS t a).line = 0 then (getS t a).line.headD 0 else -1) else 0

def queOk (t : List Spot) (who : Int) : Bool := tabRight t && decide (0 ≤ who)
def queN (t : List Spot) (who : Int) : Int := ((t.filter fun s => decide (0 ≤ place s.line who)).length : Nat)

theorem getS_line (t : List Spot) (a : Int) : (getS t a).line.length ≤ 64 := by
  unfold getS
  split
  · rename_i h
    unfold getOk at h
    rw [Bool.and_eq_true] at h
    have hok := (tabRight_iff t).1 h.1
    rcases tabGet_or t a with ⟨h1, _⟩ | ⟨_, h2⟩
    · have := (hok.each _ h1).1
      unfold spotRight at this
      simp only [Bool.and_eq_true] at this
      have hl := this.1.2
      unfold lineRight at hl
      simp only [decide_eq_true_eq] at hl
      exact hl.2.2
    · rw [h2]; simp
  · simp

theorem getS_count (t : List Spot) (a : Int) : 0 ≤ (getS t a).count ∧ (getS t a).count ≤ 2147483647 := by
  unfold getS
  split
  · rename_i h
    unfold getOk at h
    rw [Bool.and_eq_true] at h
    have hok := (tabRight_iff t).1 h.1
    rcases tabGet_or t a with ⟨h1, _⟩ | ⟨_, h2⟩
    · have := (hok.each _ h1).1
      unfold spotRight at this
      simp only [Bool.and_eq_true, decide_eq_true_eq] at this
      exact ⟨this.1.1.1.2, this.1.1.2⟩
    · rw [h2]; simp
  · simp
end Go.Proofs.Ytbbkgibopicaeaa
