/- Layer 9 of the program: what each function answers at whatever it is asked. -/
import Derived.Test.YtbbkgibopicaeaaRootLaw1
namespace Go.Proofs.Ytbbkgibopicaeaa
set_option linter.unusedVariables false
set_option linter.unusedSimpArgs false
open Go.RowKit

def rootR (a : Int) : Int := if isAddr a = true then rootOf a else 0
def rootE (a : Int) : Int := if isAddr a = true then 0 else 1
def getS (t : List Spot) (a : Int) : Spot := if getOk t a = true then tabGet t a else ⟨0, 0, []⟩
def getE (t : List Spot) (a : Int) : Int := if getOk t a = true then 0 else 1
def undL (t : List Spot) (n : Int) : List Int := if underOk t n = true then tabUnder t n else []
def undE (t : List Spot) (n : Int) : Int := if underOk t n = true then 0 else 1

theorem root_Root_any (n : Int) (w : World) :
    Calls Try.prog 20 #[.int .i64 n] w fun e w' => e = .returned (.tuple #[.int .i64 (rootR n), .int .i64 (rootE n)]) ∧ w = w' := by
  cases h : isAddr n with
  | true =>
    have := root_Root n w h
    rwa [show rootOf n = rootR n by simp [rootR, h], show (0 : Int) = rootE n by simp [rootE, h]] at this
  | false =>
    have := root_Root_bad n w h
    have e1 : rootR n = 0 := by simp [rootR, h]
    have e2 : rootE n = 1 := by simp [rootE, h]
    rw [e1, e2]
    exact this

theorem root_Get_any (v : Value) (t : List Spot) (a : Int) (w : World) (h : Row spotE w w.heap.size v t) :
    Calls Try.prog 22 #[v, .int .i64 a] w (SpotErrPost (getS t a) (getE t a) w) := by
  unfold getS getE
  cases hok : getOk t a with
  | true => simpa using root_Get v t a w h hok
  | false => simpa using root_Get_bad v t a w h hok

theorem root_Under_any (v : Value) (t : List Spot) (root : Int) (w : World) (h : Row spotE w w.heap.size v t) :
    Calls Try.prog 18 #[v, .int .i64 root] w (RowErrPost intE (undL t root) (undE t root) w) := root_Under v t root w h
end Go.Proofs.Ytbbkgibopicaeaa
