/- Layer 9 of the program: a root's addresses; a spot is got. -/
import Derived.Test.YtbbkgibopicaeaaRootTree
import Derived.Test.YtbbkgibopicaeaaR09b
namespace Go.Proofs.Ytbbkgibopicaeaa
set_option linter.unusedVariables false
set_option linter.unusedSimpArgs false
open Go.RowKit

def underOk (t : List Spot) (root : Int) : Bool := tabRight t && decide (0 ≤ root) && decide (root < 251)

set_option maxHeartbeats 1600000 in
theorem root_Under (v : Value) (t : List Spot) (root : Int) (w : World) (h : Row spotE w w.heap.size v t) :
    Calls Try.prog 18 #[v, .int .i64 root] w (RowErrPost intE (if underOk t root = true then tabUnder t root else []) (if underOk t root = true then 0 else 1) w) := by
  have H := hid h
  have hR := hid (fun W (hb : Below w.heap.size w W) => root_Right v t W (H.out.keep hb hb.size))
  clear h
  by_cases hT : tabRight t = true
  · by_cases h1 : 0 ≤ root
    · by_cases h2 : root < 251
      · have hok := hid (show underOk t root = true by simp [underOk, hT, h1, h2])
        have hTr := hid (fun W (hb : Below w.heap.size w W) => root_tree t v root W hT (H.out.keep hb hb.size))
        rw [hok.out, if_pos rfl, if_pos rfl]
        obtain ⟨A, c, rfl, _, _⟩ := H.out.open
        go_enter Try.func18, Try.ntmps18
        go_wp2_with (first
          | (go_at_call 17; refine (hR.out _ (by repeat (first | assumption | exact Below.refl _ _ | refine bdrawN ?_ _ | refine Below.drew ?_ | refine Below.alloc ?_ (by (try simp) <;> omega) _ | refine Below.setCell ?_ (by (try simp) <;> omega) _))).mono ?_; rintro e w1 ⟨rfl, hb1⟩; have hb1 := hid hb1)
          | (go_at_call 54; refine (hTr.out _ hb1.out).mono ?_; rintro e w2 ⟨ns, T, v2, rfl, hok2, hk2, hr2, hb2⟩; have hb2 := hid (hb1.out.trans (hb2.mono hb1.out.size)); have hok2 := hid hok2; have hk2 := hid hk2; have hr2 := hid hr2)
          | (go_at_call 53; refine (treap_Keys ns T v2 _ hok2.out hr2.out).mono ?_; rintro e w3 ⟨v3, rfl, hr3, hb3⟩; have hb3 := hid (hb2.out.trans (hb3.mono hb2.out.size)); have hr3 := hid hr3))
        exact bodyPost_ret (v := .tuple #[v3, .int .i64 0]) (by simp [results, Try.results18, go_sem]) rfl ⟨_, rfl, by rw [← hk2.out]; exact hr3.out, hb3.out⟩
      · have hok := hid (show underOk t root = false by simp [underOk]; omega)
        rw [hok.out]
        obtain ⟨A, c, rfl, _, _⟩ := H.out.open
        go_enter Try.func18, Try.ntmps18
        go_wp2_with (go_at_call 17; refine (hR.out _ (by repeat (first | assumption | exact Below.refl _ _ | refine bdrawN ?_ _ | refine Below.drew ?_ | refine Below.alloc ?_ (by (try simp) <;> omega) _ | refine Below.setCell ?_ (by (try simp) <;> omega) _))).mono ?_; rintro e w1 ⟨rfl, hb1⟩; have hb1 := hid hb1)
        exact bodyPost_ret (v := .tuple #[.slice none 0 0, .int .i64 1]) (by simp [results, Try.results18, go_sem]) rfl (errNil rfl rfl hb1.out)
    · have hok := hid (show underOk t root = false by simp [underOk]; omega)
      rw [hok.out]
      obtain ⟨A, c, rfl, _, _⟩ := H.out.open
      go_enter Try.func18, Try.ntmps18
      go_wp2_with (go_at_call 17; refine (hR.out _ (by repeat (first | assumption | exact Below.refl _ _ | refine bdrawN ?_ _ | refine Below.drew ?_ | refine Below.alloc ?_ (by (try simp) <;> omega) _ | refine Below.setCell ?_ (by (try simp) <;> omega) _))).mono ?_; rintro e w1 ⟨rfl, hb1⟩; have hb1 := hid hb1)
      exact bodyPost_ret (v := .tuple #[.slice none 0 0, .int .i64 1]) (by simp [results, Try.results18, go_sem]) rfl (errNil rfl rfl hb1.out)
  · have hT : tabRight t = false := by simpa using hT
    have hok := hid (show underOk t root = false by simp [underOk, hT])
    rw [hok.out]
    obtain ⟨A, c, rfl, _, _⟩ := H.out.open
    go_enter Try.func18, Try.ntmps18
    go_wp2_with (go_at_call 17; refine (hR.out _ (by repeat (first | assumption | exact Below.refl _ _ | refine bdrawN ?_ _ | refine Below.drew ?_ | refine Below.alloc ?_ (by (try simp) <;> omega) _ | refine Below.setCell ?_ (by (try simp) <;> omega) _))).mono ?_; rintro e w1 ⟨rfl, hb1⟩; have hb1 := hid hb1)
    exact bodyPost_ret (v := .tuple #[.slice none 0 0, .int .i64 1]) (by simp [results, Try.results18, go_sem]) rfl (errNil rfl rfl hb1.out)
end Go.Proofs.Ytbbkgibopicaeaa
