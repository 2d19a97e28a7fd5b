/- The law RootSpots: its walk. -/
import Derived.Test.YtbbkgibopicaeaaRootLaw0
import Derived.Test.YtbbkgibopicaeaaSpecSpots
namespace Go.Proofs.Ytbbkgibopicaeaa
set_option linter.unusedVariables false
set_option linter.unusedSimpArgs false
open Go.RowKit

/-- A call that answers true. -/
def TruePost (w : World) (e : Ending) (w' : World) : Prop := e = .returned (.bool true) ∧ Below w.heap.size w w'

set_option maxHeartbeats 3200000 in
set_option maxRecDepth 100000 in
theorem law09_RootSpots (v : Value) (t0 : List Spot) (w : World) (h0 : Row spotE w w.heap.size v t0) : Calls Try.prog 4 #[v] w (TruePost w) := by
  have hF := hid (law09_few v t0 w h0)
  obtain ⟨A0, c0, rfl, _, _⟩ := h0.open
  clear h0
  generalize fewS t0 = t at hF
  cases hT : tabRight t with
  | false =>
    have hun := hid (show underOk t 0 = false by simp [underOk, hT])
    go_enter Try.func4, Try.ntmps4
    go_wp2_with fail
    refine hF.out.mono ?_
    rintro e w1 ⟨v1, rfl, hr1, hb1⟩
    have hR := hid (root_Right v1 t w1 hr1)
    rw [hT] at hR
    have hU := hid (fun W (hb : Below w1.heap.size w1 W) => root_Under v1 t 0 W (hr1.keep hb hb.size))
    rw [hun.out] at hU
    obtain ⟨A1, c1, rfl, _, _⟩ := hr1.open
    have hb1 := hid hb1
    clear hr1
    go_wp2_with fail
    refine hR.out.mono ?_
    rintro e w2 ⟨rfl, hb2⟩
    have hbx2 := hid hb2
    have hb2 := hid (hb1.out.trans (hb2.mono hb1.out.size))
    go_wp2_with fail
    refine (hU.out _ hbx2.out).mono ?_
    rintro e w3 ⟨v3, rfl, hr3, hb3⟩
    have hb3 := hid (hb2.out.trans (hb3.mono hb2.out.size))
    obtain ⟨A3, c3, rfl, _, _⟩ := hr3.open
    clear hr3
    go_wp2_with (go_at_call 19; refine (law09_alive _).mono ?_; rintro e w4 ⟨rfl, hb4⟩; have hb4 := hid (hb3.out.trans (hb4.mono hb3.out.size)))
    go_ret
    exact ⟨rfl, hb4.out⟩
  | true =>
    have hok := (tabRight_iff t).1 hT
    have hlen := hok.len
    have hunder := hid (fun n : Int => fun (h0 : 0 ≤ n) (h1 : n < 251) => show underOk t n = true by simp [underOk, hT, h0, h1])
    have hat := hid (fun (n : Int) (j : Nat) (hj : j < (tabUnder t n).length) => under_at hok n j hj)
    have hnext := hid (below_next t)
    have hall := hid (below_all t)
    have hzero := hid (below_zero t)
    have hbl : Hid (∀ n, below t n ≤ t.length) := fun n => List.length_filter_le _ _
    clear hok
    go_enter Try.func4, Try.ntmps4
    go_wp2_with fail
    refine hF.out.mono ?_
    rintro e w1 ⟨v1, rfl, hr1, hb1⟩
    have hR := hid (root_Right v1 t w1 hr1)
    rw [hT] at hR
    have hU := hid (fun n W (hb : Below w1.heap.size w1 W) => root_Under v1 t n W (hr1.keep hb hb.size))
    obtain ⟨A1, c1, rfl, hlc1, hcm1⟩ := hr1.open
    have hb1 := hid hb1
    have hr1 := hid hr1
    clear hT
    go_wp2_with fail
    refine hR.out.mono ?_
    rintro e w2 ⟨rfl, hb2⟩
    have hbx2 := hid hb2
    clear hb2
    go_wp2
    go_loopg [5, 33] 251 (fun g at_ i wr => ∃ n : Nat, n + g = 251 ∧ i = .int .i64 n ∧ at_ = .int .i64 (below t n) ∧ Below w1.heap.size w1 wr)
    case atStart => exact ⟨0, by omega, rfl, by rw [show ((0 : Nat) : Int) = 0 from rfl, hzero.out]; rfl, hbx2.out⟩
    case round =>
      obtain ⟨n, hn, rfl, rfl, hb⟩ := hrel
      cases gk with
      | zero =>
        have hnn : n = 251 := by omega
        subst hnn
        have hfin := hid hall.out
        go_wp2_with (go_at_call 19; refine (law09_alive _).mono ?_; rintro e w4 ⟨rfl, hb4⟩; have hb4 := hid (hb.trans (hb4.mono hb.size)))
        go_ret
        exact ⟨ret_bool (by rw [hfin.out]; simp), hb1.out.trans (hb4.out.mono hb1.out.size)⟩
      | succ g =>
        have hn0 : (0 : Int) ≤ (n : Int) := by omega
        have hn1 : (n : Int) < 251 := by omega
        have hun := hid (hunder.out n hn0 hn1)
        have hUn := hid (hU.out n wr hb)
        rw [hun.out] at hUn
        have hbz := hb.size
        go_wp2_with fail
        refine hUn.out.mono ?_
        rintro e w3 ⟨v3, rfl, hr3, hb3⟩
        have hb3 := hid (hb.trans (hb3.mono hbz))
        obtain ⟨A3, c3, rfl, hlc3, hcm3⟩ := hr3.open
        unfold maxLen at hcm3
        have hr3 := hid hr3
        simp only [if_true] at hr3 hlc3
        have hbl0 := hid hbl
        have hbn := hbl.out (n : Int)
        have hbn1 := hbl.out ((n : Int) + 1)
        have hnx := hid (hnext.out (n : Int))
        go_wp2
        go_loopg [5, 46] (tabUnder t n).length (fun g2 at_ i wr2 => ∃ j : Nat, j + g2 = (tabUnder t n).length ∧ i = .int .i64 j ∧ at_ = .int .i64 ((below t n : Int) + j) ∧ wr2 = w3)
        case atStart => exact ⟨0, by omega, rfl, by go_num, rfl⟩
        case round =>
          obtain ⟨j, hj, rfl, rfl, rfl⟩ := hrel
          cases gk with
          | zero =>
            have hjl := hid (show below t n + j = below t ((n : Int) + 1) by rw [hnx.out]; omega)
            go_wp2
            go_roundg g
            case rel => exact ⟨n + 1, by omega, by go_num, by rw [show ((n + 1 : Nat) : Int) = (n : Int) + 1 by omega, ← hjl.out]; go_num, hb3.out⟩
            case measure => omega
          | succ g2 =>
            have hjl : j < (tabUnder t n).length := by omega
            have hji : (j : Int) < ((tabUnder t n).length : Int) := by omega
            obtain ⟨hk, e1, e2, e3⟩ := hat.out (n : Int) j hjl
            obtain ⟨b, o, rfl, hbb, hc⟩ := hr3.out.int j hjl
            obtain ⟨b1, o1, A4, c4, e5, hbb1, hd0, _, _, _⟩ := (hr1.out.below hb3.out).spot (below t n + j) hk
            rw [e1] at hd0
            have hRt := hid (root_Root ((tabUnder t n)[j]) wr e3)
            rw [e2] at hRt
            subst e5
            clear e1 e2
            have q1 : ((n : Int) != (n : Int)) = false := by simp
            have q2 : ((tabUnder t n)[j] != (tabUnder t n)[j]) = false := by simp
            have q3 : (below t n : Int) + (j : Int) < (t.length : Int) := by omega
            have q4 : ((below t n : Int) + (j : Int)).toNat = below t n + j := by omega
            have q5 : (0 : Int) ≤ (below t n : Int) + (j : Int) := by omega
            go_wp2_with (go_at_call 20; refine hRt.out.mono ?_; rintro e w' ⟨rfl, rfl⟩)
            go_roundg g2
            case rel => exact ⟨j + 1, by omega, by go_num, by go_num, rfl⟩
            case measure => omega
end Go.Proofs.Ytbbkgibopicaeaa
