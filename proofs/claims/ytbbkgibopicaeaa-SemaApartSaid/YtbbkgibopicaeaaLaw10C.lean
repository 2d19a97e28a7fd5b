/- The law SemaApart: its walk. -/
import Derived.Test.YtbbkgibopicaeaaLaw10B
import Derived.Test.YtbbkgibopicaeaaSemaEq
namespace Go.Proofs.Ytbbkgibopicaeaa
set_option linter.unusedVariables false
set_option linter.unusedSimpArgs false
open Go.RowKit

theorem queN_bounds {t : List Spot} (h : t.length ≤ 64) (x : Int) : 0 ≤ queN t x ∧ queN t x ≤ 64 := by
  unfold queN
  have := List.length_filter_le (fun s => decide (0 ≤ place s.line x)) t
  omega

theorem ref09_Get_is (v : Value) (t : List Spot) (a : Int) (s : Spot) (hs : tabGet t a = s) (w : World) (h : Row spotE w w.heap.size v t) :
    Calls Try.prog 28 #[v, .int .i64 a] w (SpotPost s w) := by
  subst hs
  exact ref09_Get v t a w h

set_option maxHeartbeats 3200000 in
set_option maxRecDepth 100000 in
theorem law10_SemaApart (v : Value) (t0 : List Spot) (addr other who : Int) (fst : Bool) (w : World) (h0 : Row spotE w w.heap.size v t0) :
    Calls Try.prog 10 #[v, .int .i64 addr, .int .i64 other, .int .i64 who, .bool fst] w (TruePost w) := by
  have hF := hid (law10_few v t0 w h0)
  obtain ⟨A0, c0, rfl, _, _⟩ := h0.open
  clear h0
  generalize fewS t0 = T at hF
  go_enter Try.func10, Try.ntmps10
  go_wp2_with fail
  refine hF.out.mono ?_
  rintro e w1 ⟨v1, rfl, hr1, hb1⟩
  have hbw := hid hb1
  clear hb1
  have hT := hid (fun W (hb : Below w1.heap.size w1 W) => hr1.keep hb hb.size)
  have hR := hid (sema_Release v1 T addr w1 hr1)
  obtain ⟨A1, c1, rfl, _, _⟩ := hr1.open
  clear hr1
  go_wp2_with fail
  refine hR.out.mono ?_
  rintro e w2 ⟨v2, rfl, hr2, hb2⟩
  obtain ⟨A2, c2, rfl, _, _⟩ := hr2.open
  have hb2h := hid hb2
  have hAr := hid (fun W (hb : Below w2.heap.size w2 W) => hr2.keep hb hb.size)
  have hT2 := hid (fun W (hb : Below w2.heap.size w2 W) => hT.out W (below_step hb2h.out hb))
  have hbw2 := hid (hbw.out.trans (hb2.mono hbw.out.size))
  clear hr2 hb2 hF hR hT hbw
  by_cases he : relE T addr = 0
  · have he' : (relE T addr != 0) = false := by simp [he]
    have hrel := rel_ok he
    have hk := hrel.kp
    have hnext := hid (rel_next he)
    have hback := hid (fun hx hw f => rel_back (who := hw) (f := f) he hx)
    obtain ⟨A, hA⟩ : ∃ A, relL T addr = A := ⟨_, rfl⟩
    obtain ⟨x, hx⟩ : ∃ x, relW T addr = x := ⟨_, rfl⟩
    rw [hA, hx] at hnext
    rw [hA, hx] at hback
    rw [hA] at hk hAr ⊢
    rw [hx]
    have hRA := hid ((tabRight_iff A).2 hk.ok)
    have hqT := hid (fun y => queN_bounds hk.tab.len y)
    have hoth := hid (show addr ≠ other → tabGet A other = tabGet T other by
      intro hne
      rw [hk.get, relS_addr, getS_tab hrel.ok, tabGet_addr, if_neg (fun e => hne e.symm)])
    clear he hrel hk hA hx
    go_upto_region 5 with fail
    go_cut [54] from 38 to 54 (fun y W => y = .bool false ∧ Below w2.heap.size w2 W)
    case first =>
      by_cases hne : addr = other
      · have hne' : (addr != other) = false := by simp [hne]
        replace hne := hid hne
        go_wp2_with fail
        go_meet
        exact ⟨rfl, Below.refl _ _⟩
      · have hne' : (addr != other) = true := by simp [hne]
        have heq := hid (hoth.out hne)
        replace hne := hid hne
        have hRt := hid (fun W (hb : Below w2.heap.size w2 W) => ref09_Right _ A W (hAr.out W hb))
        rw [hRA.out] at hRt
        obtain ⟨s, hs⟩ : ∃ s, tabGet T other = s := ⟨_, rfl⟩
        have hG1 := hid (fun W (hb : Below w2.heap.size w2 W) => ref09_Get_is _ A other s (heq.out.trans hs) W (hAr.out W hb))
        have hG2 := hid (fun W (hb : Below w2.heap.size w2 W) => ref09_Get_is _ T other s hs W (hT2.out W hb))
        clear hs heq
        go_wp2_with fail
        refine (hRt.out _ (Below.refl _ _)).mono ?_
        rintro e w3 ⟨rfl, hb3⟩
        have hb3 := hid hb3
        go_wp2_with fail
        refine (hG1.out _ hb3.out).mono ?_
        rintro e w4 ⟨v4, rfl, hr4, hb4⟩
        obtain ⟨A4, c4, rfl, _, _⟩ := hr4.open
        have hr4 := hid hr4
        have hc4 := hid hb4
        have hb4 := hid (below_step hb3.out hb4)
        go_wp2_with fail
        refine (hG2.out _ hb4.out).mono ?_
        rintro e w5 ⟨v5, rfl, hr5, hb5⟩
        obtain ⟨A5, c5, rfl, _, _⟩ := hr5.open
        have hr4 := hid (hr4.out.keep hb5 hb5.size)
        have hr5 := hid hr5
        have hb5 := hid (below_step hb4.out hb5)
        have hSp := hid (ref09_Spots s s _ _ w5 hr4.out hr5.out)
        rw [decide_eq_true rfl] at hSp
        go_wp2_with fail
        refine hSp.out.mono ?_
        rintro e w6 ⟨rfl, hb6⟩
        have hb6 := hid (below_step hb5.out hb6)
        go_wp2_with fail
        go_meet
        exact ⟨rfl, hb6.out⟩
    case rest =>
      obtain ⟨rfl, hcut⟩ := hcut
      have hC := hid hcut
      clear hcut hoth
      by_cases hx : x = -1
      · have hx' : (x != -1) = false := by simp [hx]
        have hbk := hid (hback.out hx)
        clear hx hnext hback
        by_cases hw : who < 0
        · have hb0 := hid (hbk.out 0 fst (by omega))
          have hAc := hid (fun W (hb : Below w2.heap.size w2 W) => sema_Acquire _ A addr 0 fst W (hAr.out W hb))
          rw [hb0.out.1, hb0.out.2.1, hb0.out.2.2] at hAc
          go_wp2_with fail
          refine (hAc.out _ hC.out).mono ?_
          rintro e w3 ⟨v3, rfl, hr3, hb3⟩
          obtain ⟨A3, c3, rfl, _, _⟩ := hr3.open
          have hr3 := hid hr3
          have hb3 := hid (below_step hC.out hb3)
          go_wp2_with fail
          refine (law10_alive _).mono ?_
          rintro e w4 ⟨rfl, hb4⟩
          have hr4 := hid (hr3.out.keep hb4 hb4.size)
          have hb4 := hid (below_step hb3.out hb4)
          have hSm := hid (ref09_Same _ _ T T w4 hr4.out (hT2.out _ hb4.out))
          rw [decide_eq_true rfl] at hSm
          go_wp2_with (go_at_call 33; refine hSm.out.mono ?_; rintro e w5 ⟨rfl, hb5⟩; have hb5 := hid (below_step hb4.out hb5))
          go_ret
          exact ⟨rfl, hbw2.out.trans (hb5.out.mono hbw2.out.size)⟩
        · have hb0 := hid (hbk.out who fst (by omega))
          have hAc := hid (fun W (hb : Below w2.heap.size w2 W) => sema_Acquire _ A addr who fst W (hAr.out W hb))
          rw [hb0.out.1, hb0.out.2.1, hb0.out.2.2] at hAc
          go_wp2_with fail
          refine (hAc.out _ hC.out).mono ?_
          rintro e w3 ⟨v3, rfl, hr3, hb3⟩
          obtain ⟨A3, c3, rfl, _, _⟩ := hr3.open
          have hr3 := hid hr3
          have hb3 := hid (below_step hC.out hb3)
          go_wp2_with fail
          refine (law10_alive _).mono ?_
          rintro e w4 ⟨rfl, hb4⟩
          have hr4 := hid (hr3.out.keep hb4 hb4.size)
          have hb4 := hid (below_step hb3.out hb4)
          have hSm := hid (ref09_Same _ _ T T w4 hr4.out (hT2.out _ hb4.out))
          rw [decide_eq_true rfl] at hSm
          go_wp2_with (go_at_call 33; refine hSm.out.mono ?_; rintro e w5 ⟨rfl, hb5⟩; have hb5 := hid (below_step hb4.out hb5))
          go_ret
          exact ⟨rfl, hbw2.out.trans (hb5.out.mono hbw2.out.size)⟩
      · have hx' : (x != -1) = true := by simp [hx]
        have hn := hid (hnext.out hx)
        have hq := hqT.out x
        have hq1 := hq.1
        have hq2 := hq.2
        have hQ1 := hid (fun W (hb : Below w2.heap.size w2 W) => sema_Queued _ T x W (hT2.out W hb))
        have hQ2 := hid (fun W (hb : Below w2.heap.size w2 W) => sema_Queued _ A x W (hAr.out W hb))
        have e1 : queE T x = 0 ∧ queR T x = queN T x := by unfold queE queR; rw [hn.out.2.1]; exact ⟨rfl, rfl⟩
        have e2 : queE A x = 0 ∧ queR A x = queN T x - 1 := by unfold queE queR; rw [hn.out.2.2.1, hn.out.2.2.2]; exact ⟨rfl, rfl⟩
        rw [e1.1, e1.2] at hQ1
        rw [e2.1, e2.2] at hQ2
        generalize queN T x = q at hQ1 hQ2 hq1 hq2
        clear hx hq e1 e2 hn hnext hback
        go_wp2_with fail
        refine (hQ1.out _ hC.out).mono ?_
        rintro e w3 ⟨rfl, hb3⟩
        have hb3 := hid (below_step hC.out hb3)
        go_wp2_with fail
        refine (hQ2.out _ hb3.out).mono ?_
        rintro e w4 ⟨rfl, hb4⟩
        have hb4 := hid (below_step hb3.out hb4)
        have hqq : (q - 1 == q - 1) = true := by simp
        go_wp2_with (go_at_call 39; refine (law10_alive _).mono ?_; rintro e w5 ⟨rfl, hb5⟩; have hb5 := hid (below_step hb4.out hb5))
        go_ret
        exact ⟨rfl, hbw2.out.trans (hb5.out.mono hbw2.out.size)⟩
  · have he' : (relE T addr != 0) = true := by simp [he]
    have hl : (((relL T addr).length : Int) == 0) = true := by unfold relL; rw [if_neg he]; rfl
    clear he
    go_wp2_with (go_at_call 39; refine (law10_alive _).mono ?_; rintro e w3 ⟨rfl, hb3⟩; have hb3 := hid hb3)
    go_ret
    exact ⟨rfl, hbw2.out.trans (hb3.out.mono hbw2.out.size)⟩
end Go.Proofs.Ytbbkgibopicaeaa
