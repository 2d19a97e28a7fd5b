/- The laws of layer 10: what they cut, and their sign of life. -/
/- The law SemaTells: its walk. -/
import Derived.Test.YtbbkgibopicaeaaSemaB
import Derived.Test.YtbbkgibopicaeaaSemaC
import Derived.Test.YtbbkgibopicaeaaRootLaw2
import Derived.Test.YtbbkgibopicaeaaSemaEq
namespace Go.Proofs.Ytbbkgibopicaeaa
set_option linter.unusedVariables false
set_option linter.unusedSimpArgs false
open Go.RowKit

set_option maxHeartbeats 3200000 in
theorem law10_few (v : Value) (t : List Spot) (w : World) (h : Row spotE w w.heap.size v t) :
    Calls Try.prog 40 #[v] w (RowPost spotE (fewS t) w) := by
  obtain ⟨A, c, rfl, hlc, hcm⟩ := h.open
  unfold maxLen at hcm
  have H := hid h
  clear h
  obtain ⟨m, hm, hmt⟩ : ∃ m, m = min t.length 70 ∧ m ≤ t.length := ⟨_, rfl, Nat.min_le_left _ _⟩
  have hm70 : m ≤ 70 := by omega
  have hT := hid (show fewS t = (t.take m).map cutS by
    unfold fewS
    rcases Nat.le_total t.length 70 with h | h
    · rw [hm, Nat.min_eq_left h, List.take_of_length_le h, List.take_length]
    · rw [hm, Nat.min_eq_right h])
  have hmin : Hid (m = min t.length 70) := hm
  have key : ∀ X, fewS t = X → Calls Try.prog 40 #[.slice A t.length c] w (RowPost spotE X w) := by
    intro X hX
    have hX := hid hX
    clear hm
    by_cases hle : t.length ≤ 70
    · have e : m = t.length := by have := hmin.out; omega
      subst e
      clear hmin
      go_enter Try.func40, Try.ntmps40
      go_wp2
      have hmm : t.length ≤ t.length := Nat.le_refl _
      go_loopg [3, 12] t.length (fun g o i wr => ∃ k A1 c1, k + g = t.length ∧ i = .int .i64 (k : Nat) ∧ o = .slice A1 k c1 ∧ Hid (Own spotE 42 wr w.heap.size o ((t.take k).map cutS)) ∧ Below w.heap.size w wr)
      case atStart => exact ⟨0, _, 0, by omega, rfl, rfl, Own.nil _ _ _ _, Below.refl _ _⟩
      case round =>
        obtain ⟨k, A1, c1, hk, rfl, rfl, hown, hb⟩ := hrel
        cases gk with
        | zero =>
          have hkl := hid (show k = t.length by omega)
          go_wp2
          go_ret
          have e := hkl.out
          subst e
          exact ⟨_, rfl, by rw [← hX.out, hT.out]; exact hown.out.row hb.size, hb⟩
        | succ g =>
          have hlt : k < t.length := by omega
          have hki : (k : Int) < ((t.length : Nat) : Int) := by omega
          have hkt : (k : Int) < (t.length : Int) := by omega
          obtain ⟨b, o, A2, c2, rfl, hbb, hc0, hc1, hc2, hrow⟩ := H.out.spot k hlt
          have hc0 := (hb.cell (p := ⟨b, _, none⟩) hbb).trans hc0
          have hc1 := (hb.cell (p := ⟨b, _, none⟩) hbb).trans hc1
          have hc2 := (hb.cell (p := ⟨b, _, none⟩) hbb).trans hc2
          have hlc2 := hrow.len_eq.2.1
          have hcm2 := hrow.len_eq.2.2.1
          unfold maxLen at hcm2
          have hrow := hid hrow
          have hbz := hb.size
          have hsn := hid (fewS_snoc t k hlt)
          by_cases hl : t[k].line.length ≤ 70
          · have hm := hid (show (cutS t[k]).line = t[k].line.take t[k].line.length by rw [List.take_length]; exact List.take_of_length_le hl)
            have hok := hid (fun (W : World) (hW : Below w.heap.size w W) => show spotE.ok W w.heap.size (cutS t[k]) [.int .i64 t[k].addr, .int .i64 t[k].count, .slice A2 (t[k].line.length) c2] from ⟨_, rfl, by rw [hm.out]; exact (hrow.out.keep hW (Nat.le_refl _)).take (t[k].line.length) (Nat.le_refl _)⟩)
            go_wp2_with (at_builtin; refine wpList_app1 spotE 33 42 (.agg #[.int .i64 0, .int .i64 0, .slice none 0 0]) 40 Try.underlying33 info_spot rfl (by decide) (.tmp 24) (.tmp 26) w.heap.size ((t.take k).map cutS) (cutS t[k]) ((t.take (k + 1)).map cutS) (k + 1) hsn.out.symm (by simp; omega) _ ((hown.out.alloc hbz _).alloc (by simp; omega) _) rfl _ 1 rfl [.int .i64 t[k].addr, .int .i64 t[k].count, .slice A2 (t[k].line.length) c2] (hok.out _ ((hb.alloc hbz _).alloc (by simp; omega) _)) (cell_new _ _ (by simp) _ _) rfl rfl (by simp; omega) (by simp; omega) (by simp; omega) ?_; intro A3 c3 w3 hown3 hb3 _ _; have HO3 := hid hown3; clear hown3)
            go_roundg g
            case rel => exact ⟨k + 1, A3, c3, by omega, by go_num, rfl, HO3.out, ((hb.alloc hbz _).alloc (by simp; omega) _).trans hb3⟩
            case measure => omega
          · have h70' : (70 : Int) ≤ (t[k].line.length : Int) := by omega
            have hm := hid (show (cutS t[k]).line = t[k].line.take 70 from rfl)
            have hok := hid (fun (W : World) (hW : Below w.heap.size w W) => show spotE.ok W w.heap.size (cutS t[k]) [.int .i64 t[k].addr, .int .i64 t[k].count, .slice A2 (70) c2] from ⟨_, rfl, by rw [hm.out]; exact (hrow.out.keep hW (Nat.le_refl _)).take (70) (by omega)⟩)
            go_wp2_with (at_builtin; refine wpList_app1 spotE 33 42 (.agg #[.int .i64 0, .int .i64 0, .slice none 0 0]) 40 Try.underlying33 info_spot rfl (by decide) (.tmp 24) (.tmp 26) w.heap.size ((t.take k).map cutS) (cutS t[k]) ((t.take (k + 1)).map cutS) (k + 1) hsn.out.symm (by simp; omega) _ ((hown.out.alloc hbz _).alloc (by simp; omega) _) rfl _ 1 rfl [.int .i64 t[k].addr, .int .i64 t[k].count, .slice A2 (70) c2] (hok.out _ ((hb.alloc hbz _).alloc (by simp; omega) _)) (cell_new _ _ (by simp) _ _) rfl rfl (by simp; omega) (by simp; omega) (by simp; omega) ?_; intro A3 c3 w3 hown3 hb3 _ _; have HO3 := hid hown3; clear hown3)
            go_roundg g
            case rel => exact ⟨k + 1, A3, c3, by omega, by go_num, rfl, HO3.out, ((hb.alloc hbz _).alloc (by simp; omega) _).trans hb3⟩
            case measure => omega
    · have e : m = 70 := by have := hmin.out; omega
      subst e
      clear hmin
      have h70 : (70 : Int) ≤ (t.length : Int) := by omega
      have hmm : 70 ≤ t.length := hmt
      go_enter Try.func40, Try.ntmps40
      go_wp2
      go_loopg [3, 12] 70 (fun g o i wr => ∃ k A1 c1, k + g = 70 ∧ i = .int .i64 (k : Nat) ∧ o = .slice A1 k c1 ∧ Hid (Own spotE 42 wr w.heap.size o ((t.take k).map cutS)) ∧ Below w.heap.size w wr)
      case atStart => exact ⟨0, _, 0, by omega, rfl, rfl, Own.nil _ _ _ _, Below.refl _ _⟩
      case round =>
        obtain ⟨k, A1, c1, hk, rfl, rfl, hown, hb⟩ := hrel
        cases gk with
        | zero =>
          have hkl := hid (show k = 70 by omega)
          go_wp2
          go_ret
          have e := hkl.out
          subst e
          exact ⟨_, rfl, by rw [← hX.out, hT.out]; exact hown.out.row hb.size, hb⟩
        | succ g =>
          have hlt : k < t.length := by omega
          have hki : (k : Int) < ((70 : Nat) : Int) := by omega
          have hkt : (k : Int) < (t.length : Int) := by omega
          obtain ⟨b, o, A2, c2, rfl, hbb, hc0, hc1, hc2, hrow⟩ := H.out.spot k hlt
          have hc0 := (hb.cell (p := ⟨b, _, none⟩) hbb).trans hc0
          have hc1 := (hb.cell (p := ⟨b, _, none⟩) hbb).trans hc1
          have hc2 := (hb.cell (p := ⟨b, _, none⟩) hbb).trans hc2
          have hlc2 := hrow.len_eq.2.1
          have hcm2 := hrow.len_eq.2.2.1
          unfold maxLen at hcm2
          have hrow := hid hrow
          have hbz := hb.size
          have hsn := hid (fewS_snoc t k hlt)
          by_cases hl : t[k].line.length ≤ 70
          · have hm := hid (show (cutS t[k]).line = t[k].line.take t[k].line.length by rw [List.take_length]; exact List.take_of_length_le hl)
            have hok := hid (fun (W : World) (hW : Below w.heap.size w W) => show spotE.ok W w.heap.size (cutS t[k]) [.int .i64 t[k].addr, .int .i64 t[k].count, .slice A2 (t[k].line.length) c2] from ⟨_, rfl, by rw [hm.out]; exact (hrow.out.keep hW (Nat.le_refl _)).take (t[k].line.length) (Nat.le_refl _)⟩)
            go_wp2_with (at_builtin; refine wpList_app1 spotE 33 42 (.agg #[.int .i64 0, .int .i64 0, .slice none 0 0]) 40 Try.underlying33 info_spot rfl (by decide) (.tmp 24) (.tmp 26) w.heap.size ((t.take k).map cutS) (cutS t[k]) ((t.take (k + 1)).map cutS) (k + 1) hsn.out.symm (by simp; omega) _ ((hown.out.alloc hbz _).alloc (by simp; omega) _) rfl _ 1 rfl [.int .i64 t[k].addr, .int .i64 t[k].count, .slice A2 (t[k].line.length) c2] (hok.out _ ((hb.alloc hbz _).alloc (by simp; omega) _)) (cell_new _ _ (by simp) _ _) rfl rfl (by simp; omega) (by simp; omega) (by simp; omega) ?_; intro A3 c3 w3 hown3 hb3 _ _; have HO3 := hid hown3; clear hown3)
            go_roundg g
            case rel => exact ⟨k + 1, A3, c3, by omega, by go_num, rfl, HO3.out, ((hb.alloc hbz _).alloc (by simp; omega) _).trans hb3⟩
            case measure => omega
          · have h70' : (70 : Int) ≤ (t[k].line.length : Int) := by omega
            have hm := hid (show (cutS t[k]).line = t[k].line.take 70 from rfl)
            have hok := hid (fun (W : World) (hW : Below w.heap.size w W) => show spotE.ok W w.heap.size (cutS t[k]) [.int .i64 t[k].addr, .int .i64 t[k].count, .slice A2 (70) c2] from ⟨_, rfl, by rw [hm.out]; exact (hrow.out.keep hW (Nat.le_refl _)).take (70) (by omega)⟩)
            go_wp2_with (at_builtin; refine wpList_app1 spotE 33 42 (.agg #[.int .i64 0, .int .i64 0, .slice none 0 0]) 40 Try.underlying33 info_spot rfl (by decide) (.tmp 24) (.tmp 26) w.heap.size ((t.take k).map cutS) (cutS t[k]) ((t.take (k + 1)).map cutS) (k + 1) hsn.out.symm (by simp; omega) _ ((hown.out.alloc hbz _).alloc (by simp; omega) _) rfl _ 1 rfl [.int .i64 t[k].addr, .int .i64 t[k].count, .slice A2 (70) c2] (hok.out _ ((hb.alloc hbz _).alloc (by simp; omega) _)) (cell_new _ _ (by simp) _ _) rfl rfl (by simp; omega) (by simp; omega) (by simp; omega) ?_; intro A3 c3 w3 hown3 hb3 _ _; have HO3 := hid hown3; clear hown3)
            go_roundg g
            case rel => exact ⟨k + 1, A3, c3, by omega, by go_num, rfl, HO3.out, ((hb.alloc hbz _).alloc (by simp; omega) _).trans hb3⟩
            case measure => omega
  exact key _ rfl

theorem alive10_a : acqE [] 8 4 false = 0 ∧ acqL [] 8 4 false = [⟨8, 0, [4]⟩] ∧ acqT [] 8 4 false = false := by decide +kernel
theorem alive10_b : acqE [⟨8, 0, [4]⟩] 8 2 true = 0 ∧ acqL [⟨8, 0, [4]⟩] 8 2 true = [⟨8, 0, [2, 4]⟩] ∧ acqT [⟨8, 0, [4]⟩] 8 2 true = false := by decide +kernel
theorem alive10_c : relE [⟨8, 0, [2, 4]⟩] 8 = 0 ∧ relL [⟨8, 0, [2, 4]⟩] 8 = [⟨8, 0, [4]⟩] ∧ relW [⟨8, 0, [2, 4]⟩] 8 = 2 := by decide +kernel

theorem law10_alive (w : World) : Calls Try.prog 39 #[] w fun e w' => e = .returned (.bool true) ∧ Below w.heap.size w w' := by
  have h1 := hid (fun W => sema_Acquire (.slice none 0 0) [] 8 4 false W (Row.nil _ _ _))
  have h2 := hid (fun W v (h : Row spotE W W.heap.size v [⟨8, 0, [4]⟩]) => sema_Acquire v [⟨8, 0, [4]⟩] 8 2 true W h)
  have h3 := hid (fun W v (h : Row spotE W W.heap.size v [⟨8, 0, [2, 4]⟩]) => sema_Release v [⟨8, 0, [2, 4]⟩] 8 W h)
  rw [alive10_a.1, alive10_a.2.1, alive10_a.2.2] at h1
  rw [alive10_b.1, alive10_b.2.1, alive10_b.2.2] at h2
  rw [alive10_c.1, alive10_c.2.1, alive10_c.2.2] at h3
  generalize ([⟨8, 0, [4]⟩] : List Spot) = L1 at h1 h2 h3
  generalize ([⟨8, 0, [2, 4]⟩] : List Spot) = L2 at h2 h3
  go_enter Try.func39, Try.ntmps39
  go_wp2_with fail
  refine (h1.out _).mono ?_
  rintro e w1 ⟨v1, rfl, hr1, hb1⟩
  obtain ⟨A1, c1, rfl, _, _⟩ := hr1.open
  have hr1 := hid hr1
  have hb1 := hid hb1
  go_wp2_with fail
  refine (h2.out _ _ hr1.out).mono ?_
  rintro e w2 ⟨v2, rfl, hr2, hb2⟩
  obtain ⟨A2, c2, rfl, _, _⟩ := hr2.open
  have hr2 := hid hr2
  have hb2 := hid (below_step hb1.out hb2)
  go_wp2_with fail
  refine (h3.out _ _ hr2.out).mono ?_
  rintro e w3 ⟨v3, rfl, hr3, hb3⟩
  obtain ⟨A3, c3, rfl, _, _⟩ := hr3.open
  have hb3 := hid (below_step hb2.out hb3)
  clear hr3
  go_wp2_with fail
  go_ret
  exact ⟨rfl, hb3.out⟩
end Go.Proofs.Ytbbkgibopicaeaa

namespace Go.Proofs.Ytbbkgibopicaeaa
open Go.RowKit

theorem acq_bad {t : List Spot} {a who : Int} {f : Bool} (h : getOk t a = false ∨ who < 0) : acqE t a who f = 1 ∧ acqL t a who f = [] ∧ acqT t a who f = false := by
  have e : acqE t a who f = 1 := by
    unfold acqE
    rw [if_pos]
    rcases h with h | h
    · exact Or.inl (by unfold getE; rw [h]; decide)
    · exact Or.inr h
  have := acq_no e (by decide)
  exact ⟨e, this.1, this.2⟩
theorem rel_bad {t : List Spot} {a : Int} (h : getOk t a = false) : relE t a = 1 ∧ relL t a = [] ∧ relW t a = 0 := by
  have e : relE t a = 1 := by
    unfold relE
    rw [if_pos (by unfold getE; rw [h]; decide)]
  have := rel_no e (by decide)
  exact ⟨e, this.1, this.2⟩

set_option maxHeartbeats 3200000 in
set_option maxRecDepth 100000 in
theorem law10_SemaTells (v : Value) (t0 : List Spot) (addr who : Int) (fst : Bool) (w : World) (h0 : Row spotE w w.heap.size v t0) :
    Calls Try.prog 9 #[v, .int .i64 addr, .int .i64 who, .bool fst] w (TruePost w) := by
  have hF := hid (law10_few v t0 w h0)
  obtain ⟨A0, c0, rfl, _, _⟩ := h0.open
  clear h0
  generalize fewS t0 = T at hF
  go_enter Try.func9, Try.ntmps9
  go_wp2_with fail
  refine hF.out.mono ?_
  rintro e w1 ⟨v1, rfl, hr1, hb1⟩
  have hbw := hid hb1
  clear hb1
  have hT := hid (fun W (hb : Below w1.heap.size w1 W) => hr1.keep hb hb.size)
  have hA := hid (sema_Acquire v1 T addr who fst w1 hr1)
  obtain ⟨A1, c1, rfl, _, _⟩ := hr1.open
  clear hr1
  go_wp2_with fail
  refine hA.out.mono ?_
  rintro e w2 ⟨v2, rfl, hr2, hb2⟩
  obtain ⟨A2, c2, rfl, _, _⟩ := hr2.open
  have hb2h := hid hb2
  have hAr := hid (fun W (hb : Below w2.heap.size w2 W) => hr2.keep hb hb.size)
  clear hr2 hb2
  go_wp2_with fail
  refine (sema_Release _ T addr w2 (hT.out _ hb2h.out)).mono ?_
  rintro e w3 ⟨v3, rfl, hr3, hb3⟩
  obtain ⟨A3, c3, rfl, _, _⟩ := hr3.open
  have hc3 := hid hb3
  have hb3 := hid (below_step hb2h.out hb3)
  have hBr := hid (fun W (hb : Below w3.heap.size w3 W) => hr3.keep hb hb.size)
  clear hr3
  go_wp2_with fail
  refine (sema_Queued _ T who w3 (hT.out _ hb3.out)).mono ?_
  rintro e w4 ⟨rfl, hb4⟩
  have hc4 := hid hb4
  have hb4 := hid (below_step hb3.out hb4)
  go_wp2_with fail
  refine (law10_alive _).mono ?_
  rintro e w5 ⟨rfl, hb5⟩
  have hc5 := hid (below_step hc4.out hb5)
  have hb5 := hid (below_step hb4.out hb5)
  have T5 := hid (fun W (hb : Below w5.heap.size w5 W) => hT.out W (below_step hb5.out hb))
  have A5 := hid (fun W (hb : Below w5.heap.size w5 W) => hAr.out W (below_step hc3.out (below_step hc5.out hb)))
  have B5 := hid (fun W (hb : Below w5.heap.size w5 W) => hBr.out W (below_step hc5.out hb))
  have hbw5 := hid (hbw.out.trans (hb5.out.mono hbw.out.size))
  clear hF hA hT hAr hBr hb2h hb3 hb4 hb5 hc3 hc4 hc5 hbw
  obtain ⟨bQ, hbQ⟩ : ∃ b, (!queOk T who) = b := ⟨_, rfl⟩
  have hbQh := hid hbQ
  clear hbQ
  go_upto_region 7 with fail
  go_cut [55] from 49 to 55 (fun x W => x = .bool bQ ∧ Below w5.heap.size w5 W)
  case first =>
    have hR := hid (ref09_Right _ T w5 (T5.out _ (Below.refl _ _)))
    cases hT : tabRight T with
    | false =>
      rw [hT] at hR
      have hTh := hid hT
      clear hT
      go_wp2_with (go_at_call 24; refine hR.out.mono ?_; rintro e w6 ⟨rfl, hb6⟩; have hb6 := hid hb6)
      go_meet
      exact ⟨congrArg Value.bool (by rw [← hbQh.out]; unfold queOk; rw [hTh.out]; rfl), hb6.out⟩
    | true =>
      rw [hT] at hR
      have hTh := hid hT
      clear hT
      by_cases hw : who < 0
      · have hwh := hid hw
        go_wp2_with (go_at_call 24; refine hR.out.mono ?_; rintro e w6 ⟨rfl, hb6⟩; have hb6 := hid hb6)
        go_meet
        exact ⟨congrArg Value.bool (by have := hwh.out; rw [← hbQh.out]; unfold queOk; rw [hTh.out]; first | (simp; omega) | (rw [Bool.eq_iff_iff]; simp; done) | (rw [Bool.eq_iff_iff]; simp; omega)), hb6.out⟩
      · have hwh := hid hw
        go_wp2_with (go_at_call 24; refine hR.out.mono ?_; rintro e w6 ⟨rfl, hb6⟩; have hb6 := hid hb6)
        go_meet
        exact ⟨congrArg Value.bool (by have := hwh.out; rw [← hbQh.out]; unfold queOk; rw [hTh.out]; first | (simp; omega) | (rw [Bool.eq_iff_iff]; simp; done) | (rw [Bool.eq_iff_iff]; simp; omega)), hb6.out⟩
  case rest =>
    obtain ⟨rfl, hcut⟩ := hcut
    have hA := hid hcut
    clear hcut
    go_upto_if 55 with fail
    go_cut [] from 56 to 70 (fun W => Below w5.heap.size w5 W)
    case first =>
      cases bQ with
      | true =>
        have hq : queOk T who = false := by simpa using hbQh.out
        have e1 : (queE T who != 1) = false := by simp [queE, hq]
        have e2 : (queR T who != 0) = false := by simp [queR, hq]
        clear hq
        go_wp2_with fail
        go_meet
        exact hA.out
      | false =>
        have hq : queOk T who = true := by simpa using hbQh.out
        have e1 : (queE T who != 0) = false := by simp [queE, hq]
        have e2 := hid (show queN T who = queR T who by simp [queR, hq])
        have e3 : (queR T who != queR T who) = false := by simp
        have hQ := hid (fun W (hb : Below w5.heap.size w5 W) => ref10_Queued _ T who W (T5.out W hb))
        rw [e2.out] at hQ
        clear hq
        go_wp2_with (go_at_call 43; refine (hQ.out _ hA.out).mono ?_; rintro e w6 ⟨rfl, hb6⟩; have hb6 := hid (below_step hA.out hb6))
        go_meet
        exact hb6.out
    case rest =>
      have hA := hid hcut
      clear hcut
      have hM := hid (fun W (hb : Below w5.heap.size w5 W) => ref10_May _ T addr W (T5.out W hb))
      cases hok : getOk T addr with
      | false =>
        rw [hok] at hM
        obtain ⟨a1, a2, a3⟩ := acq_bad (who := who) (f := fst) (Or.inl hok)
        obtain ⟨r1, r2, r3⟩ := rel_bad hok
        have e1 : (acqE T addr who fst == 1) = true := by simp [a1]
        have e2 : (relE T addr == 1) = true := by simp [r1]
        have e3 : (((acqL T addr who fst).length : Int) == 0) = true := by simp [a2]
        have e4 : (((relL T addr).length : Int) == 0) = true := by simp [r2]
        have e5 : (relW T addr == 0) = true := by simp [r3]
        have e6 : acqT T addr who fst = false := a3
        clear hok a1 a2 a3 r1 r2 r3
        go_wp2_with (go_at_call 41; refine (hM.out _ hA.out).mono ?_; rintro e w6 ⟨rfl, hb6⟩; have hb6 := hid (below_step hA.out hb6))
        go_ret
        exact ⟨rfl, hbw5.out.trans (hb6.out.mono hbw5.out.size)⟩
      | true =>
        rw [hok] at hM
        obtain ⟨r1, r2, r3⟩ := rel_eq hok
        have hRl := hid (fun W (hb : Below w5.heap.size w5 W) => ref10_Release _ T addr W (T5.out W hb) hok)
        rw [← r1, ← r2, ← r3] at hRl
        have e1 : (relE T addr != relE T addr) = false := by simp
        have e2 : (relW T addr != relW T addr) = false := by simp
        have hSm := hid (fun W u (hb : Below w5.heap.size w5 W) (hu : Row spotE W W.heap.size u (relL T addr)) => ref09_Same _ u (relL T addr) (relL T addr) W (B5.out W hb) hu)
        rw [decide_eq_true rfl] at hSm
        clear r1 r2 r3
        by_cases hw : who < 0
        · obtain ⟨a1, a2, a3⟩ := acq_bad (t := T) (a := addr) (f := fst) (Or.inr hw)
          have f1 : (acqE T addr who fst == 1) = true := by simp [a1]
          have f3 : (((acqL T addr who fst).length : Int) == 0) = true := by simp [a2]
          have f6 : acqT T addr who fst = false := a3
          clear a1 a2 a3 hok
          go_wp2_with (first
            | (go_at_call 41; refine (hM.out _ hA.out).mono ?_; rintro e w6 ⟨rfl, hb6⟩; have hb6 := hid (below_step hA.out hb6))
            | (go_at_call 44; refine (hRl.out _ hb6.out).mono ?_; rintro e w7 ⟨v7, rfl, hr7, hb7⟩; obtain ⟨A7, c7, rfl, _, _⟩ := hr7.open; have hr7 := hid hr7; have hb7 := hid (below_step hb6.out hb7))
            | (go_at_call 33; refine (hSm.out _ _ hb7.out hr7.out).mono ?_; rintro e w8 ⟨rfl, hb8⟩; have hb8 := hid (below_step hb7.out hb8)))
          go_ret
          exact ⟨rfl, hbw5.out.trans (hb8.out.mono hbw5.out.size)⟩
        · obtain ⟨a1, a2, a3⟩ := acq_eq (first := fst) hok (show 0 ≤ who by omega)
          have hAc := hid (fun W (hb : Below w5.heap.size w5 W) => ref10_Acquire _ T addr who fst W (T5.out W hb) hok)
          rw [← a1, ← a2, ← a3] at hAc
          have f1 : (acqE T addr who fst == acqE T addr who fst) = true := by simp
          have f2 : (acqT T addr who fst == acqT T addr who fst) = true := by simp
          have hSn := hid (fun W u (hb : Below w5.heap.size w5 W) (hu : Row spotE W W.heap.size u (acqL T addr who fst)) => ref09_Same _ u (acqL T addr who fst) (acqL T addr who fst) W (A5.out W hb) hu)
          rw [decide_eq_true rfl] at hSn
          clear a1 a2 a3 hok
          go_wp2_with (first
            | (go_at_call 41; refine (hM.out _ hA.out).mono ?_; rintro e w6 ⟨rfl, hb6⟩; have hb6 := hid (below_step hA.out hb6))
            | (go_at_call 44; refine (hRl.out _ hb6.out).mono ?_; rintro e w7 ⟨v7, rfl, hr7, hb7⟩; obtain ⟨A7, c7, rfl, _, _⟩ := hr7.open; have hr7 := hid hr7; have hb7 := hid (below_step hb6.out hb7))
            | (go_at_call 45; refine (hAc.out _ hb8.out).mono ?_; rintro e w9 ⟨v9, rfl, hr9, hb9⟩; obtain ⟨A9, c9, rfl, _, _⟩ := hr9.open; have hr9 := hid hr9; have hb9 := hid (below_step hb8.out hb9))
            | (go_at_call 33; refine (hSn.out _ _ hb9.out hr9.out).mono ?_; rintro e wa ⟨rfl, hba⟩; have hba := hid (below_step hb9.out hba))
            | (go_at_call 33; refine (hSm.out _ _ hb7.out hr7.out).mono ?_; rintro e w8 ⟨rfl, hb8⟩; have hb8 := hid (below_step hb7.out hb8)))
          go_ret
          exact ⟨rfl, hbw5.out.trans (hba.out.mono hbw5.out.size)⟩
end Go.Proofs.Ytbbkgibopicaeaa
