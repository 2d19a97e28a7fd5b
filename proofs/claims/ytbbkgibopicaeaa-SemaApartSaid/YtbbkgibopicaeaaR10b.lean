/- The reference of layer 10: a grant is given; in how many lines somebody waits. -/
import Derived.Test.YtbbkgibopicaeaaR10
import Derived.Test.YtbbkgibopicaeaaSemaB
namespace Go.Proofs.Ytbbkgibopicaeaa
set_option linter.unusedVariables false
set_option linter.unusedSimpArgs false
open Go.RowKit

def rrelE (t : List Spot) (a : Int) : Int :=
  if 0 < (tabGet t a).line.length then 0
  else if (tabGet t a).count = 2147483647 then 10
  else rsetE t ⟨(tabGet t a).addr, (tabGet t a).count + 1, (tabGet t a).line⟩
def rrelL (t : List Spot) (a : Int) : List Spot :=
  if 0 < (tabGet t a).line.length then tabSet t ⟨(tabGet t a).addr, (tabGet t a).count, (tabGet t a).line.tail⟩
  else if (tabGet t a).count = 2147483647 then []
  else rsetL t ⟨(tabGet t a).addr, (tabGet t a).count + 1, (tabGet t a).line⟩
def rrelW (t : List Spot) (a : Int) : Int :=
  if 0 < (tabGet t a).line.length then (tabGet t a).line.headD 0
  else if (tabGet t a).count = 2147483647 then 0
  else if rsetE t ⟨(tabGet t a).addr, (tabGet t a).count + 1, (tabGet t a).line⟩ = 0 then -1 else 0

theorem headD_at (l : List Int) (h : 0 < l.length) : l.headD 0 = l[0] := by
  cases l with
  | nil => simp at h
  | cons x r => rfl

set_option maxHeartbeats 3200000 in
set_option maxRecDepth 100000 in
theorem ref10_Release (v : Value) (t : List Spot) (a : Int) (w : World) (h : Row spotE w w.heap.size v t) (hok : getOk t a = true) :
    Calls Try.prog 44 #[v, .int .i64 a] w (RowIntErrPost spotE (rrelL t a) (rrelW t a) (rrelE t a) w) := by
  unfold getOk at hok
  rw [Bool.and_eq_true] at hok
  have htab := (tabRight_iff t).1 hok.1
  have hsr := tabGet_right htab hok.2
  have hda := hid (spotRight_addr hsr)
  have hG := hid (fun W (hb : Below w.heap.size w W) => ref09_Get v t a W (h.keep hb hb.size))
  have hS := hid (fun W (hb : Below w.heap.size w W) s a0 c0 l0 u (hs : s = ⟨a0, c0, l0⟩) (hu : Row intE W W.heap.size u l0) (hsa : 0 ≤ a0 ∧ a0 ≤ 4294967295) => ref10_set' v u t s a0 c0 l0 W (h.keep hb hb.size) hs hu (tab_bounds htab).1 hsa (tab_bounds htab).2)
  have hS0 := hid (fun W (hb : Below w.heap.size w W) s a0 c0 l0 u (hs : s = ⟨a0, c0, l0⟩) (hu : Row intE W W.heap.size u l0) (hsa : 0 ≤ a0 ∧ a0 ≤ 4294967295) => ref09_Set' v u t s a0 c0 l0 W (h.keep hb hb.size) hs hu (tab_bounds htab).1 hsa (tab_bounds htab).2)
  have hcb : 0 ≤ (tabGet t a).count ∧ (tabGet t a).count ≤ 2147483647 := by
    unfold spotRight at hsr
    simp only [Bool.and_eq_true, decide_eq_true_eq] at hsr
    exact ⟨hsr.1.1.1.2, hsr.1.1.2⟩
  obtain ⟨hc1, hc2⟩ := hcb
  obtain ⟨A, c, rfl, _, _⟩ := h.open
  clear h hok htab hsr
  have hun : Hid ((rrelE t a = if 0 < (tabGet t a).line.length then 0 else if (tabGet t a).count = 2147483647 then 10 else rsetE t ⟨(tabGet t a).addr, (tabGet t a).count + 1, (tabGet t a).line⟩) ∧
    (rrelL t a = if 0 < (tabGet t a).line.length then tabSet t ⟨(tabGet t a).addr, (tabGet t a).count, (tabGet t a).line.tail⟩ else if (tabGet t a).count = 2147483647 then [] else rsetL t ⟨(tabGet t a).addr, (tabGet t a).count + 1, (tabGet t a).line⟩) ∧
    (rrelW t a = if 0 < (tabGet t a).line.length then (tabGet t a).line.headD 0 else if (tabGet t a).count = 2147483647 then 0 else if rsetE t ⟨(tabGet t a).addr, (tabGet t a).count + 1, (tabGet t a).line⟩ = 0 then -1 else 0)) := ⟨rfl, rfl, rfl⟩
  generalize tabGet t a = s at *
  by_cases h1 : 0 < s.line.length
  · have h1i : (0 : Int) < (s.line.length : Int) := by omega
    have h1j : (1 : Int) ≤ (s.line.length : Int) := by omega
    obtain ⟨s', hq⟩ : ∃ s', s' = (⟨s.addr, s.count, s.line.tail⟩ : Spot) := ⟨_, rfl⟩
    have hA := hid (show rrelE t a = 0 ∧ rrelL t a = tabSet t s' ∧ rrelW t a = s.line.headD 0 by rw [hun.out.1, hun.out.2.1, hun.out.2.2, if_pos h1, if_pos h1, if_pos h1, hq]; exact ⟨rfl, rfl, rfl⟩)
    replace hq := hid hq
    have hd := hid (headD_at s.line h1)
    have ht := hid (show s.line.tail = s.line.drop 1 by simp)
    have htl := hid (show s.line.tail.length = s.line.length - 1 by simp)
    clear hun
    go_enter Try.func44, Try.ntmps44
    go_wp2_with fail
    refine (hG.out _ (Below.refl _ _)).mono ?_
    rintro e w1 ⟨v1, rfl, hr1, hb1⟩
    obtain ⟨A1, c1, rfl, hlc1, hcm1⟩ := hr1.open
    unfold maxLen at hcm1
    have hr1 := hid hr1
    have hb1 := hid hb1
    have hz1 := hb1.out.size
    obtain ⟨b, o, rfl, hbb, hcl⟩ := hr1.out.int 0 h1
    simp only [Nat.add_zero] at hcl
    by_cases hc1' : c1 = 1
    · subst hc1'
      have hrt := hid (show Row intE w1 w1.heap.size (.slice (some ⟨b, o, none⟩) (0) (0)) s.line.tail by rw [ht.out]; exact hr1.out.drop 1 h1 (by intro h b' o' e; first | omega | (simp at e; obtain ⟨rfl, rfl⟩ := e; simp [intE])) (by simp) _ _ (by omega) (by omega))
      go_wp2_with fail
      refine calls_name ?_
      intro W4 hW4
      have hc4 : Below w1.heap.size w1 W4 := by rw [hW4]; exact ((Below.refl _ _).alloc (Nat.le_refl _) _)
      have hb4 := hid (show Below w.heap.size w W4 from hb1.out.trans (hc4.mono hb1.out.size))
      have hr4 := hid (show Row intE W4 W4.heap.size (.slice (some ⟨b, o, none⟩) (0) (0)) s.line.tail from hrt.out.keep hc4 hc4.size)
      clear hW4
      have hSs := hid (hS0.out W4 hb4.out s' _ _ _ _ hq.out hr4.out hda.out)
      refine hSs.out.mono ?_
      rintro e w5 ⟨v5, rfl, hr5, hb5⟩
      have hr5 := hid hr5
      have hb5 := hid (hb4.out.trans (hb5.mono hb4.out.size))
      obtain ⟨A5, c5, rfl, _, _⟩ := hr5.out.open
      go_wp2
      exact bodyPost_ret (v := .tuple #[.slice A5 (tabSet t s').length c5, .int .i64 s.line[0], .int .i64 0]) (by simp [results, Try.results44, go_sem]) rfl ⟨_, by rw [hA.out.1, hA.out.2.2, hd.out], by rw [hA.out.2.1]; exact hr5.out, hb5.out⟩
    · have hrt := hid (show Row intE w1 w1.heap.size (.slice (some ⟨b, o + 1, none⟩) (s.line.length - 1) (c1 - 1)) s.line.tail by rw [ht.out]; exact hr1.out.drop 1 h1 (by intro h b' o' e; first | omega | (simp at e; obtain ⟨rfl, rfl⟩ := e; simp [intE])) (by simp) _ _ (by omega) (by omega))
      go_wp2_with fail
      refine calls_name ?_
      intro W4 hW4
      have hc4 : Below w1.heap.size w1 W4 := by rw [hW4]; exact ((Below.refl _ _).alloc (Nat.le_refl _) _)
      have hb4 := hid (show Below w.heap.size w W4 from hb1.out.trans (hc4.mono hb1.out.size))
      have hr4 := hid (show Row intE W4 W4.heap.size (.slice (some ⟨b, o + 1, none⟩) (s.line.length - 1) (c1 - 1)) s.line.tail from hrt.out.keep hc4 hc4.size)
      clear hW4
      have hSs := hid (hS0.out W4 hb4.out s' _ _ _ _ hq.out hr4.out hda.out)
      refine hSs.out.mono ?_
      rintro e w5 ⟨v5, rfl, hr5, hb5⟩
      have hr5 := hid hr5
      have hb5 := hid (hb4.out.trans (hb5.mono hb4.out.size))
      obtain ⟨A5, c5, rfl, _, _⟩ := hr5.out.open
      go_wp2
      exact bodyPost_ret (v := .tuple #[.slice A5 (tabSet t s').length c5, .int .i64 s.line[0], .int .i64 0]) (by simp [results, Try.results44, go_sem]) rfl ⟨_, by rw [hA.out.1, hA.out.2.2, hd.out], by rw [hA.out.2.1]; exact hr5.out, hb5.out⟩
  · have h1i : ¬ (0 : Int) < (s.line.length : Int) := by omega
    by_cases h3 : s.count = 2147483647
    · have h3' : (s.count == 2147483647) = true := by simp [h3]
      have hA := hid (show rrelE t a = 10 ∧ rrelL t a = [] ∧ rrelW t a = 0 by rw [hun.out.1, hun.out.2.1, hun.out.2.2, if_neg h1, if_neg h1, if_neg h1, if_pos h3, if_pos h3, if_pos h3]; exact ⟨rfl, rfl, rfl⟩)
      clear hun h3 hc1 hc2
      go_enter Try.func44, Try.ntmps44
      go_wp2_with fail
      refine (hG.out _ (Below.refl _ _)).mono ?_
      rintro e w1 ⟨v1, rfl, hr1, hb1⟩
      obtain ⟨A1, c1, rfl, hlc1, hcm1⟩ := hr1.open
      unfold maxLen at hcm1
      have hr1 := hid hr1
      have hb1 := hid hb1
      have hz1 := hb1.out.size
      go_wp2
      exact bodyPost_ret (v := .tuple #[.slice none 0 0, .int .i64 0, .int .i64 10]) (by simp [results, Try.results44, go_sem]) rfl (intErrNil hA.out.2.1 hA.out.2.2 hA.out.1 (hb1.out.alloc hz1 _))
    · have h3' : (s.count == 2147483647) = false := by simp [h3]
      obtain ⟨s', hq⟩ : ∃ s', s' = (⟨s.addr, s.count + 1, s.line⟩ : Spot) := ⟨_, rfl⟩
      by_cases h5 : rsetE t s' = 0
      · have h5' : (rsetE t s' != 0) = false := by simp [h5]
        have hA := hid (show rrelE t a = 0 ∧ rrelL t a = rsetL t s' ∧ rrelW t a = -1 by rw [hun.out.1, hun.out.2.1, hun.out.2.2, if_neg h1, if_neg h1, if_neg h1, if_neg h3, if_neg h3, if_neg h3, ← hq, if_pos h5]; exact ⟨h5, rfl, rfl⟩)
        replace hq := hid hq
        clear hun h5
        go_enter Try.func44, Try.ntmps44
        go_wp2_with fail
        refine (hG.out _ (Below.refl _ _)).mono ?_
        rintro e w1 ⟨v1, rfl, hr1, hb1⟩
        obtain ⟨A1, c1, rfl, hlc1, hcm1⟩ := hr1.open
        unfold maxLen at hcm1
        have hr1 := hid hr1
        have hb1 := hid hb1
        have hz1 := hb1.out.size
        go_wp2_with fail
        refine calls_name ?_
        intro W4 hW4
        have hc4 : Below w1.heap.size w1 W4 := by rw [hW4]; exact ((Below.refl _ _).alloc (Nat.le_refl _) _)
        have hb4 := hid (show Below w.heap.size w W4 from hb1.out.trans (hc4.mono hb1.out.size))
        have hr4 := hid (show Row intE W4 W4.heap.size (.slice A1 s.line.length c1) s.line from hr1.out.keep hc4 hc4.size)
        clear hW4
        have hSs := hid (hS.out W4 hb4.out s' _ _ _ _ hq.out hr4.out hda.out)
        refine hSs.out.mono ?_
        rintro e w5 ⟨v5, rfl, hr5, hb5⟩
        have hr5 := hid hr5
        have hb5 := hid (hb4.out.trans (hb5.mono hb4.out.size))
        obtain ⟨A5, c5, rfl, _, _⟩ := hr5.out.open
        go_wp2
        exact bodyPost_ret (v := .tuple #[.slice A5 (rsetL t s').length c5, .int .i64 (-1), .int .i64 0]) (by simp [results, Try.results44, go_sem]) rfl ⟨_, by rw [hA.out.1, hA.out.2.2], by rw [hA.out.2.1]; exact hr5.out, hb5.out⟩
      · have h5' : (rsetE t s' != 0) = true := by simp [h5]
        have hl := hid (show rsetL t s' = [] by unfold rsetE at h5; unfold rsetL; split at h5 <;> simp_all)
        have hA := hid (show rrelE t a = rsetE t s' ∧ rrelL t a = [] ∧ rrelW t a = 0 by rw [hun.out.1, hun.out.2.1, hun.out.2.2, if_neg h1, if_neg h1, if_neg h1, if_neg h3, if_neg h3, if_neg h3, ← hq, if_neg h5]; exact ⟨rfl, hl.out, rfl⟩)
        replace hq := hid hq
        clear hun h5
        go_enter Try.func44, Try.ntmps44
        go_wp2_with fail
        refine (hG.out _ (Below.refl _ _)).mono ?_
        rintro e w1 ⟨v1, rfl, hr1, hb1⟩
        obtain ⟨A1, c1, rfl, hlc1, hcm1⟩ := hr1.open
        unfold maxLen at hcm1
        have hr1 := hid hr1
        have hb1 := hid hb1
        have hz1 := hb1.out.size
        go_wp2_with fail
        refine calls_name ?_
        intro W4 hW4
        have hc4 : Below w1.heap.size w1 W4 := by rw [hW4]; exact ((Below.refl _ _).alloc (Nat.le_refl _) _)
        have hb4 := hid (show Below w.heap.size w W4 from hb1.out.trans (hc4.mono hb1.out.size))
        have hr4 := hid (show Row intE W4 W4.heap.size (.slice A1 s.line.length c1) s.line from hr1.out.keep hc4 hc4.size)
        clear hW4
        have hSs := hid (hS.out W4 hb4.out s' _ _ _ _ hq.out hr4.out hda.out)
        refine hSs.out.mono ?_
        rintro e w5 ⟨v5, rfl, hr5, hb5⟩
        have hr5 := hid hr5
        have hb5 := hid (hb4.out.trans (hb5.mono hb4.out.size))
        obtain ⟨A5, c5, rfl, _, _⟩ := hr5.out.open
        go_wp2
        exact bodyPost_ret (v := .tuple #[.slice none 0 0, .int .i64 0, .int .i64 (rsetE t s')]) (by simp [results, Try.results44, go_sem]) rfl (intErrNil hA.out.2.1 hA.out.2.2 hA.out.1 hb5.out)

def fewN (k : Nat) (t : List Spot) (who : Int) : Nat := ((t.take k).filter fun s => decide (0 ≤ place s.line who)).length
theorem fewN_snoc (t : List Spot) (who : Int) (k : Nat) (hk : k < t.length) : fewN (k + 1) t who = if 0 ≤ place t[k].line who then fewN k t who + 1 else fewN k t who := by
  unfold fewN
  rw [List.take_succ_eq_append_getElem hk, List.filter_append, List.length_append]
  by_cases h : 0 ≤ place t[k].line who <;> simp [h]
theorem fewN_le (t : List Spot) (who : Int) (k : Nat) : fewN k t who ≤ k := by
  unfold fewN
  exact Nat.le_trans (List.length_filter_le _ _) (by rw [List.length_take]; omega)
theorem fewN_all (t : List Spot) (who : Int) : ((fewN t.length t who : Nat) : Int) = queN t who := by unfold fewN queN; rw [List.take_length]

set_option maxHeartbeats 800000 in
theorem ref10_Queued (v : Value) (t : List Spot) (who : Int) (w : World) (h : Row spotE w w.heap.size v t) :
    Calls Try.prog 43 #[v, .int .i64 who] w fun e w' => e = .returned (.int .i64 (queN t who)) ∧ Below w.heap.size w w' := by
  obtain ⟨A, c, rfl, hlc, hcm⟩ := h.open
  unfold maxLen at hcm
  have H := hid h
  clear h
  go_enter Try.func43, Try.ntmps43
  go_wp2
  go_loopg [5, 10] t.length (fun g n i wr => ∃ k : Nat, k + g = t.length ∧ i = .int .i64 k ∧ n = .int .i64 (fewN k t who : Nat) ∧ Below w.heap.size w wr)
  case atStart => exact ⟨0, by omega, rfl, rfl, Below.refl _ _⟩
  case round =>
    obtain ⟨k, hk, rfl, rfl, hb⟩ := hrel
    cases gk with
    | zero =>
      have hkl : k = t.length := by omega
      subst hkl
      have hfin := hid (fewN_all t who)
      go_wp2
      go_ret
      exact ⟨ret_int hfin.out, hb⟩
    | succ g =>
      have hlt : k < t.length := by omega
      have hki : (k : Int) < (t.length : Int) := by omega
      obtain ⟨b, o, A', c', rfl, hbb, hc0, hc1, hc2, hrow⟩ := (H.out.below hb).spot k hlt
      have hle := fewN_le t who k
      have hsn := hid (fewN_snoc t who k hlt)
      have hbz := hb.size
      have hP := hid (fun o => ref07_Place (.slice A' t[k].line.length c') t[k].line who (wr.alloc o) (hrow.keep ((Below.refl _ _).alloc hbz o) (by simp; omega)))
      clear hrow
      by_cases hp : 0 ≤ place t[k].line who
      · have hsn := hid (show fewN (k + 1) t who = fewN k t who + 1 by rw [hsn.out, if_pos hp])
        go_wp2_with (go_at_call 34; refine (hP.out _).mono ?_; rintro e w' ⟨rfl, rfl⟩)
        go_roundg g
        case rel => exact ⟨k + 1, by omega, by go_num, by rw [hsn.out]; go_num, hb.alloc hbz _⟩
        case measure => omega
      · have hsn := hid (show fewN (k + 1) t who = fewN k t who by rw [hsn.out, if_neg hp])
        go_wp2_with (go_at_call 34; refine (hP.out _).mono ?_; rintro e w' ⟨rfl, rfl⟩)
        go_roundg g
        case rel => exact ⟨k + 1, by omega, by go_num, by rw [hsn.out], hb.alloc hbz _⟩
        case measure => omega
end Go.Proofs.Ytbbkgibopicaeaa
