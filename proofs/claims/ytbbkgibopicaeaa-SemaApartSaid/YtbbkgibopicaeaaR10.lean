/- The reference of layer 10: asking for a grant, giving one. -/
import Derived.Test.YtbbkgibopicaeaaSemaA
import Derived.Test.YtbbkgibopicaeaaR09c
namespace Go.Proofs.Ytbbkgibopicaeaa
set_option linter.unusedVariables false
set_option linter.unusedSimpArgs false
open Go.RowKit

theorem ref10_May (v : Value) (t : List Spot) (a : Int) (w : World) (h : Row spotE w w.heap.size v t) :
    Calls Try.prog 41 #[v, .int .i64 a] w fun e w' => e = .returned (.bool (getOk t a)) ∧ Below w.heap.size w w' := by
  have hR := hid (ref09_Right v t w h)
  obtain ⟨A, c, rfl, _, _⟩ := h.open
  clear h
  cases hT : tabRight t with
  | true =>
    rw [hT] at hR
    have hg := hid (show getOk t a = isAddr a by unfold getOk; rw [hT]; rfl)
    go_enter Try.func41, Try.ntmps41
    go_wp2_with (first
      | (go_at_call 24; refine hR.out.mono ?_; rintro e w1 ⟨rfl, hb1⟩; have hb1 := hid hb1)
      | (go_at_call 25; refine (ref08_Key _ _).mono ?_; rintro e w' ⟨rfl, rfl⟩))
    go_ret
    exact ⟨ret_bool (by rw [hg.out]), hb1.out⟩
  | false =>
    rw [hT] at hR
    have hg := hid (show getOk t a = false by unfold getOk; rw [hT]; rfl)
    go_enter Try.func41, Try.ntmps41
    go_wp2_with (go_at_call 24; refine hR.out.mono ?_; rintro e w1 ⟨rfl, hb1⟩; have hb1 := hid hb1)
    go_ret
    exact ⟨ret_bool (by rw [hg.out]), hb1.out⟩

def rsetE (t : List Spot) (s : Spot) : Int := if 64 < (tabSet t s).length then 5 else 0
def rsetL (t : List Spot) (s : Spot) : List Spot := if 64 < (tabSet t s).length then [] else tabSet t s

set_option maxHeartbeats 800000 in
theorem ref10_set (v u : Value) (t : List Spot) (s : Spot) (w : World) (h : Row spotE w w.heap.size v t) (hs : Row intE w w.heap.size u s.line) (hadr : ∀ x ∈ t, 0 ≤ x.addr ∧ x.addr ≤ 4294967295) (hsa : 0 ≤ s.addr ∧ s.addr ≤ 4294967295) (hlen : t.length ≤ 1000000000) :
    Calls Try.prog 70 #[v, .agg #[.int .i64 s.addr, .int .i64 s.count, u]] w (RowErrPost spotE (rsetL t s) (rsetE t s) w) := by
  have hS := hid (fun W (hb : Below w.heap.size w W) => ref09_Set v u t s W (h.keep hb hb.size) (hs.keep hb hb.size) hadr hsa hlen)
  obtain ⟨A, c, rfl, _, _⟩ := h.open
  obtain ⟨As, cs, rfl, _, _⟩ := hs.open
  clear h hs hadr hsa
  by_cases hf : 64 < (tabSet t s).length
  · have he := hid (show rsetE t s = 5 by unfold rsetE; rw [if_pos hf])
    have hl := hid (show rsetL t s = [] by unfold rsetL; rw [if_pos hf])
    go_enter Try.func70, Try.ntmps70
    go_wp2_with (go_at_call 32; refine (hS.out _ (by repeat (first | assumption | exact Below.refl _ _ | refine bdrawN ?_ _ | refine Below.drew ?_ | refine Below.alloc ?_ (by (try simp) <;> omega) _ | refine Below.setCell ?_ (by (try simp) <;> omega) _))).mono ?_; rintro e w1 ⟨v1, rfl, hr1, hb1⟩; obtain ⟨A1, c1, rfl, _, _⟩ := hr1.open; have hr1 := hid hr1; have hb1 := hid hb1)
    exact bodyPost_ret (v := .tuple #[.slice none 0 0, .int .i64 5]) (by simp [results, Try.results70, go_sem]) rfl (errNil hl.out he.out (((Below.refl _ _).alloc (Nat.le_refl _) _).trans (hb1.out.mono (by simp))))
  · have he := hid (show rsetE t s = 0 by unfold rsetE; rw [if_neg hf])
    have hl := hid (show rsetL t s = tabSet t s by unfold rsetL; rw [if_neg hf])
    go_enter Try.func70, Try.ntmps70
    go_wp2_with (go_at_call 32; refine (hS.out _ (by repeat (first | assumption | exact Below.refl _ _ | refine bdrawN ?_ _ | refine Below.drew ?_ | refine Below.alloc ?_ (by (try simp) <;> omega) _ | refine Below.setCell ?_ (by (try simp) <;> omega) _))).mono ?_; rintro e w1 ⟨v1, rfl, hr1, hb1⟩; obtain ⟨A1, c1, rfl, _, _⟩ := hr1.open; have hr1 := hid hr1; have hb1 := hid hb1)
    exact bodyPost_ret (v := .tuple #[.slice A1 (tabSet t s).length c1, .int .i64 0]) (by simp [results, Try.results70, go_sem]) rfl ⟨_, by rw [he.out], by rw [hl.out]; exact hr1.out, ((Below.refl _ _).alloc (Nat.le_refl _) _).trans (hb1.out.mono (by simp))⟩

theorem ref10_set' (v u : Value) (t : List Spot) (s : Spot) (a0 c0 : Int) (l0 : List Int) (w : World) (h : Row spotE w w.heap.size v t) (hs : s = ⟨a0, c0, l0⟩) (hu : Row intE w w.heap.size u l0) (hadr : ∀ x ∈ t, 0 ≤ x.addr ∧ x.addr ≤ 4294967295) (hsa : 0 ≤ a0 ∧ a0 ≤ 4294967295) (hlen : t.length ≤ 1000000000) :
    Calls Try.prog 70 #[v, .agg #[.int .i64 a0, .int .i64 c0, u]] w (RowErrPost spotE (rsetL t s) (rsetE t s) w) := by
  subst hs
  exact ref10_set v u t ⟨a0, c0, l0⟩ w h hu hadr hsa hlen

theorem ref09_Set' (v u : Value) (t : List Spot) (s : Spot) (a0 c0 : Int) (l0 : List Int) (w : World) (h : Row spotE w w.heap.size v t) (hs : s = ⟨a0, c0, l0⟩) (hu : Row intE w w.heap.size u l0) (hadr : ∀ x ∈ t, 0 ≤ x.addr ∧ x.addr ≤ 4294967295) (hsa : 0 ≤ a0 ∧ a0 ≤ 4294967295) (hlen : t.length ≤ 1000000000) :
    Calls Try.prog 32 #[v, .agg #[.int .i64 a0, .int .i64 c0, u]] w (RowPost spotE (tabSet t s) w) := by
  subst hs
  exact ref09_Set v u t ⟨a0, c0, l0⟩ w h hu hadr hsa hlen

/-- What the reference answers to one who asks. -/
def racqE (t : List Spot) (a who : Int) (first : Bool) : Int :=
  if 0 ≤ place (tabGet t a).line who then 7
  else if 0 < (tabGet t a).count then rsetE t ⟨(tabGet t a).addr, (tabGet t a).count - 1, (tabGet t a).line⟩
  else if (tabGet t a).line.length = 64 then 5
  else rsetE t ⟨(tabGet t a).addr, (tabGet t a).count, if first = true then who :: (tabGet t a).line else (tabGet t a).line ++ [who]⟩
def racqL (t : List Spot) (a who : Int) (first : Bool) : List Spot :=
  if 0 ≤ place (tabGet t a).line who then []
  else if 0 < (tabGet t a).count then rsetL t ⟨(tabGet t a).addr, (tabGet t a).count - 1, (tabGet t a).line⟩
  else if (tabGet t a).line.length = 64 then []
  else rsetL t ⟨(tabGet t a).addr, (tabGet t a).count, if first = true then who :: (tabGet t a).line else (tabGet t a).line ++ [who]⟩
def racqT (t : List Spot) (a who : Int) : Bool := if 0 ≤ place (tabGet t a).line who then false else decide (0 < (tabGet t a).count)

/-- A table that may be: its bounds. -/
theorem tab_bounds {t : List Spot} (h : TabOk t) : (∀ x ∈ t, 0 ≤ x.addr ∧ x.addr ≤ 4294967295) ∧ t.length ≤ 1000000000 :=
  ⟨fun x hx => spotRight_addr (h.each x hx).1, by have := h.len; omega⟩

theorem tabGet_right {t : List Spot} (h : TabOk t) {a : Int} (ha : isAddr a = true) : spotRight (tabGet t a) = true := by
  rcases tabGet_or t a with ⟨h1, _⟩ | ⟨_, h2⟩
  · exact (h.each _ h1).1
  · rw [h2]; unfold spotRight; simp [ha, lineRight]

set_option maxHeartbeats 3200000 in
set_option maxRecDepth 100000 in
theorem ref10_Acquire (v : Value) (t : List Spot) (a who : Int) (first : Bool) (w : World) (h : Row spotE w w.heap.size v t) (hok : getOk t a = true) :
    Calls Try.prog 45 #[v, .int .i64 a, .int .i64 who, .bool first] w (RowBoolErrPost spotE (racqL t a who first) (racqT t a who) (racqE t a who first) w) := by
  unfold getOk at hok
  rw [Bool.and_eq_true] at hok
  have htab := (tabRight_iff t).1 hok.1
  have hsr := tabGet_right htab hok.2
  have hda := hid (spotRight_addr hsr)
  have hG := hid (fun W (hb : Below w.heap.size w W) => ref09_Get v t a W (h.keep hb hb.size))
  have hS := hid (fun W (hb : Below w.heap.size w W) s a0 c0 l0 u (hs : s = ⟨a0, c0, l0⟩) (hu : Row intE W W.heap.size u l0) (hsa : 0 ≤ a0 ∧ a0 ≤ 4294967295) => ref10_set' v u t s a0 c0 l0 W (h.keep hb hb.size) hs hu (tab_bounds htab).1 hsa (tab_bounds htab).2)
  have hcb : 0 ≤ (tabGet t a).count ∧ (tabGet t a).count ≤ 2147483647 ∧ (tabGet t a).line.length ≤ 64 := by
    unfold spotRight at hsr
    simp only [Bool.and_eq_true, decide_eq_true_eq] at hsr
    refine ⟨hsr.1.1.1.2, hsr.1.1.2, ?_⟩
    have := hsr.1.2
    unfold lineRight at this
    simp only [decide_eq_true_eq] at this
    exact this.2.2
  obtain ⟨hc1, hc2, hc3⟩ := hcb
  obtain ⟨A, c, rfl, _, _⟩ := h.open
  clear h hok htab hsr
  have hE : Hid (racqE t a who first = if 0 ≤ place (tabGet t a).line who then 7 else if 0 < (tabGet t a).count then rsetE t ⟨(tabGet t a).addr, (tabGet t a).count - 1, (tabGet t a).line⟩ else if (tabGet t a).line.length = 64 then 5 else rsetE t ⟨(tabGet t a).addr, (tabGet t a).count, if first = true then who :: (tabGet t a).line else (tabGet t a).line ++ [who]⟩) := rfl
  have hL : Hid (racqL t a who first = if 0 ≤ place (tabGet t a).line who then [] else if 0 < (tabGet t a).count then rsetL t ⟨(tabGet t a).addr, (tabGet t a).count - 1, (tabGet t a).line⟩ else if (tabGet t a).line.length = 64 then [] else rsetL t ⟨(tabGet t a).addr, (tabGet t a).count, if first = true then who :: (tabGet t a).line else (tabGet t a).line ++ [who]⟩) := rfl
  have hT : Hid (racqT t a who = if 0 ≤ place (tabGet t a).line who then false else decide (0 < (tabGet t a).count)) := rfl
  generalize tabGet t a = s at *
  by_cases h3 : 0 ≤ place s.line who
  · have hA := hid (show racqL t a who first = [] ∧ racqT t a who = false ∧ racqE t a who first = 7 by rw [hE.out, hL.out, hT.out, if_pos h3, if_pos h3, if_pos h3]; exact ⟨rfl, rfl, rfl⟩)
    clear hE hL hT
    go_enter Try.func45, Try.ntmps45
    go_wp2_with fail
    refine (hG.out _ (Below.refl _ _)).mono ?_
    rintro e w1 ⟨v1, rfl, hr1, hb1⟩
    obtain ⟨A1, c1, rfl, hlc1, hcm1⟩ := hr1.open
    unfold maxLen at hcm1
    have hr1 := hid hr1
    have hb1 := hid hb1
    have hz1 := hb1.out.size
    go_wp2_with fail
    refine calls_name ?_
    intro W2 hW2
    have hb2 := hid (show Below w.heap.size w W2 by rw [hW2]; exact hb1.out.alloc hz1 _)
    have hc2' := hid (show Below w1.heap.size w1 W2 by rw [hW2]; exact (Below.refl _ _).alloc (Nat.le_refl _) _)
    have hx2 := hid (show Box W2 w1.heap.size #[.int .i64 s.addr, .int .i64 s.count, .slice A1 s.line.length c1] 42 by rw [hW2]; exact Box.new _ _ _)
    have hr2 := hid (show Row intE W2 W2.heap.size (.slice A1 s.line.length c1) s.line by rw [hW2]; exact hr1.out.keep ((Below.refl _ _).alloc (Nat.le_refl _) _) (by simp))
    clear hW2
    refine (ref07_Place (.slice A1 s.line.length c1) s.line who W2 hr2.out).mono ?_
    rintro e w3 ⟨rfl, rfl⟩
    have k0 := hx2.out.cell 0 _ rfl
    have k1 := hx2.out.cell 1 _ rfl
    have k2 := hx2.out.cell 2 _ rfl
    go_wp2
    exact bodyPost_ret (v := .tuple #[.slice none 0 0, .bool false, .int .i64 7]) (by simp [results, Try.results45, go_sem]) rfl (boolErrNil hA.out.1 hA.out.2.1 hA.out.2.2 hb2.out)
  · by_cases h4 : 0 < s.count
    · obtain ⟨s', hq⟩ : ∃ s', s' = (⟨s.addr, s.count - 1, s.line⟩ : Spot) := ⟨_, rfl⟩
      have hA := hid (show racqL t a who first = rsetL t s' ∧ racqT t a who = true ∧ racqE t a who first = rsetE t s' by rw [hE.out, hL.out, hT.out, if_neg h3, if_neg h3, if_neg h3, if_pos h4, if_pos h4, hq]; exact ⟨rfl, by simpa using h4, rfl⟩)
      replace hq := hid hq
      clear hE hL hT
      go_enter Try.func45, Try.ntmps45
      go_wp2_with fail
      refine (hG.out _ (Below.refl _ _)).mono ?_
      rintro e w1 ⟨v1, rfl, hr1, hb1⟩
      obtain ⟨A1, c1, rfl, hlc1, hcm1⟩ := hr1.open
      unfold maxLen at hcm1
      have hr1 := hid hr1
      have hb1 := hid hb1
      have hz1 := hb1.out.size
      go_wp2_with fail
      refine calls_name ?_
      intro W2 hW2
      have hb2 := hid (show Below w.heap.size w W2 by rw [hW2]; exact hb1.out.alloc hz1 _)
      have hc2' := hid (show Below w1.heap.size w1 W2 by rw [hW2]; exact (Below.refl _ _).alloc (Nat.le_refl _) _)
      have hx2 := hid (show Box W2 w1.heap.size #[.int .i64 s.addr, .int .i64 s.count, .slice A1 s.line.length c1] 42 by rw [hW2]; exact Box.new _ _ _)
      have hr2 := hid (show Row intE W2 W2.heap.size (.slice A1 s.line.length c1) s.line by rw [hW2]; exact hr1.out.keep ((Below.refl _ _).alloc (Nat.le_refl _) _) (by simp))
      clear hW2
      refine (ref07_Place (.slice A1 s.line.length c1) s.line who W2 hr2.out).mono ?_
      rintro e w3 ⟨rfl, rfl⟩
      have k0 := hx2.out.cell 0 _ rfl
      have k1 := hx2.out.cell 1 _ rfl
      have k2 := hx2.out.cell 2 _ rfl
      have k0 := hx2.out.cell 0 _ rfl
      have k1 := hx2.out.cell 1 _ rfl
      have k2 := hx2.out.cell 2 _ rfl
      have f1 := hx2.out.frozen 1
      go_wp2_with fail
      refine calls_name ?_
      intro W4 hW4
      have hb4 := hid (show Below w.heap.size w W4 by rw [hW4]; exact hb2.out.setCell (p := ⟨w1.heap.size, 1, none⟩) hz1 _)
      have hc4 : Below w1.heap.size w1 W4 := by rw [hW4]; exact hc2'.out.setCell (p := ⟨w1.heap.size, 1, none⟩) (Nat.le_refl _) _
      have hr4 := hid (show Row intE W4 W4.heap.size (.slice A1 s.line.length c1) s.line from hr1.out.keep hc4 hc4.size)
      clear hW4
      have hSs := hid (hS.out W4 hb4.out s' _ _ _ _ hq.out hr4.out hda.out)
      refine hSs.out.mono ?_
      rintro e w5 ⟨v5, rfl, hr5, hb5⟩
      have hr5 := hid hr5
      have hb5 := hid (hb4.out.trans (hb5.mono hb4.out.size))
      obtain ⟨A5, c5, rfl, _, _⟩ := hr5.out.open
      go_wp2
      exact bodyPost_ret (v := .tuple #[.slice A5 (rsetL t s').length c5, .bool true, .int .i64 (rsetE t s')]) (by simp [results, Try.results45, go_sem]) rfl ⟨_, by rw [hA.out.2.1, hA.out.2.2], by rw [hA.out.1]; exact hr5.out, hb5.out⟩
    · by_cases h5 : s.line.length = 64
      · have h5' : ((s.line.length : Int) == 64) = true := by simp [h5]
        have hA := hid (show racqL t a who first = [] ∧ racqT t a who = false ∧ racqE t a who first = 5 by rw [hE.out, hL.out, hT.out, if_neg h3, if_neg h3, if_neg h3, if_neg h4, if_neg h4, if_pos h5, if_pos h5]; exact ⟨rfl, by simpa using h4, rfl⟩)
        have h5x := hid h5
        clear hE hL hT h5
        go_enter Try.func45, Try.ntmps45
        go_wp2_with fail
        refine (hG.out _ (Below.refl _ _)).mono ?_
        rintro e w1 ⟨v1, rfl, hr1, hb1⟩
        obtain ⟨A1, c1, rfl, hlc1, hcm1⟩ := hr1.open
        unfold maxLen at hcm1
        have hr1 := hid hr1
        have hb1 := hid hb1
        have hz1 := hb1.out.size
        go_wp2_with fail
        refine calls_name ?_
        intro W2 hW2
        have hb2 := hid (show Below w.heap.size w W2 by rw [hW2]; exact hb1.out.alloc hz1 _)
        have hc2' := hid (show Below w1.heap.size w1 W2 by rw [hW2]; exact (Below.refl _ _).alloc (Nat.le_refl _) _)
        have hx2 := hid (show Box W2 w1.heap.size #[.int .i64 s.addr, .int .i64 s.count, .slice A1 s.line.length c1] 42 by rw [hW2]; exact Box.new _ _ _)
        have hr2 := hid (show Row intE W2 W2.heap.size (.slice A1 s.line.length c1) s.line by rw [hW2]; exact hr1.out.keep ((Below.refl _ _).alloc (Nat.le_refl _) _) (by simp))
        clear hW2
        refine (ref07_Place (.slice A1 s.line.length c1) s.line who W2 hr2.out).mono ?_
        rintro e w3 ⟨rfl, rfl⟩
        have k0 := hx2.out.cell 0 _ rfl
        have k1 := hx2.out.cell 1 _ rfl
        have k2 := hx2.out.cell 2 _ rfl
        have k0 := hx2.out.cell 0 _ rfl
        have k1 := hx2.out.cell 1 _ rfl
        have k2 := hx2.out.cell 2 _ rfl
        go_wp2
        exact bodyPost_ret (v := .tuple #[.slice none 0 0, .bool false, .int .i64 5]) (by simp [results, Try.results45, go_sem]) rfl (boolErrNil hA.out.1 hA.out.2.1 hA.out.2.2 hb2.out)
      · have h5' : ((s.line.length : Int) == 64) = false := by simp; omega
        obtain ⟨p, hp⟩ : ∃ p : List Int, p = if first = true then who :: s.line else s.line ++ [who] := ⟨_, rfl⟩
        obtain ⟨s', hq⟩ : ∃ s', s' = (⟨s.addr, s.count, p⟩ : Spot) := ⟨_, rfl⟩
        have hA := hid (show racqL t a who first = rsetL t s' ∧ racqT t a who = false ∧ racqE t a who first = rsetE t s' by rw [hE.out, hL.out, hT.out, if_neg h3, if_neg h3, if_neg h3, if_neg h4, if_neg h4, if_neg h5, if_neg h5, hq, hp]; exact ⟨rfl, by simpa using h4, rfl⟩)
        replace hq := hid hq
        replace hp := hid hp
        clear hE hL hT h5
        go_enter Try.func45, Try.ntmps45
        go_wp2_with fail
        refine (hG.out _ (Below.refl _ _)).mono ?_
        rintro e w1 ⟨v1, rfl, hr1, hb1⟩
        obtain ⟨A1, c1, rfl, hlc1, hcm1⟩ := hr1.open
        unfold maxLen at hcm1
        have hr1 := hid hr1
        have hb1 := hid hb1
        have hz1 := hb1.out.size
        go_wp2_with fail
        refine calls_name ?_
        intro W2 hW2
        have hb2 := hid (show Below w.heap.size w W2 by rw [hW2]; exact hb1.out.alloc hz1 _)
        have hc2' := hid (show Below w1.heap.size w1 W2 by rw [hW2]; exact (Below.refl _ _).alloc (Nat.le_refl _) _)
        have hx2 := hid (show Box W2 w1.heap.size #[.int .i64 s.addr, .int .i64 s.count, .slice A1 s.line.length c1] 42 by rw [hW2]; exact Box.new _ _ _)
        have hr2 := hid (show Row intE W2 W2.heap.size (.slice A1 s.line.length c1) s.line by rw [hW2]; exact hr1.out.keep ((Below.refl _ _).alloc (Nat.le_refl _) _) (by simp))
        clear hW2
        refine (ref07_Place (.slice A1 s.line.length c1) s.line who W2 hr2.out).mono ?_
        rintro e w3 ⟨rfl, rfl⟩
        have k0 := hx2.out.cell 0 _ rfl
        have k1 := hx2.out.cell 1 _ rfl
        have k2 := hx2.out.cell 2 _ rfl
        have hPu := hid (ref07_Push (.slice A1 s.line.length c1) s.line who first W2 hr2.out (by omega))
        rw [← hp.out] at hPu
        have k0 := hx2.out.cell 0 _ rfl
        have k1 := hx2.out.cell 1 _ rfl
        have k2 := hx2.out.cell 2 _ rfl
        go_wp2_with fail
        refine hPu.out.mono ?_
        rintro e w3 ⟨v3, rfl, hr3, hb3⟩
        obtain ⟨A3, c3, rfl, _, _⟩ := hr3.open
        have hr3 := hid hr3
        clear k0 k1 k2
        have hx3 := hid (hx2.out.keep hb3 hx2.out.lt)
        have hb3 := hid (hb2.out.trans (hb3.mono hb2.out.size))
        have k0 := hx3.out.cell 0 _ rfl
        have k1 := hx3.out.cell 1 _ rfl
        have k2 := hx3.out.cell 2 _ rfl
        have f2 := hx3.out.frozen 2
        go_wp2_with fail
        refine calls_name ?_
        intro W4 hW4
        have hb4 := hid (show Below w.heap.size w W4 by rw [hW4]; exact hb3.out.setCell (p := ⟨w1.heap.size, 2, none⟩) hz1 _)
        have hr4 := hid (show Row intE W4 W4.heap.size (.slice A3 p.length c3) p by rw [hW4]; exact (hr3.out.int_set k2 (by intro k n h; cases h) _).keep (Below.refl _ _) (by simp [World.setCell]))
        clear hW4
        have hSs := hid (hS.out W4 hb4.out s' _ _ _ _ hq.out hr4.out hda.out)
        refine hSs.out.mono ?_
        rintro e w5 ⟨v5, rfl, hr5, hb5⟩
        have hr5 := hid hr5
        have hb5 := hid (hb4.out.trans (hb5.mono hb4.out.size))
        obtain ⟨A5, c5, rfl, _, _⟩ := hr5.out.open
        go_wp2
        exact bodyPost_ret (v := .tuple #[.slice A5 (rsetL t s').length c5, .bool false, .int .i64 (rsetE t s')]) (by simp [results, Try.results45, go_sem]) rfl ⟨_, by rw [hA.out.2.1, hA.out.2.2], by rw [hA.out.1]; exact hr5.out, hb5.out⟩
end Go.Proofs.Ytbbkgibopicaeaa
