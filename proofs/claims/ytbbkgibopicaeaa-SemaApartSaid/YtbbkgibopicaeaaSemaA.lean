/- Layer 10 of the program: asking for a grant. -/
import Derived.Test.YtbbkgibopicaeaaSpecSema
namespace Go.Proofs.Ytbbkgibopicaeaa
set_option linter.unusedVariables false
set_option linter.unusedSimpArgs false
open Go.RowKit

/-- A row, a bool and an error. -/
def RowBoolErrPost {α : Type} (E : En α) (l : List α) (b : Bool) (n : Int) (w : World) (e : Ending) (w' : World) : Prop := ∃ v, e = .returned (.tuple #[v, .bool b, .int .i64 n]) ∧ Row E w' w'.heap.size v l ∧ Below w.heap.size w w'
theorem boolErrNil {α : Type} {E : En α} {l : List α} {b : Bool} {n k : Int} {w w' : World} (hl : l = []) (hb' : b = false) (hn : n = k) (hb : Below w.heap.size w w') : RowBoolErrPost E l b n w (.returned (.tuple #[.slice none 0 0, .bool false, .int .i64 k])) w' := by
  subst hl hb' hn
  exact ⟨_, rfl, Row.nil _ _ _, hb⟩

/-- A store into a cell that holds no number leaves a row of numbers. -/
theorem Row.int_set {w : World} {B : Nat} {v : Value} {l : List Int} {a : Addr} {u : Value} (h : Row intE w B v l) (hu : w.cell? a = some u) (hne : ∀ k n, u ≠ .int k n) (x : Value) : Row intE (w.setCell a x) B v l := by
  obtain ⟨A, c, h1, h2, h3, h4, h5⟩ := h
  refine ⟨A, c, h1, h2, h3, h4, fun i y hy => ?_⟩
  obtain ⟨b, o, cs, g1, g2, g3, g4⟩ := h5 i y hy
  refine ⟨b, o, cs, g1, g2, g3, fun j z hz => ?_⟩
  have hz' := g4 j z hz
  have g3' : cs = [.int .i64 y] := g3
  subst g3'
  have e : z = .int .i64 y := by
    match j, hz with
    | 0, hz => simpa using hz.symm
  rw [World.cell?_setCell_other]
  · exact hz'
  · intro e2
    rw [← e2, hu] at hz'
    exact hne _ _ ((Option.some.inj hz').trans e)

theorem root_Set' (v u : Value) (t : List Spot) (s : Spot) (a0 c0 : Int) (l0 : List Int) (w : World) (h : Row spotE w w.heap.size v t) (hs : s = ⟨a0, c0, l0⟩) (hu : Row intE w w.heap.size u l0) :
    Calls Try.prog 23 #[v, .agg #[.int .i64 a0, .int .i64 c0, u]] w (RowErrPost spotE (setRow t s) (setErr t s) w) := by
  subst hs
  exact root_Set v u t ⟨a0, c0, l0⟩ w h hu

theorem acq_no {t : List Spot} {a who : Int} {first : Bool} {k : Int} (h : acqE t a who first = k) (hk : k ≠ 0) : acqL t a who first = [] ∧ acqT t a who first = false := by
  subst h
  unfold acqL acqT
  rw [if_neg hk, if_neg hk]
  exact ⟨rfl, rfl⟩

set_option maxHeartbeats 3200000 in
set_option maxRecDepth 100000 in
theorem sema_Acquire (v : Value) (t : List Spot) (a who : Int) (first : Bool) (w : World) (h : Row spotE w w.heap.size v t) :
    Calls Try.prog 36 #[v, .int .i64 a, .int .i64 who, .bool first] w (RowBoolErrPost spotE (acqL t a who first) (acqT t a who first) (acqE t a who first) w) := by
  have hG := hid (fun W (hb : Below w.heap.size w W) => root_Get_any v t a W (h.keep hb hb.size))
  have hS := hid (fun W (hb : Below w.heap.size w W) s a0 c0 l0 u (hs : s = ⟨a0, c0, l0⟩) (hu : Row intE W W.heap.size u l0) => root_Set' v u t s a0 c0 l0 W (h.keep hb hb.size) hs hu)
  have hll := getS_line t a
  obtain ⟨A, c, rfl, hlc, hcm⟩ := h.open
  clear h
  have hE : Hid (acqE t a who first = if ¬ getE t a = 0 ∨ who < 0 then 1 else if 0 ≤ place (getS t a).line who then 7 else if ¬ 0 < (getS t a).count ∧ ¬ pushE (getS t a).line who first = 0 then pushE (getS t a).line who first else setErr t (acqS (getS t a) who first)) := rfl
  by_cases h1 : getE t a = 0
  · have h1' : (getE t a != 0) = false := by simp [h1]
    by_cases h2 : who < 0
    · have hk := hid (show acqE t a who first = 1 by rw [hE.out, if_pos (Or.inr h2)])
      have hn := hid (acq_no hk.out (by decide))
      clear h1
      go_enter Try.func36, Try.ntmps36
      go_wp2_with fail
      refine (hG.out _ (Below.refl _ _)).mono ?_
      rintro e w1 ⟨v1, rfl, hr1, hb1⟩
      obtain ⟨A1, c1, rfl, _, _⟩ := hr1.open
      have hr1 := hid hr1
      have hb1 := hid hb1
      have hz1 := hb1.out.size
      go_wp2
      exact bodyPost_ret (v := .tuple #[.slice none 0 0, .bool false, .int .i64 1]) (by simp [results, Try.results36, go_sem]) rfl (boolErrNil hn.out.1 hn.out.2 hk.out (hb1.out.alloc hz1 _))
    · by_cases h3 : 0 ≤ place (getS t a).line who
      · have hk := hid (show acqE t a who first = 7 by rw [hE.out, if_neg (by omega), if_pos h3])
        have hn := hid (acq_no hk.out (by decide))
        have h3' : decide (0 ≤ place (getS t a).line who) = true := by simpa using h3
        clear h1
        go_enter Try.func36, Try.ntmps36
        go_wp2_with fail
        refine (hG.out _ (Below.refl _ _)).mono ?_
        rintro e w1 ⟨v1, rfl, hr1, hb1⟩
        obtain ⟨A1, c1, rfl, _, _⟩ := hr1.open
        have hr1 := hid hr1
        have hb1 := hid hb1
        have hz1 := hb1.out.size
        go_wp2_with fail
        refine calls_name ?_
        intro W2 hW2
        have hb2 := hid (show Below w.heap.size w W2 by rw [hW2]; exact hb1.out.alloc hz1 _)
        have hc2 := hid (show Below w1.heap.size w1 W2 by rw [hW2]; exact (Below.refl _ _).alloc (Nat.le_refl _) _)
        have hx2 := hid (show Box W2 w1.heap.size #[.int .i64 (getS t a).addr, .int .i64 (getS t a).count, .slice A1 (getS t a).line.length c1] 42 by rw [hW2]; exact Box.new _ _ _)
        have hr2 := hid (show Row intE W2 W2.heap.size (.slice A1 (getS t a).line.length c1) (getS t a).line by rw [hW2]; exact hr1.out.keep ((Below.refl _ _).alloc (Nat.le_refl _) _) (by simp))
        clear hW2
        have hK := hid (slices_Contains (.slice A1 (getS t a).line.length c1) (getS t a).line who W2 hr2.out)
        rw [h3'] at hK
        refine hK.out.mono ?_
        rintro e w3 ⟨rfl, rfl⟩
        go_wp2
        exact bodyPost_ret (v := .tuple #[.slice none 0 0, .bool false, .int .i64 7]) (by simp [results, Try.results36, go_sem]) rfl (boolErrNil hn.out.1 hn.out.2 hk.out hb2.out)
      · have h3' : decide (0 ≤ place (getS t a).line who) = false := by simpa using h3
        obtain ⟨s', hs'⟩ : ∃ s', acqS (getS t a) who first = s' := ⟨_, rfl⟩
        rw [hs'] at hE
        have hLT : Hid (acqE t a who first = 0 → acqL t a who first = setRow t s' ∧ acqT t a who first = decide (0 < (getS t a).count)) := fun h => by unfold acqL acqT; rw [if_pos h, if_pos h, hs']; exact ⟨rfl, rfl⟩
        by_cases h4 : 0 < (getS t a).count
        · have hq := hid (show s' = ⟨(getS t a).addr, (getS t a).count - 1, (getS t a).line⟩ by rw [← hs']; unfold acqS; rw [if_pos h4])
          have hk := hid (show acqE t a who first = setErr t s' by rw [hE.out, if_neg (by omega), if_neg h3, if_neg (fun e => e.1 h4)])
          obtain ⟨hc1, hc2⟩ := getS_count t a
          have hs' := hid hs'
          by_cases h5 : setErr t s' = 0
          · have h5' : (setErr t s' != 0) = false := by simp [h5]
            have hL := hid (hLT.out (by rw [hk.out, h5]))
            have hk0 := hid (show acqE t a who first = 0 by rw [hk.out, h5])
            have h4' := hid (show decide (0 < (getS t a).count) = true by simpa using h4)
            clear h1 h5
            go_enter Try.func36, Try.ntmps36
            go_wp2_with fail
            refine (hG.out _ (Below.refl _ _)).mono ?_
            rintro e w1 ⟨v1, rfl, hr1, hb1⟩
            obtain ⟨A1, c1, rfl, _, _⟩ := hr1.open
            have hr1 := hid hr1
            have hb1 := hid hb1
            have hz1 := hb1.out.size
            go_wp2_with fail
            refine calls_name ?_
            intro W2 hW2
            have hb2 := hid (show Below w.heap.size w W2 by rw [hW2]; exact hb1.out.alloc hz1 _)
            have hc2 := hid (show Below w1.heap.size w1 W2 by rw [hW2]; exact (Below.refl _ _).alloc (Nat.le_refl _) _)
            have hx2 := hid (show Box W2 w1.heap.size #[.int .i64 (getS t a).addr, .int .i64 (getS t a).count, .slice A1 (getS t a).line.length c1] 42 by rw [hW2]; exact Box.new _ _ _)
            have hr2 := hid (show Row intE W2 W2.heap.size (.slice A1 (getS t a).line.length c1) (getS t a).line by rw [hW2]; exact hr1.out.keep ((Below.refl _ _).alloc (Nat.le_refl _) _) (by simp))
            clear hW2
            have hK := hid (slices_Contains (.slice A1 (getS t a).line.length c1) (getS t a).line who W2 hr2.out)
            refine hK.out.mono ?_
            rintro e w3 ⟨rfl, rfl⟩
            have k0 := hx2.out.cell 0 _ rfl
            have k1 := hx2.out.cell 1 _ rfl
            have k2 := hx2.out.cell 2 _ rfl
            have f1 := hx2.out.frozen 1
            go_wp2_with fail
            refine calls_name ?_
            intro W4 hW4
            have hb4 := hid (show Below w.heap.size w W4 by rw [hW4]; exact hb2.out.setCell (p := ⟨w1.heap.size, 1, none⟩) hz1 _)
            have hc4 : Below w1.heap.size w1 W4 := by rw [hW4]; exact hc2.out.setCell (p := ⟨w1.heap.size, 1, none⟩) (Nat.le_refl _) _
            have hr4 := hid (show Row intE W4 W4.heap.size (.slice A1 (getS t a).line.length c1) (getS t a).line from hr1.out.keep hc4 hc4.size)
            clear hW4
            have hSs := hid (hS.out W4 hb4.out s' _ _ _ _ hq.out hr4.out)
            refine hSs.out.mono ?_
            rintro e w5 ⟨v5, rfl, hr5, hb5⟩
            have hr5 := hid hr5
            have hb5 := hid (hb4.out.trans (hb5.mono hb4.out.size))
            obtain ⟨A5, c5, rfl, _, _⟩ := hr5.out.open
            go_wp2
            exact bodyPost_ret (v := .tuple #[.slice A5 (setRow t s').length c5, .bool true, .int .i64 0]) (by simp [results, Try.results36, go_sem]) rfl ⟨_, by rw [hL.out.2, hk0.out, h4'.out], by rw [hL.out.1]; exact hr5.out, hb5.out⟩
          · have h5' : (setErr t s' != 0) = true := by simp [h5]
            have hn := hid (acq_no hk.out h5)
            clear h1 h5
            go_enter Try.func36, Try.ntmps36
            go_wp2_with fail
            refine (hG.out _ (Below.refl _ _)).mono ?_
            rintro e w1 ⟨v1, rfl, hr1, hb1⟩
            obtain ⟨A1, c1, rfl, _, _⟩ := hr1.open
            have hr1 := hid hr1
            have hb1 := hid hb1
            have hz1 := hb1.out.size
            go_wp2_with fail
            refine calls_name ?_
            intro W2 hW2
            have hb2 := hid (show Below w.heap.size w W2 by rw [hW2]; exact hb1.out.alloc hz1 _)
            have hc2 := hid (show Below w1.heap.size w1 W2 by rw [hW2]; exact (Below.refl _ _).alloc (Nat.le_refl _) _)
            have hx2 := hid (show Box W2 w1.heap.size #[.int .i64 (getS t a).addr, .int .i64 (getS t a).count, .slice A1 (getS t a).line.length c1] 42 by rw [hW2]; exact Box.new _ _ _)
            have hr2 := hid (show Row intE W2 W2.heap.size (.slice A1 (getS t a).line.length c1) (getS t a).line by rw [hW2]; exact hr1.out.keep ((Below.refl _ _).alloc (Nat.le_refl _) _) (by simp))
            clear hW2
            have hK := hid (slices_Contains (.slice A1 (getS t a).line.length c1) (getS t a).line who W2 hr2.out)
            refine hK.out.mono ?_
            rintro e w3 ⟨rfl, rfl⟩
            have k0 := hx2.out.cell 0 _ rfl
            have k1 := hx2.out.cell 1 _ rfl
            have k2 := hx2.out.cell 2 _ rfl
            have f1 := hx2.out.frozen 1
            go_wp2_with fail
            refine calls_name ?_
            intro W4 hW4
            have hb4 := hid (show Below w.heap.size w W4 by rw [hW4]; exact hb2.out.setCell (p := ⟨w1.heap.size, 1, none⟩) hz1 _)
            have hc4 : Below w1.heap.size w1 W4 := by rw [hW4]; exact hc2.out.setCell (p := ⟨w1.heap.size, 1, none⟩) (Nat.le_refl _) _
            have hr4 := hid (show Row intE W4 W4.heap.size (.slice A1 (getS t a).line.length c1) (getS t a).line from hr1.out.keep hc4 hc4.size)
            clear hW4
            have hSs := hid (hS.out W4 hb4.out s' _ _ _ _ hq.out hr4.out)
            refine hSs.out.mono ?_
            rintro e w5 ⟨v5, rfl, hr5, hb5⟩
            have hr5 := hid hr5
            have hb5 := hid (hb4.out.trans (hb5.mono hb4.out.size))
            obtain ⟨A5, c5, rfl, _, _⟩ := hr5.out.open
            go_wp2
            exact bodyPost_ret (v := .tuple #[.slice none 0 0, .bool false, .int .i64 (setErr t s')]) (by simp [results, Try.results36, go_sem]) rfl (boolErrNil hn.out.1 hn.out.2 hk.out hb5.out)
        · have hq := hid (show s' = ⟨(getS t a).addr, (getS t a).count, pushL (getS t a).line who first⟩ by rw [← hs']; unfold acqS; rw [if_neg h4])
          have h4' := hid (show decide (0 < (getS t a).count) = false by simpa using h4)
          have hs' := hid hs'
          by_cases h6 : pushE (getS t a).line who first = 0
          · have h6' : (pushE (getS t a).line who first != 0) = false := by simp [h6]
            have hk := hid (show acqE t a who first = setErr t s' by rw [hE.out, if_neg (by omega), if_neg h3, if_neg (fun e => e.2 h6)])
            by_cases h5 : setErr t s' = 0
            · have h5' : (setErr t s' != 0) = false := by simp [h5]
              have hL := hid (hLT.out (by rw [hk.out, h5]))
              have hk0 := hid (show acqE t a who first = 0 by rw [hk.out, h5])
              clear h1 h5 h6
              go_enter Try.func36, Try.ntmps36
              go_wp2_with fail
              refine (hG.out _ (Below.refl _ _)).mono ?_
              rintro e w1 ⟨v1, rfl, hr1, hb1⟩
              obtain ⟨A1, c1, rfl, _, _⟩ := hr1.open
              have hr1 := hid hr1
              have hb1 := hid hb1
              have hz1 := hb1.out.size
              go_wp2_with fail
              refine calls_name ?_
              intro W2 hW2
              have hb2 := hid (show Below w.heap.size w W2 by rw [hW2]; exact hb1.out.alloc hz1 _)
              have hc2 := hid (show Below w1.heap.size w1 W2 by rw [hW2]; exact (Below.refl _ _).alloc (Nat.le_refl _) _)
              have hx2 := hid (show Box W2 w1.heap.size #[.int .i64 (getS t a).addr, .int .i64 (getS t a).count, .slice A1 (getS t a).line.length c1] 42 by rw [hW2]; exact Box.new _ _ _)
              have hr2 := hid (show Row intE W2 W2.heap.size (.slice A1 (getS t a).line.length c1) (getS t a).line by rw [hW2]; exact hr1.out.keep ((Below.refl _ _).alloc (Nat.le_refl _) _) (by simp))
              clear hW2
              have hK := hid (slices_Contains (.slice A1 (getS t a).line.length c1) (getS t a).line who W2 hr2.out)
              refine hK.out.mono ?_
              rintro e w3 ⟨rfl, rfl⟩
              have hPu := hid (line_Push (.slice A1 (getS t a).line.length c1) (getS t a).line who first W2 hr2.out (by omega))
              have k0 := hx2.out.cell 0 _ rfl
              have k1 := hx2.out.cell 1 _ rfl
              have k2 := hx2.out.cell 2 _ rfl
              go_wp2_with fail
              refine hPu.out.mono ?_
              rintro e w3 ⟨v3, rfl, hr3, hb3⟩
              obtain ⟨A3, c3, rfl, _, _⟩ := hr3.open
              have hr3 := hid hr3
              clear k0 k1 k2
              have hx3 := hid (hx2.out.keep hb3 hx2.out.lt)
              have hb3 := hid (hb2.out.trans (hb3.mono hb2.out.size))
              have k0 := hx3.out.cell 0 _ rfl
              have k1 := hx3.out.cell 1 _ rfl
              have k2 := hx3.out.cell 2 _ rfl
              have f2 := hx3.out.frozen 2
              go_wp2_with fail
              refine calls_name ?_
              intro W4 hW4
              have hb4 := hid (show Below w.heap.size w W4 by rw [hW4]; exact hb3.out.setCell (p := ⟨w1.heap.size, 2, none⟩) hz1 _)
              have hr4 := hid (show Row intE W4 W4.heap.size (.slice A3 (pushL (getS t a).line who first).length c3) (pushL (getS t a).line who first) by rw [hW4]; exact (hr3.out.int_set k2 (by intro k n h; cases h) _).keep (Below.refl _ _) (by simp [World.setCell]))
              clear hW4
              have hSs := hid (hS.out W4 hb4.out s' _ _ _ _ hq.out hr4.out)
              refine hSs.out.mono ?_
              rintro e w5 ⟨v5, rfl, hr5, hb5⟩
              have hr5 := hid hr5
              have hb5 := hid (hb4.out.trans (hb5.mono hb4.out.size))
              obtain ⟨A5, c5, rfl, _, _⟩ := hr5.out.open
              go_wp2
              exact bodyPost_ret (v := .tuple #[.slice A5 (setRow t s').length c5, .bool false, .int .i64 0]) (by have := h4'.out; simp at this; simp [results, Try.results36, go_sem, this]) rfl ⟨_, by rw [hL.out.2, hk0.out, h4'.out], by rw [hL.out.1]; exact hr5.out, hb5.out⟩
            · have h5' : (setErr t s' != 0) = true := by simp [h5]
              have hn := hid (acq_no hk.out h5)
              clear h1 h5 h6
              go_enter Try.func36, Try.ntmps36
              go_wp2_with fail
              refine (hG.out _ (Below.refl _ _)).mono ?_
              rintro e w1 ⟨v1, rfl, hr1, hb1⟩
              obtain ⟨A1, c1, rfl, _, _⟩ := hr1.open
              have hr1 := hid hr1
              have hb1 := hid hb1
              have hz1 := hb1.out.size
              go_wp2_with fail
              refine calls_name ?_
              intro W2 hW2
              have hb2 := hid (show Below w.heap.size w W2 by rw [hW2]; exact hb1.out.alloc hz1 _)
              have hc2 := hid (show Below w1.heap.size w1 W2 by rw [hW2]; exact (Below.refl _ _).alloc (Nat.le_refl _) _)
              have hx2 := hid (show Box W2 w1.heap.size #[.int .i64 (getS t a).addr, .int .i64 (getS t a).count, .slice A1 (getS t a).line.length c1] 42 by rw [hW2]; exact Box.new _ _ _)
              have hr2 := hid (show Row intE W2 W2.heap.size (.slice A1 (getS t a).line.length c1) (getS t a).line by rw [hW2]; exact hr1.out.keep ((Below.refl _ _).alloc (Nat.le_refl _) _) (by simp))
              clear hW2
              have hK := hid (slices_Contains (.slice A1 (getS t a).line.length c1) (getS t a).line who W2 hr2.out)
              refine hK.out.mono ?_
              rintro e w3 ⟨rfl, rfl⟩
              have hPu := hid (line_Push (.slice A1 (getS t a).line.length c1) (getS t a).line who first W2 hr2.out (by omega))
              have k0 := hx2.out.cell 0 _ rfl
              have k1 := hx2.out.cell 1 _ rfl
              have k2 := hx2.out.cell 2 _ rfl
              go_wp2_with fail
              refine hPu.out.mono ?_
              rintro e w3 ⟨v3, rfl, hr3, hb3⟩
              obtain ⟨A3, c3, rfl, _, _⟩ := hr3.open
              have hr3 := hid hr3
              clear k0 k1 k2
              have hx3 := hid (hx2.out.keep hb3 hx2.out.lt)
              have hb3 := hid (hb2.out.trans (hb3.mono hb2.out.size))
              have k0 := hx3.out.cell 0 _ rfl
              have k1 := hx3.out.cell 1 _ rfl
              have k2 := hx3.out.cell 2 _ rfl
              have f2 := hx3.out.frozen 2
              go_wp2_with fail
              refine calls_name ?_
              intro W4 hW4
              have hb4 := hid (show Below w.heap.size w W4 by rw [hW4]; exact hb3.out.setCell (p := ⟨w1.heap.size, 2, none⟩) hz1 _)
              have hr4 := hid (show Row intE W4 W4.heap.size (.slice A3 (pushL (getS t a).line who first).length c3) (pushL (getS t a).line who first) by rw [hW4]; exact (hr3.out.int_set k2 (by intro k n h; cases h) _).keep (Below.refl _ _) (by simp [World.setCell]))
              clear hW4
              have hSs := hid (hS.out W4 hb4.out s' _ _ _ _ hq.out hr4.out)
              refine hSs.out.mono ?_
              rintro e w5 ⟨v5, rfl, hr5, hb5⟩
              have hr5 := hid hr5
              have hb5 := hid (hb4.out.trans (hb5.mono hb4.out.size))
              obtain ⟨A5, c5, rfl, _, _⟩ := hr5.out.open
              go_wp2
              exact bodyPost_ret (v := .tuple #[.slice none 0 0, .bool false, .int .i64 (setErr t s')]) (by simp [results, Try.results36, go_sem]) rfl (boolErrNil hn.out.1 hn.out.2 hk.out hb5.out)
          · have h6' : (pushE (getS t a).line who first != 0) = true := by simp [h6]
            have hk := hid (show acqE t a who first = pushE (getS t a).line who first by rw [hE.out, if_neg (by omega), if_neg h3, if_pos ⟨h4, h6⟩])
            have hn := hid (acq_no hk.out h6)
            clear h1 h6
            go_enter Try.func36, Try.ntmps36
            go_wp2_with fail
            refine (hG.out _ (Below.refl _ _)).mono ?_
            rintro e w1 ⟨v1, rfl, hr1, hb1⟩
            obtain ⟨A1, c1, rfl, _, _⟩ := hr1.open
            have hr1 := hid hr1
            have hb1 := hid hb1
            have hz1 := hb1.out.size
            go_wp2_with fail
            refine calls_name ?_
            intro W2 hW2
            have hb2 := hid (show Below w.heap.size w W2 by rw [hW2]; exact hb1.out.alloc hz1 _)
            have hc2 := hid (show Below w1.heap.size w1 W2 by rw [hW2]; exact (Below.refl _ _).alloc (Nat.le_refl _) _)
            have hx2 := hid (show Box W2 w1.heap.size #[.int .i64 (getS t a).addr, .int .i64 (getS t a).count, .slice A1 (getS t a).line.length c1] 42 by rw [hW2]; exact Box.new _ _ _)
            have hr2 := hid (show Row intE W2 W2.heap.size (.slice A1 (getS t a).line.length c1) (getS t a).line by rw [hW2]; exact hr1.out.keep ((Below.refl _ _).alloc (Nat.le_refl _) _) (by simp))
            clear hW2
            have hK := hid (slices_Contains (.slice A1 (getS t a).line.length c1) (getS t a).line who W2 hr2.out)
            refine hK.out.mono ?_
            rintro e w3 ⟨rfl, rfl⟩
            have hPu := hid (line_Push (.slice A1 (getS t a).line.length c1) (getS t a).line who first W2 hr2.out (by omega))
            have k0 := hx2.out.cell 0 _ rfl
            have k1 := hx2.out.cell 1 _ rfl
            have k2 := hx2.out.cell 2 _ rfl
            go_wp2_with fail
            refine hPu.out.mono ?_
            rintro e w3 ⟨v3, rfl, hr3, hb3⟩
            obtain ⟨A3, c3, rfl, _, _⟩ := hr3.open
            have hr3 := hid hr3
            clear k0 k1 k2
            have hx3 := hid (hx2.out.keep hb3 hx2.out.lt)
            have hb3 := hid (hb2.out.trans (hb3.mono hb2.out.size))
            have k0 := hx3.out.cell 0 _ rfl
            have k1 := hx3.out.cell 1 _ rfl
            have k2 := hx3.out.cell 2 _ rfl
            have f2 := hx3.out.frozen 2
            go_wp2
            exact bodyPost_ret (v := .tuple #[.slice none 0 0, .bool false, .int .i64 (pushE (getS t a).line who first)]) (by simp [results, Try.results36, go_sem]) rfl (boolErrNil hn.out.1 hn.out.2 hk.out (hb3.out.setCell (p := ⟨w1.heap.size, 2, none⟩) hz1 _))
  · have h1' : (getE t a != 0) = true := by simp [h1]
    have hk := hid (show acqE t a who first = 1 by rw [hE.out, if_pos (Or.inl h1)])
    have hn := hid (acq_no hk.out (by decide))
    clear h1
    go_enter Try.func36, Try.ntmps36
    go_wp2_with fail
    refine (hG.out _ (Below.refl _ _)).mono ?_
    rintro e w1 ⟨v1, rfl, hr1, hb1⟩
    obtain ⟨A1, c1, rfl, _, _⟩ := hr1.open
    have hr1 := hid hr1
    have hb1 := hid hb1
    have hz1 := hb1.out.size
    go_wp2
    exact bodyPost_ret (v := .tuple #[.slice none 0 0, .bool false, .int .i64 1]) (by simp [results, Try.results36, go_sem]) rfl (boolErrNil hn.out.1 hn.out.2 hk.out (hb1.out.alloc hz1 _))
end Go.Proofs.Ytbbkgibopicaeaa
