/- Layer 10 of the program: a grant is given. -/
import Derived.Test.YtbbkgibopicaeaaSemaA
namespace Go.Proofs.Ytbbkgibopicaeaa
set_option linter.unusedVariables false
set_option linter.unusedSimpArgs false
open Go.RowKit

/-- A row, a number and an error. -/
def RowIntErrPost {α : Type} (E : En α) (l : List α) (b : Int) (n : Int) (w : World) (e : Ending) (w' : World) : Prop := ∃ v, e = .returned (.tuple #[v, .int .i64 b, .int .i64 n]) ∧ Row E w' w'.heap.size v l ∧ Below w.heap.size w w'
theorem intErrNil {α : Type} {E : En α} {l : List α} {b : Int} {n k : Int} {w w' : World} (hl : l = []) (hb' : b = 0) (hn : n = k) (hb : Below w.heap.size w w') : RowIntErrPost E l b n w (.returned (.tuple #[.slice none 0 0, .int .i64 0, .int .i64 k])) w' := by
  subst hl hb' hn
  exact ⟨_, rfl, Row.nil _ _ _, hb⟩

theorem rel_no {t : List Spot} {a : Int} {k : Int} (h : relE t a = k) (hk : k ≠ 0) : relL t a = [] ∧ relW t a = 0 := by
  subst h
  unfold relL relW
  rw [if_neg hk, if_neg hk]
  exact ⟨rfl, rfl⟩

theorem line_Pop_some (l tl : List Int) (hd : Int) (h : popE l = 0) (ht : tl = l.tail) (hh : hd = l.headD 0) (v : Value) (w : World) (hr : Row intE w w.heap.size v l) :
    Calls Try.prog 68 #[v] w fun e w' => ∃ v', e = .returned (.tuple #[v', .int .i64 hd, .int .i64 0]) ∧ Row intE w' w'.heap.size v' tl ∧ Below w.heap.size w w' :=
  (line_Pop v l w hr).mono fun e w' ⟨v', he, hr', hb⟩ => by
    rw [h] at he hr'
    simp only [if_true] at he hr'
    subst ht hh
    exact ⟨v', he, hr'.keep (Below.refl _ _) hb.size, hb⟩

theorem line_Pop_none (l : List Int) (h : ¬ popE l = 0) (v : Value) (w : World) (hr : Row intE w w.heap.size v l) :
    Calls Try.prog 68 #[v] w fun e w' => ∃ v', e = .returned (.tuple #[v', .int .i64 0, .int .i64 (popE l)]) ∧ Row intE w' w'.heap.size v' [] ∧ Below w.heap.size w w' :=
  (line_Pop v l w hr).mono fun e w' ⟨v', he, hr', hb⟩ => by
    simp only [if_neg h] at he hr'
    exact ⟨v', he, hr'.keep (Below.refl _ _) hb.size, hb⟩

set_option maxHeartbeats 3200000 in
set_option maxRecDepth 100000 in
theorem sema_Release (v : Value) (t : List Spot) (a : Int) (w : World) (h : Row spotE w w.heap.size v t) :
    Calls Try.prog 38 #[v, .int .i64 a] w (RowIntErrPost spotE (relL t a) (relW t a) (relE t a) w) := by
  have hG := hid (fun W (hb : Below w.heap.size w W) => root_Get_any v t a W (h.keep hb hb.size))
  have hS := hid (fun W (hb : Below w.heap.size w W) s a0 c0 l0 u (hs : s = ⟨a0, c0, l0⟩) (hu : Row intE W W.heap.size u l0) => root_Set' v u t s a0 c0 l0 W (h.keep hb hb.size) hs hu)
  obtain ⟨A, c, rfl, hlc, hcm⟩ := h.open
  clear h
  obtain ⟨hc1, hc2⟩ := getS_count t a
  have hE : Hid (relE t a = if ¬ getE t a = 0 then 1 else if ¬ popE (getS t a).line = 0 ∧ (getS t a).count = 2147483647 then 10 else setErr t (relS (getS t a))) := rfl
  by_cases h1 : getE t a = 0
  · have h1' : (getE t a != 0) = false := by simp [h1]
    obtain ⟨s', hs'⟩ : ∃ s', relS (getS t a) = s' := ⟨_, rfl⟩
    rw [hs'] at hE
    have hLW : Hid (relE t a = 0 → relL t a = setRow t s' ∧ relW t a = if popE (getS t a).line = 0 then (getS t a).line.headD 0 else -1) := fun h => by unfold relL relW; rw [if_pos h, if_pos h, hs']; exact ⟨rfl, rfl⟩
    by_cases h2 : popE (getS t a).line = 0
    · have h2' : (popE (getS t a).line == 0) = true := by simp [h2]
      obtain ⟨tl, htl⟩ : ∃ tl, tl = (getS t a).line.tail := ⟨_, rfl⟩
      obtain ⟨hd, hhd⟩ : ∃ hd, hd = (getS t a).line.headD 0 := ⟨_, rfl⟩
      have hq := hid (show s' = ⟨(getS t a).addr, (getS t a).count, tl⟩ by rw [← hs', htl]; unfold relS; rw [if_pos h2])
      have hPop := hid (line_Pop_some (getS t a).line tl hd h2 htl hhd)
      have hhd2 := hid hhd
      clear htl hhd
      have hk := hid (show relE t a = setErr t s' by rw [hE.out, if_neg (by omega), if_neg (fun e => e.1 h2)])
      have hs' := hid hs'
      by_cases h5 : setErr t s' = 0
      · have h5' : (setErr t s' != 0) = false := by simp [h5]
        have hL := hid (hLW.out (by rw [hk.out, h5]))
        rw [if_pos h2] at hL
        have hk0 := hid (show relE t a = 0 by rw [hk.out, h5])
        clear h1 h5
        go_enter Try.func38, Try.ntmps38
        go_wp2_with fail
        refine (hG.out _ (Below.refl _ _)).mono ?_
        rintro e w1 ⟨v1, rfl, hr1, hb1⟩
        obtain ⟨A1, c1, rfl, _, _⟩ := hr1.open
        have hr1 := hid hr1
        have hb1 := hid hb1
        have hz1 := hb1.out.size
        go_wp2_with fail
        refine calls_name ?_
        intro W2 hW2
        have hb2 := hid (show Below w.heap.size w W2 by rw [hW2]; exact hb1.out.alloc hz1 _)
        have hx2 := hid (show Box W2 w1.heap.size #[.int .i64 (getS t a).addr, .int .i64 (getS t a).count, .slice A1 (getS t a).line.length c1] 42 by rw [hW2]; exact Box.new _ _ _)
        have hr2 := hid (show Row intE W2 W2.heap.size (.slice A1 (getS t a).line.length c1) (getS t a).line by rw [hW2]; exact hr1.out.keep ((Below.refl _ _).alloc (Nat.le_refl _) _) (by simp))
        have hc2 := hid (show Below w1.heap.size w1 W2 by rw [hW2]; exact (Below.refl _ _).alloc (Nat.le_refl _) _)
        clear hW2
        refine (hPop.out (.slice A1 (getS t a).line.length c1) W2 hr2.out).mono ?_
        rintro e w3 ⟨v3, rfl, hr3, hb3⟩
        obtain ⟨A3, c3, rfl, _, _⟩ := hr3.open
        have hr3 := hid hr3
        have hx3 := hid (hx2.out.keep hb3 hx2.out.lt)
        have hc3 := hid (hc2.out.trans (hb3.mono hc2.out.size))
        have hb3 := hid (hb2.out.trans (hb3.mono hb2.out.size))
        have k0 := hx3.out.cell 0 _ rfl
        have k1 := hx3.out.cell 1 _ rfl
        have k2 := hx3.out.cell 2 _ rfl
        have f1 := hx3.out.frozen 1
        have f2 := hx3.out.frozen 2
        go_wp2_with fail
        refine calls_name ?_
        intro W4 hW4
        have hb4 := hid (show Below w.heap.size w W4 by rw [hW4]; exact hb3.out.setCell (p := ⟨w1.heap.size, 2, none⟩) hz1 _)
        have hr4 := hid (show Row intE W4 W4.heap.size (.slice A3 tl.length c3) tl by rw [hW4]; exact (hr3.out.int_set k2 (by intro k n h; cases h) _).keep (Below.refl _ _) (by simp [World.setCell]))
        clear hW4
        have hSs := hid (hS.out W4 hb4.out s' _ _ _ _ hq.out hr4.out)
        refine hSs.out.mono ?_
        rintro e w5 ⟨v5, rfl, hr5, hb5⟩
        have hr5 := hid hr5
        have hb5 := hid (hb4.out.trans (hb5.mono hb4.out.size))
        obtain ⟨A5, c5, rfl, _, _⟩ := hr5.out.open
        go_wp2
        exact bodyPost_ret (v := .tuple #[.slice A5 (setRow t s').length c5, .int .i64 hd, .int .i64 0]) (by simp [results, Try.results38, go_sem]) rfl ⟨_, by rw [hL.out.2, hk0.out, hhd2.out], by rw [hL.out.1]; exact hr5.out, hb5.out⟩
      · have h5' : (setErr t s' != 0) = true := by simp [h5]
        have hn := hid (rel_no hk.out h5)
        clear h1 h5
        go_enter Try.func38, Try.ntmps38
        go_wp2_with fail
        refine (hG.out _ (Below.refl _ _)).mono ?_
        rintro e w1 ⟨v1, rfl, hr1, hb1⟩
        obtain ⟨A1, c1, rfl, _, _⟩ := hr1.open
        have hr1 := hid hr1
        have hb1 := hid hb1
        have hz1 := hb1.out.size
        go_wp2_with fail
        refine calls_name ?_
        intro W2 hW2
        have hb2 := hid (show Below w.heap.size w W2 by rw [hW2]; exact hb1.out.alloc hz1 _)
        have hx2 := hid (show Box W2 w1.heap.size #[.int .i64 (getS t a).addr, .int .i64 (getS t a).count, .slice A1 (getS t a).line.length c1] 42 by rw [hW2]; exact Box.new _ _ _)
        have hr2 := hid (show Row intE W2 W2.heap.size (.slice A1 (getS t a).line.length c1) (getS t a).line by rw [hW2]; exact hr1.out.keep ((Below.refl _ _).alloc (Nat.le_refl _) _) (by simp))
        have hc2 := hid (show Below w1.heap.size w1 W2 by rw [hW2]; exact (Below.refl _ _).alloc (Nat.le_refl _) _)
        clear hW2
        refine (hPop.out (.slice A1 (getS t a).line.length c1) W2 hr2.out).mono ?_
        rintro e w3 ⟨v3, rfl, hr3, hb3⟩
        obtain ⟨A3, c3, rfl, _, _⟩ := hr3.open
        have hr3 := hid hr3
        have hx3 := hid (hx2.out.keep hb3 hx2.out.lt)
        have hc3 := hid (hc2.out.trans (hb3.mono hc2.out.size))
        have hb3 := hid (hb2.out.trans (hb3.mono hb2.out.size))
        have k0 := hx3.out.cell 0 _ rfl
        have k1 := hx3.out.cell 1 _ rfl
        have k2 := hx3.out.cell 2 _ rfl
        have f1 := hx3.out.frozen 1
        have f2 := hx3.out.frozen 2
        go_wp2_with fail
        refine calls_name ?_
        intro W4 hW4
        have hb4 := hid (show Below w.heap.size w W4 by rw [hW4]; exact hb3.out.setCell (p := ⟨w1.heap.size, 2, none⟩) hz1 _)
        have hr4 := hid (show Row intE W4 W4.heap.size (.slice A3 tl.length c3) tl by rw [hW4]; exact (hr3.out.int_set k2 (by intro k n h; cases h) _).keep (Below.refl _ _) (by simp [World.setCell]))
        clear hW4
        have hSs := hid (hS.out W4 hb4.out s' _ _ _ _ hq.out hr4.out)
        refine hSs.out.mono ?_
        rintro e w5 ⟨v5, rfl, hr5, hb5⟩
        have hr5 := hid hr5
        have hb5 := hid (hb4.out.trans (hb5.mono hb4.out.size))
        obtain ⟨A5, c5, rfl, _, _⟩ := hr5.out.open
        go_wp2
        exact bodyPost_ret (v := .tuple #[.slice none 0 0, .int .i64 0, .int .i64 (setErr t s')]) (by simp [results, Try.results38, go_sem]) rfl (intErrNil hn.out.1 hn.out.2 hk.out hb5.out)
    · have h2' : (popE (getS t a).line == 0) = false := by simp [h2]
      have hPop := hid (line_Pop_none (getS t a).line h2)
      by_cases h3 : (getS t a).count = 2147483647
      · have h3' : ((getS t a).count == 2147483647) = true := by simp [h3]
        have hk := hid (show relE t a = 10 by rw [hE.out, if_neg (by omega), if_pos ⟨h2, h3⟩])
        have hn := hid (rel_no hk.out (by decide))
        clear h1 h3 hc1 hc2
        go_enter Try.func38, Try.ntmps38
        go_wp2_with fail
        refine (hG.out _ (Below.refl _ _)).mono ?_
        rintro e w1 ⟨v1, rfl, hr1, hb1⟩
        obtain ⟨A1, c1, rfl, _, _⟩ := hr1.open
        have hr1 := hid hr1
        have hb1 := hid hb1
        have hz1 := hb1.out.size
        go_wp2_with fail
        refine calls_name ?_
        intro W2 hW2
        have hb2 := hid (show Below w.heap.size w W2 by rw [hW2]; exact hb1.out.alloc hz1 _)
        have hx2 := hid (show Box W2 w1.heap.size #[.int .i64 (getS t a).addr, .int .i64 (getS t a).count, .slice A1 (getS t a).line.length c1] 42 by rw [hW2]; exact Box.new _ _ _)
        have hr2 := hid (show Row intE W2 W2.heap.size (.slice A1 (getS t a).line.length c1) (getS t a).line by rw [hW2]; exact hr1.out.keep ((Below.refl _ _).alloc (Nat.le_refl _) _) (by simp))
        have hc2 := hid (show Below w1.heap.size w1 W2 by rw [hW2]; exact (Below.refl _ _).alloc (Nat.le_refl _) _)
        clear hW2
        refine (hPop.out (.slice A1 (getS t a).line.length c1) W2 hr2.out).mono ?_
        rintro e w3 ⟨v3, rfl, hr3, hb3⟩
        obtain ⟨A3, c3, rfl, _, _⟩ := hr3.open
        have hr3 := hid hr3
        have hx3 := hid (hx2.out.keep hb3 hx2.out.lt)
        have hc3 := hid (hc2.out.trans (hb3.mono hc2.out.size))
        have hb3 := hid (hb2.out.trans (hb3.mono hb2.out.size))
        have k0 := hx3.out.cell 0 _ rfl
        have k1 := hx3.out.cell 1 _ rfl
        have k2 := hx3.out.cell 2 _ rfl
        have f1 := hx3.out.frozen 1
        have f2 := hx3.out.frozen 2
        go_wp2
        exact bodyPost_ret (v := .tuple #[.slice none 0 0, .int .i64 0, .int .i64 10]) (by simp [results, Try.results38, go_sem]) rfl (intErrNil hn.out.1 hn.out.2 hk.out hb3.out)
      · have h3' : ((getS t a).count == 2147483647) = false := by simp [h3]
        have hq := hid (show s' = ⟨(getS t a).addr, (getS t a).count + 1, (getS t a).line⟩ by rw [← hs']; unfold relS; rw [if_neg h2])
        have hk := hid (show relE t a = setErr t s' by rw [hE.out, if_neg (by omega), if_neg (fun e => h3 e.2)])
        have hs' := hid hs'
        by_cases h5 : setErr t s' = 0
        · have h5' : (setErr t s' != 0) = false := by simp [h5]
          have hL := hid (hLW.out (by rw [hk.out, h5]))
          rw [if_neg h2] at hL
          have hk0 := hid (show relE t a = 0 by rw [hk.out, h5])
          clear h1 h5
          go_enter Try.func38, Try.ntmps38
          go_wp2_with fail
          refine (hG.out _ (Below.refl _ _)).mono ?_
          rintro e w1 ⟨v1, rfl, hr1, hb1⟩
          obtain ⟨A1, c1, rfl, _, _⟩ := hr1.open
          have hr1 := hid hr1
          have hb1 := hid hb1
          have hz1 := hb1.out.size
          go_wp2_with fail
          refine calls_name ?_
          intro W2 hW2
          have hb2 := hid (show Below w.heap.size w W2 by rw [hW2]; exact hb1.out.alloc hz1 _)
          have hx2 := hid (show Box W2 w1.heap.size #[.int .i64 (getS t a).addr, .int .i64 (getS t a).count, .slice A1 (getS t a).line.length c1] 42 by rw [hW2]; exact Box.new _ _ _)
          have hr2 := hid (show Row intE W2 W2.heap.size (.slice A1 (getS t a).line.length c1) (getS t a).line by rw [hW2]; exact hr1.out.keep ((Below.refl _ _).alloc (Nat.le_refl _) _) (by simp))
          have hc2 := hid (show Below w1.heap.size w1 W2 by rw [hW2]; exact (Below.refl _ _).alloc (Nat.le_refl _) _)
          clear hW2
          refine (hPop.out (.slice A1 (getS t a).line.length c1) W2 hr2.out).mono ?_
          rintro e w3 ⟨v3, rfl, hr3, hb3⟩
          obtain ⟨A3, c3, rfl, _, _⟩ := hr3.open
          have hr3 := hid hr3
          have hx3 := hid (hx2.out.keep hb3 hx2.out.lt)
          have hc3 := hid (hc2.out.trans (hb3.mono hc2.out.size))
          have hb3 := hid (hb2.out.trans (hb3.mono hb2.out.size))
          have k0 := hx3.out.cell 0 _ rfl
          have k1 := hx3.out.cell 1 _ rfl
          have k2 := hx3.out.cell 2 _ rfl
          have f1 := hx3.out.frozen 1
          have f2 := hx3.out.frozen 2
          go_wp2_with fail
          refine calls_name ?_
          intro W4 hW4
          have hb4 := hid (show Below w.heap.size w W4 by rw [hW4]; exact hb3.out.setCell (p := ⟨w1.heap.size, 1, none⟩) hz1 _)
          have hc4 : Below w1.heap.size w1 W4 := by rw [hW4]; exact hc3.out.setCell (p := ⟨w1.heap.size, 1, none⟩) (Nat.le_refl _) _
          have hr4 := hid (show Row intE W4 W4.heap.size (.slice A1 (getS t a).line.length c1) (getS t a).line from hr1.out.keep hc4 hc4.size)
          clear hW4
          have hSs := hid (hS.out W4 hb4.out s' _ _ _ _ hq.out hr4.out)
          refine hSs.out.mono ?_
          rintro e w5 ⟨v5, rfl, hr5, hb5⟩
          have hr5 := hid hr5
          have hb5 := hid (hb4.out.trans (hb5.mono hb4.out.size))
          obtain ⟨A5, c5, rfl, _, _⟩ := hr5.out.open
          go_wp2
          exact bodyPost_ret (v := .tuple #[.slice A5 (setRow t s').length c5, .int .i64 (-1), .int .i64 0]) (by simp [results, Try.results38, go_sem]) rfl ⟨_, by rw [hL.out.2, hk0.out], by rw [hL.out.1]; exact hr5.out, hb5.out⟩
        · have h5' : (setErr t s' != 0) = true := by simp [h5]
          have hn := hid (rel_no hk.out h5)
          clear h1 h5
          go_enter Try.func38, Try.ntmps38
          go_wp2_with fail
          refine (hG.out _ (Below.refl _ _)).mono ?_
          rintro e w1 ⟨v1, rfl, hr1, hb1⟩
          obtain ⟨A1, c1, rfl, _, _⟩ := hr1.open
          have hr1 := hid hr1
          have hb1 := hid hb1
          have hz1 := hb1.out.size
          go_wp2_with fail
          refine calls_name ?_
          intro W2 hW2
          have hb2 := hid (show Below w.heap.size w W2 by rw [hW2]; exact hb1.out.alloc hz1 _)
          have hx2 := hid (show Box W2 w1.heap.size #[.int .i64 (getS t a).addr, .int .i64 (getS t a).count, .slice A1 (getS t a).line.length c1] 42 by rw [hW2]; exact Box.new _ _ _)
          have hr2 := hid (show Row intE W2 W2.heap.size (.slice A1 (getS t a).line.length c1) (getS t a).line by rw [hW2]; exact hr1.out.keep ((Below.refl _ _).alloc (Nat.le_refl _) _) (by simp))
          have hc2 := hid (show Below w1.heap.size w1 W2 by rw [hW2]; exact (Below.refl _ _).alloc (Nat.le_refl _) _)
          clear hW2
          refine (hPop.out (.slice A1 (getS t a).line.length c1) W2 hr2.out).mono ?_
          rintro e w3 ⟨v3, rfl, hr3, hb3⟩
          obtain ⟨A3, c3, rfl, _, _⟩ := hr3.open
          have hr3 := hid hr3
          have hx3 := hid (hx2.out.keep hb3 hx2.out.lt)
          have hc3 := hid (hc2.out.trans (hb3.mono hc2.out.size))
          have hb3 := hid (hb2.out.trans (hb3.mono hb2.out.size))
          have k0 := hx3.out.cell 0 _ rfl
          have k1 := hx3.out.cell 1 _ rfl
          have k2 := hx3.out.cell 2 _ rfl
          have f1 := hx3.out.frozen 1
          have f2 := hx3.out.frozen 2
          go_wp2_with fail
          refine calls_name ?_
          intro W4 hW4
          have hb4 := hid (show Below w.heap.size w W4 by rw [hW4]; exact hb3.out.setCell (p := ⟨w1.heap.size, 1, none⟩) hz1 _)
          have hc4 : Below w1.heap.size w1 W4 := by rw [hW4]; exact hc3.out.setCell (p := ⟨w1.heap.size, 1, none⟩) (Nat.le_refl _) _
          have hr4 := hid (show Row intE W4 W4.heap.size (.slice A1 (getS t a).line.length c1) (getS t a).line from hr1.out.keep hc4 hc4.size)
          clear hW4
          have hSs := hid (hS.out W4 hb4.out s' _ _ _ _ hq.out hr4.out)
          refine hSs.out.mono ?_
          rintro e w5 ⟨v5, rfl, hr5, hb5⟩
          have hr5 := hid hr5
          have hb5 := hid (hb4.out.trans (hb5.mono hb4.out.size))
          obtain ⟨A5, c5, rfl, _, _⟩ := hr5.out.open
          go_wp2
          exact bodyPost_ret (v := .tuple #[.slice none 0 0, .int .i64 0, .int .i64 (setErr t s')]) (by simp [results, Try.results38, go_sem]) rfl (intErrNil hn.out.1 hn.out.2 hk.out hb5.out)
  · have h1' : (getE t a != 0) = true := by simp [h1]
    have hk := hid (show relE t a = 1 by rw [hE.out, if_pos h1])
    have hn := hid (rel_no hk.out (by decide))
    clear h1
    go_enter Try.func38, Try.ntmps38
    go_wp2_with fail
    refine (hG.out _ (Below.refl _ _)).mono ?_
    rintro e w1 ⟨v1, rfl, hr1, hb1⟩
    obtain ⟨A1, c1, rfl, _, _⟩ := hr1.open
    have hr1 := hid hr1
    have hb1 := hid hb1
    have hz1 := hb1.out.size
    go_wp2
    exact bodyPost_ret (v := .tuple #[.slice none 0 0, .int .i64 0, .int .i64 1]) (by simp [results, Try.results38, go_sem]) rfl (intErrNil hn.out.1 hn.out.2 hk.out (hb1.out.alloc hz1 _))
end Go.Proofs.Ytbbkgibopicaeaa
