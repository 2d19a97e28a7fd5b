/- Layer 9 of the program: a spot is set. -/
import Derived.Test.YtbbkgibopicaeaaRootIns2
import Derived.Test.YtbbkgibopicaeaaSpecSet
namespace Go.Proofs.Ytbbkgibopicaeaa
set_option linter.unusedVariables false
set_option linter.unusedSimpArgs false
open Go.RowKit

def setOk (t : List Spot) (s : Spot) : Bool := tabRight t && spotRight s
/-- What Set answers. -/
def setErr (t : List Spot) (s : Spot) : Int := if setOk t s = true then (if 64 < (tabSet t s).length then 5 else 0) else 1
def setRow (t : List Spot) (s : Spot) : List Spot := if setErr t s = 0 then tabSet t s else []

theorem root_Set_bad1 (v u : Value) (t : List Spot) (s : Spot) (w : World) (h : Row spotE w w.heap.size v t) (hs : Row intE w w.heap.size u s.line) (hT : tabRight t = false) :
    Calls Try.prog 23 #[v, .agg #[.int .i64 s.addr, .int .i64 s.count, u]] w (RowErrPost spotE [] 1 w) := by
  have hR := hid (fun W (hb : Below w.heap.size w W) => root_Right v t W (h.keep hb hb.size))
  rw [hT] at hR
  obtain ⟨A, c, rfl, hlc, hcm⟩ := h.open
  obtain ⟨As, cs, rfl, _, _⟩ := hs.open
  clear h hs hT
  go_enter Try.func23, Try.ntmps23
  go_wp2_with (go_at_call 17; refine (hR.out _ (by repeat (first | assumption | exact Below.refl _ _ | refine bdrawN ?_ _ | refine Below.drew ?_ | refine Below.alloc ?_ (by (try simp) <;> omega) _ | refine Below.setCell ?_ (by (try simp) <;> omega) _))).mono ?_; rintro e w1 ⟨rfl, hb1⟩; have hb1 := hid hb1)
  exact bodyPost_ret (v := .tuple #[.slice none 0 0, .int .i64 1]) (by simp [results, Try.results23, go_sem]) rfl (errNil rfl rfl (((Below.refl _ _).alloc (Nat.le_refl _) _).trans (hb1.out.mono (by simp))))

theorem root_Set_bad2 (v u : Value) (t : List Spot) (s : Spot) (w : World) (h : Row spotE w w.heap.size v t) (hs : Row intE w w.heap.size u s.line) (hT : tabRight t = true) (hS : spotRight s = false) :
    Calls Try.prog 23 #[v, .agg #[.int .i64 s.addr, .int .i64 s.count, u]] w (RowErrPost spotE [] 1 w) := by
  have hR := hid (fun W (hb : Below w.heap.size w W) => root_Right v t W (h.keep hb hb.size))
  have hP := hid (fun W (hb : Below w.heap.size w W) => root_isSpot s u W (hs.keep hb hb.size))
  rw [hT] at hR
  rw [hS] at hP
  obtain ⟨A, c, rfl, hlc, hcm⟩ := h.open
  obtain ⟨As, cs, rfl, _, _⟩ := hs.open
  clear h hs hT hS
  go_enter Try.func23, Try.ntmps23
  go_wp2_with fail
  refine calls_name ?_
  intro W0 hW0
  have hb0 := hid (show Below w.heap.size w W0 by rw [hW0]; repeat (first | assumption | exact Below.refl _ _ | refine bdrawN ?_ _ | refine Below.drew ?_ | refine Below.alloc ?_ (by (try simp) <;> omega) _ | refine Below.setCell ?_ (by (try simp) <;> omega) _))
  have bk0 := hid (show Box W0 w.heap.size #[.int .i64 s.addr, .int .i64 s.count, .slice As s.line.length cs] 42 by rw [hW0]; exact Box.new _ _ _)
  clear hW0
  refine (hR.out _ hb0.out).mono ?_
  rintro e w1 ⟨rfl, hb1⟩
  have bk1 := hid (bk0.out.keep hb1 bk0.out.lt)
  have hb1 := hid (hb0.out.trans (hb1.mono hb0.out.size))
  have k0 := bk1.out.cell 0 _ rfl
  have k1 := bk1.out.cell 1 _ rfl
  have k2 := bk1.out.cell 2 _ rfl
  go_wp2_with (go_at_call 50; refine (hP.out _ hb1.out).mono ?_; rintro e w2 ⟨rfl, hb2⟩; have hb2 := hid (hb1.out.trans (hb2.mono hb1.out.size)))
  exact bodyPost_ret (v := .tuple #[.slice none 0 0, .int .i64 1]) (by simp [results, Try.results23, go_sem]) rfl (errNil rfl rfl hb2.out)

set_option maxHeartbeats 3200000 in
set_option maxRecDepth 100000 in
theorem root_Set_good (v u : Value) (t : List Spot) (s : Spot) (w : World) (h : Row spotE w w.heap.size v t) (hs : Row intE w w.heap.size u s.line) (hT : tabRight t = true) (hS : spotRight s = true) :
    Calls Try.prog 23 #[v, .agg #[.int .i64 s.addr, .int .i64 s.count, u]] w (RowErrPost spotE (setRow t s) (setErr t s) w) := by
  have hok := (tabRight_iff t).1 hT
  have hR := hid (fun W (hb : Below w.heap.size w W) => root_Right v t W (h.keep hb hb.size))
  have hP := hid (fun W (hb : Below w.heap.size w W) => root_isSpot s u W (hs.keep hb hb.size))
  have hE := hid (fun W (hb : Below w.heap.size w W) => root_isEmpty s u W (hs.keep hb hb.size))
  have hC := hid (fun W (hb : Below w.heap.size w W) => slices_CloneSpot t v W (h.keep hb hb.size) (by have := hok.len; omega))
  have hSr := hid (fun W B (hb : Below w.heap.size w W) (hB : w.heap.size ≤ B) => hs.keep hb hB)
  rw [hT] at hR
  rw [hS] at hP
  have hlo := hid (others_len t s.addr)
  have hlen := hid hok.len
  have hsa := hid ((isAddr_iff _).2 (spotRight_addr hS))
  have hta := hid (fun x (hx : x ∈ others t s.addr) => (isAddr_iff _).2 (spotRight_addr (hok.each x (mem_others.1 hx).1).1))
  have herr : Hid (setErr t s = if 64 < (tabSet t s).length then 5 else 0) := by unfold setErr setOk; rw [hT, hS]; rfl
  obtain ⟨A, c, rfl, hlc, hcm⟩ := h.open
  obtain ⟨As, cs, rfl, _, _⟩ := hs.open
  clear h hs hT hS hok
  go_enter Try.func23, Try.ntmps23
  go_wp2_with fail
  refine calls_name ?_
  intro W0 hW0
  have hb0 := hid (show Below w.heap.size w W0 by rw [hW0]; repeat (first | assumption | exact Below.refl _ _ | refine bdrawN ?_ _ | refine Below.drew ?_ | refine Below.alloc ?_ (by (try simp) <;> omega) _ | refine Below.setCell ?_ (by (try simp) <;> omega) _))
  have bk0 := hid (show Box W0 w.heap.size #[.int .i64 s.addr, .int .i64 s.count, .slice As s.line.length cs] 42 by rw [hW0]; exact Box.new _ _ _)
  clear hW0
  refine (hR.out _ hb0.out).mono ?_
  rintro e w1 ⟨rfl, hb1⟩
  have bk1 := hid (bk0.out.keep hb1 bk0.out.lt)
  have hb1 := hid (hb0.out.trans (hb1.mono hb0.out.size))
  have k0 := bk1.out.cell 0 _ rfl
  have k1 := bk1.out.cell 1 _ rfl
  have k2 := bk1.out.cell 2 _ rfl
  go_wp2_with fail
  refine (hP.out _ hb1.out).mono ?_
  rintro e w2 ⟨rfl, hb2⟩
  have bk2 := hid (bk1.out.keep hb2 bk1.out.lt)
  have hb2 := hid (hb1.out.trans (hb2.mono hb1.out.size))
  clear k0 k1 k2
  go_wp2_with fail
  refine (hC.out _ hb2.out).mono ?_
  rintro e w3 ⟨v3, rfl, hO3, hb3⟩
  have bk3 := hid (bk2.out.keep hb3 bk2.out.lt)
  have hlt2 : w.heap.size < w2.heap.size := bk2.out.lt
  have hz3 : w2.heap.size ≤ w3.heap.size := hb3.size
  have hbx3 := hid hb3
  have hb3 := hid (hb2.out.trans (hb3.mono hb2.out.size))
  have hD := hid (slices_DeleteSpots 61 #[.pointer (some ⟨w.heap.size, 0, none⟩)] enter_Set1 (fun x => x.addr == s.addr) t v3 w2.heap.size w3 hO3 hz3 (fun x ux W _ hb hu => root_Set1 x ux s _ w.heap.size W hu (bk3.out.keep hb hlt2)))
  obtain ⟨A3, c3, rfl, _, _⟩ := hO3.shape
  clear hO3
  go_wp2_with fail
  refine hD.out.mono ?_
  rintro e w4 ⟨v4, rfl, hO4, hb4⟩
  have hO4 : Own spotE 42 w4 w2.heap.size v4 (others t s.addr) := hO4
  have hz34 := hb4.size
  have bk4 := hid (bk3.out.keep hb4 hlt2)
  have hb4 := hid (hb3.out.trans (hb4.mono hb2.out.size))
  have hz4 : w2.heap.size ≤ w4.heap.size := Nat.le_trans hz3 hz34
  have k0 := bk4.out.cell 0 _ rfl
  have k1 := bk4.out.cell 1 _ rfl
  have k2 := bk4.out.cell 2 _ rfl
  obtain ⟨A4, c4, rfl, hlc4, hcm4⟩ := hO4.shape
  unfold maxLen at hcm4
  have hO4 := hid hO4
  cases hbe : spotEmpty s with
  | true =>
    have hset := hid (tabSet_empty t s hbe)
    rw [hbe] at hE
    have herr0 : Hid (setErr t s = 0) := by show _ = _; rw [herr.out, hset.out, if_neg (by have := hlo.out; have := hlen.out; omega)]
    have hrow : Hid (setRow t s = others t s.addr) := by show _ = _; unfold setRow; rw [if_pos herr0.out, hset.out]
    clear hbe
    go_wp2_with (go_at_call 51; refine (hE.out _ hb4.out).mono ?_; rintro e w5 ⟨rfl, hb5⟩; have hb5 := hid hb5)
    exact bodyPost_ret (v := .tuple #[.slice A4 (others t s.addr).length c4, .int .i64 0]) (by simp [results, Try.results23, go_sem]) rfl ⟨_, by rw [herr0.out], by rw [hrow.out]; exact (hO4.out.row hz4).keep hb5.out hb5.out.size, hb4.out.trans (hb5.out.mono hb4.out.size)⟩
  | false =>
    have hset := hid (tabSet_full t s hbe)
    have hil := hid (insAt_len s (others t s.addr))
    rw [hbe] at hE
    clear hbe
    by_cases hfull : (others t s.addr).length = 64
    · have hfl : (((others t s.addr).length : Int) == 64) = true := by simp [hfull]
      have herr0 : Hid (setErr t s = 5) := by show _ = _; rw [herr.out, hset.out, if_pos (by rw [hil.out]; omega)]
      have hrow : Hid (setRow t s = []) := by show _ = _; unfold setRow; rw [if_neg (by rw [herr0.out]; omega)]
      have hfull := hid hfull
      go_wp2_with (go_at_call 51; refine (hE.out _ hb4.out).mono ?_; rintro e w5 ⟨rfl, hb5⟩; have hb5 := hid hb5)
      exact bodyPost_ret (v := .tuple #[.slice none 0 0, .int .i64 5]) (by simp [results, Try.results23, go_sem]) rfl (errNil hrow.out herr0.out (hb4.out.trans (hb5.out.mono hb4.out.size)))
    · have hfl : (((others t s.addr).length : Int) == 64) = false := by simp; omega
      have hl64 : (others t s.addr).length < 64 := by have := hlo.out; have := hlen.out; omega
      have herr0 : Hid (setErr t s = 0) := by show _ = _; rw [herr.out, hset.out, if_neg (by rw [hil.out]; omega)]
      have hrow : Hid (setRow t s = insAt s (others t s.addr)) := by show _ = _; unfold setRow; rw [if_pos herr0.out, hset.out]
      go_wp2_with (go_at_call 51; refine (hE.out _ hb4.out).mono ?_; rintro e w5 ⟨rfl, hb5⟩; have hb5 := hid hb5)
      have hz5 : w2.heap.size ≤ w5.heap.size := Nat.le_trans hz4 hb5.out.size
      have bk5 := hid (bk4.out.keep hb5.out bk4.out.lt)
      have hO5 := hid (hO4.out.grown hb5.out hz4)
      have hb5 := hid (hb4.out.trans (hb5.out.mono hb4.out.size))
      have hIx := hid (slices_IndexSpots 62 #[.pointer (some ⟨w.heap.size, 0, none⟩)] enter_Set2 (fun x => addrLess s.addr x.addr) (others t s.addr) (.slice A4 (others t s.addr).length c4) w5 (hO5.out.row hz5)
        (fun x ux W hx hb hu => root_Set2 x ux s _ w.heap.size W hu (bk5.out.keep hb bk5.out.lt) (hta.out x hx) hsa.out))
      clear k0 k1 k2
      go_wp2_with fail
      refine hIx.out.mono ?_
      rintro e w6 ⟨rfl, hb6⟩
      have hz6 : w2.heap.size ≤ w6.heap.size := Nat.le_trans hz5 hb6.size
      have bk6 := hid (bk5.out.keep hb6 bk5.out.lt)
      have hO6 := hid (hO5.out.grown hb6 hz5)
      have hb6 := hid (hb5.out.trans (hb6.mono hb5.out.size))
      have k0 := bk6.out.cell 0 _ rfl
      have k1 := bk6.out.cell 1 _ rfl
      have k2 := bk6.out.cell 2 _ rfl
      have hIns := hid (fun (i : Nat) (hi : i ≤ (others t s.addr).length) => slices_InsertSpot (others t s.addr) s (.slice A4 (others t s.addr).length c4) (.slice As s.line.length cs) i w2.heap.size w6.heap.size (w6.alloc (.cells #[.int .i64 s.addr, .int .i64 s.count, .slice As s.line.length cs] 42)) (hO6.out.alloc hz6 _) (by simp; omega) hi (by omega) (fun g hg => by have := (hO6.out.lt g hg).2; omega) (Box.new _ _ _) (hSr.out _ _ (hb6.out.alloc (by have := hb6.out.size; omega) _) (by omega)))
      obtain ⟨ix, hix1, hix2, hix3⟩ : ∃ ix : Nat, ix = (others t s.addr).findIdx (fun x => addrLess s.addr x.addr) ∧ ix ≤ (others t s.addr).length ∧ firstIx (fun x => addrLess s.addr x.addr) (others t s.addr) = if ix < (others t s.addr).length then (ix : Int) else -1 := ⟨_, rfl, List.findIdx_le_length, rfl⟩
      have hres : Hid (setRow t s = (others t s.addr).take ix ++ s :: (others t s.addr).drop ix) := by show _ = _; rw [hrow.out, hix1]; rfl
      clear hix1
      rw [hix3]
      clear hix3
      by_cases hlt : ix < (others t s.addr).length
      · rw [if_pos hlt]
        have hI := hid (hIns.out ix hix2)
        go_wp2_with (go_at_call 63; refine hI.out.mono ?_; rintro e w7 ⟨v7, rfl, hO7, hb7⟩; have hO7 := hid hO7; have hb7 := hid hb7)
        have hz7 : w2.heap.size ≤ w7.heap.size := Nat.le_trans hz6 (by have := hb7.out.size; simp at this; omega)
        exact bodyPost_ret (v := .tuple #[v7, .int .i64 0]) (by simp [results, Try.results23, go_sem]) rfl ⟨_, by rw [herr0.out], by rw [hres.out]; exact hO7.out.row hz7, (hb6.out.alloc (by have := hb6.out.size; omega) _).trans (hb7.out.mono hb2.out.size)⟩
      · have hixl : ix = (others t s.addr).length := by omega
        rw [if_neg hlt]
        have hI := hid (hIns.out ix hix2)
        rw [hixl] at hI
        have hixl := hid hixl
        go_wp2_with (go_at_call 63; refine hI.out.mono ?_; rintro e w7 ⟨v7, rfl, hO7, hb7⟩; have hO7 := hid hO7; have hb7 := hid hb7)
        have hz7 : w2.heap.size ≤ w7.heap.size := Nat.le_trans hz6 (by have := hb7.out.size; simp at this; omega)
        exact bodyPost_ret (v := .tuple #[v7, .int .i64 0]) (by simp [results, Try.results23, go_sem]) rfl ⟨_, by rw [herr0.out], by rw [hres.out, hixl.out]; exact hO7.out.row hz7, (hb6.out.alloc (by have := hb6.out.size; omega) _).trans (hb7.out.mono hb2.out.size)⟩

theorem root_Set (v u : Value) (t : List Spot) (s : Spot) (w : World) (h : Row spotE w w.heap.size v t) (hs : Row intE w w.heap.size u s.line) :
    Calls Try.prog 23 #[v, .agg #[.int .i64 s.addr, .int .i64 s.count, u]] w (RowErrPost spotE (setRow t s) (setErr t s) w) := by
  cases hT : tabRight t with
  | false =>
    have e : setErr t s = 1 := by unfold setErr setOk; rw [hT]; rfl
    have e2 : setRow t s = [] := by unfold setRow; rw [if_neg (by rw [e]; omega)]
    rw [e, e2]
    exact root_Set_bad1 v u t s w h hs hT
  | true =>
    cases hS : spotRight s with
    | false =>
      have e : setErr t s = 1 := by unfold setErr setOk; rw [hT, hS]; rfl
      have e2 : setRow t s = [] := by unfold setRow; rw [if_neg (by rw [e]; omega)]
      rw [e, e2]
      exact root_Set_bad2 v u t s w h hs hT hS
    | true => exact root_Set_good v u t s w h hs hT hS
end Go.Proofs.Ytbbkgibopicaeaa
