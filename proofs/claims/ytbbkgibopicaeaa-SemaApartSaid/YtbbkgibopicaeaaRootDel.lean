/- Layer 9 of the program: spots of one's own are struck. -/
import Derived.Test.YtbbkgibopicaeaaSpotRow
namespace Go.Proofs.Ytbbkgibopicaeaa
set_option linter.unusedVariables false
set_option linter.unusedSimpArgs false
open Go.RowKit

theorem own_ptr {α : Type} {E : En α} {e : TypeId} {w : World} {base n c : Nat} {A : Option Addr} {l : List α} (h : Own E e w base (.slice A n c) l) : n = l.length ∧ n ≤ c ∧ c ≤ maxLen ∧ ((A = none ∧ l = [] ∧ c = 0) ∨ ∃ g, A = some ⟨g, 0, none⟩ ∧ base ≤ g ∧ g < w.heap.size) := by
  obtain ⟨css, h1, h2, h3⟩ := h
  rcases h3.2 with ⟨e1, e0⟩ | ⟨g, cap, cur, e1, hb, hg, hn, hm, _⟩
  · injection e1 with a1 a2 a3
    subst a1 a2 a3
    have : l = [] := List.eq_nil_of_length_eq_zero (by omega)
    subst this
    exact ⟨rfl, Nat.zero_le _, Nat.zero_le _, .inl ⟨rfl, rfl, rfl⟩⟩
  · injection e1 with a1 a2 a3
    subst a1 a2 a3
    exact ⟨rfl, hn, hm, .inr ⟨g, rfl, hb, (Array.getElem?_eq_some_iff.1 hg).1⟩⟩

structure Kept (p : Spot → Bool) (t : List Spot) (j i : Nat) (L : List Spot) : Prop where
  len : L.length = t.length
  lt : i < j
  le : j ≤ t.length
  done : L.take i = (t.take j).filter (fun s => !p s)
  rest : L.drop j = t.drop j

theorem Kept.start {p : Spot → Bool} {t : List Spot} {k : Nat} (hk : k < t.length) (h1 : p t[k] = true) (h2 : ∀ j (hj : j < t.length), j < k → p t[j] = false) : Kept p t (k + 1) k t := by
  refine ⟨rfl, by omega, by omega, ?_, rfl⟩
  rw [List.take_succ_eq_append_getElem hk, List.filter_append]
  have e : (t.take k).filter (fun s => !p s) = t.take k := by
    rw [List.filter_eq_self]
    intro a ha
    obtain ⟨j, hj, rfl⟩ := List.getElem_of_mem ha
    rw [List.length_take] at hj
    rw [List.getElem_take, h2 j (by omega) (by omega)]
    rfl
  rw [e]
  simp [h1]

theorem Kept.at {p : Spot → Bool} {t L : List Spot} {j i : Nat} (h : Kept p t j i L) (hj : j < t.length) : ∃ hl : j < L.length, L[j] = t[j] := by
  have hl : j < L.length := by rw [h.len]; exact hj
  refine ⟨hl, ?_⟩
  have := congrArg (fun l : List Spot => l[0]?) h.rest
  simp only [List.getElem?_drop, Nat.add_zero, List.getElem?_eq_getElem hl, List.getElem?_eq_getElem hj] at this
  exact Option.some.inj this

theorem Kept.skip {p : Spot → Bool} {t L : List Spot} {j i : Nat} (h : Kept p t j i L) (hj : j < t.length) (hp : p t[j] = true) : Kept p t (j + 1) i L := by
  refine ⟨h.len, by have := h.lt; omega, by omega, ?_, ?_⟩
  · rw [List.take_succ_eq_append_getElem hj, List.filter_append, h.done]
    simp [hp]
  · rw [← List.drop_drop, ← List.drop_drop, h.rest]

theorem Kept.keep {p : Spot → Bool} {t L : List Spot} {j i : Nat} (h : Kept p t j i L) (hj : j < t.length) (hp : p t[j] = false) : Kept p t (j + 1) (i + 1) (L.set i t[j]) := by
  have hij := h.lt
  refine ⟨by rw [List.length_set, h.len], by omega, by omega, ?_, ?_⟩
  · rw [List.take_succ_eq_append_getElem hj, List.filter_append, ← h.done, List.take_succ_eq_append_getElem (by rw [List.length_set, h.len]; omega)]
    rw [List.take_set, List.set_eq_of_length_le (by rw [List.length_take]; omega), List.getElem_set_self]
    simp [hp]
  · rw [List.drop_set, if_pos (by omega), ← List.drop_drop, ← List.drop_drop, h.rest]

theorem Kept.end {p : Spot → Bool} {t L : List Spot} {i : Nat} (h : Kept p t t.length i L) : L.take i = t.filter (fun s => !p s) ∧ i < t.length := by
  have := h.done
  rw [List.take_length] at this
  exact ⟨this, h.lt⟩

theorem Box.setRow {w : World} {b : Nat} {cs : Array Value} {t : TypeId} (h : Box w b cs t) (cs' : Array Value) : Box (w.setRow b cs') b cs' t := setRow_heap w b cs cs' t (0, 0) h
theorem Below.setRow' {B g : Nat} {w0 w : World} (hb : Below B w0 w) (hBg : B ≤ g) (cs : Array Value) : Below B w0 (w.setRow g cs) :=
  ⟨hb.os, hb.tape, hb.output, by simpa using hb.size, fun k hk => by rw [setRow_other w g k cs (by omega)]; exact hb.block k hk⟩

theorem zero_spot : ∀ w : World, (zeroValue 42).run Try.prog w = .ok (.agg #[.int .i64 0, .int .i64 0, .slice none 0 0]) w := fun _ => by kernel_rfl

/-- 'clear(s[i:])', then 's[:i]'. -/
theorem own_cut {w : World} {base g n c i : Nat} {L : List Spot} (h : Own spotE 42 w base (.slice (some ⟨g, 0, none⟩) n c) L) (hi : i < n) :
    ∃ w', (∀ ty, (Builtin.clear_ #[33] ty #[.slice (some ⟨g, i * 3, none⟩) (n - i) (c - i)]).run Try.prog w = .ok (.tuple #[]) w') ∧ Own spotE 42 w' base (.slice (some ⟨g, 0, none⟩) i c) (L.take i) ∧ Below base w w' := by
  obtain ⟨css, cur, h1, h2, h3, h4, h5, h6, h7, h8, h9, h10⟩ := own_open h
  have hall := ok_of_all h1 h2
  have hk : (spotE).k = 3 := rfl
  rw [hk] at h8 h9 h10
  have hz : (Value.agg #[.int .i64 0, .int .i64 0, .slice none 0 0]).cells.size = 3 := rfl
  obtain ⟨zs, hzl, hrun⟩ : ∃ zs : List Value, zs.length = (n - i) * 3 ∧ ∀ ty, (Builtin.clear_ #[33] ty #[.slice (some ⟨g, i * 3, none⟩) (n - i) (c - i)]).run Try.prog w = .ok (.tuple #[]) (w.setRow g (cur.toList.take (i * 3) ++ zs ++ cur.toList.drop (i * 3 + zs.length)).toArray) := by
    obtain ⟨zs, hzl, hr⟩ := run_clear_rowK (P := Try.prog) w 33 42 0 _ Try.underlying33 zero_spot (by intro v hv; simp [Value.cells] at hv; rcases hv with rfl | rfl | rfl <;> rfl) (by rw [hz]; omega) g (i * 3) (n - i) (c - i) cur _ h4 (by rw [hz, h8]; omega)
    refine ⟨zs, by rw [hz] at hzl; exact hzl, fun ty => ?_⟩
    simpa [Builtin.clear_] using hr
  refine ⟨_, hrun, ?_, Below.setRow' (Below.refl _ _) h3 _⟩
  have hl : (L.take i).length = i := by rw [List.length_take]; omega
  have key := own_close (E := spotE) (e := 42) (base := base) (g := g) (c := c) (l := L.take i) (css := css.take i) (w := w.setRow g (cur.toList.take (i * 3) ++ zs ++ cur.toList.drop (i * 3 + zs.length)).toArray) (cur := (cur.toList.take (i * 3) ++ zs ++ cur.toList.drop (i * 3 + zs.length)).toArray)
    (by rw [List.length_take, List.length_take]; omega) (fun j y cs hy hc => ?_) h3 (Box.setRow h4 _) (by omega) h7 ?_ ?_
  · rw [hl] at key
    exact key
  · rw [List.getElem?_take] at hy hc
    split at hy
    · rename_i hj
      rw [if_pos hj] at hc
      exact spotE.keep (h2 j y cs hy hc) (Below.setRow' (Below.refl _ _) h3 _) (Nat.le_refl _)
    · cases hy
  · rw [hk]
    simp only [List.size_toArray, List.length_append, List.length_take, List.length_drop, Array.length_toList, hzl]
    omega
  · rw [hk, hl, flat_take css i (fun cs hcs => (hall cs hcs).1), hk, ← h9, List.take_take]
    simp only [List.append_assoc]
    rw [List.take_append_of_le_length (by rw [List.length_take, Array.length_toList]; omega), List.take_take]
    congr 1
    omega

/-- A spot of a row of one's own. -/
theorem Own.spot {w : World} {base g n c : Nat} {l : List Spot} (h : Own spotE 42 w base (.slice (some ⟨g, 0, none⟩) n c) l) (i : Nat) (hi : i < l.length) :
    ∃ A' c', w.cell? ⟨g, i * 3, none⟩ = some (.int .i64 l[i].addr) ∧ w.cell? ⟨g, i * 3 + 1, none⟩ = some (.int .i64 l[i].count) ∧ w.cell? ⟨g, i * 3 + 2, none⟩ = some (.slice A' l[i].line.length c') ∧ Row intE w base (.slice A' l[i].line.length c') l[i].line := by
  obtain ⟨css, cur, h1, h2, h3, h4, h5, h6, h7, h8, h9, h10⟩ := own_open h
  have hall := ok_of_all h1 h2
  have hk : (spotE).k = 3 := rfl
  rw [hk] at h8 h9 h10
  obtain ⟨v, hv, hr⟩ := h2 i l[i] css[i] (by simp) (by simp)
  obtain ⟨A', c', rfl, _, _⟩ := hr.open
  have hc : ∀ m, m < 3 → w.cell? ⟨g, i * 3 + m, none⟩ = (css[i])[m]? := fun m hm => by
    have e := flat_get css (fun cs hcs => (hall cs hcs).1) i m hm
    rw [hk] at e
    rw [cell_of_row w g _ cur _ (0, 0) h4, ← Array.getElem?_toList, ← List.getElem?_take_of_lt (i := i * 3 + m) (j := n * 3) (by omega), h9, e]
    simp [List.getElem?_eq_getElem (show i < css.length by omega)]
  refine ⟨A', c', ?_, ?_, ?_, hr⟩
  · have := hc 0 (by omega); rw [hv] at this; exact this
  · have := hc 1 (by omega); rw [hv] at this; exact this
  · have := hc 2 (by omega); rw [hv] at this; exact this

theorem Own.box {α : Type} {E : En α} {e : TypeId} {w : World} {base g n c : Nat} {l : List α} (h : Own E e w base (.slice (some ⟨g, 0, none⟩) n c) l) : ∃ cur, Box w g cur e ∧ cur.size = c * E.k := by
  obtain ⟨css, cur, h1, h2, h3, h4, h5, h6, h7, h8, h9, h10⟩ := own_open h
  exact ⟨cur, h4, h8⟩

set_option maxHeartbeats 3200000 in
set_option maxRecDepth 100000 in
theorem slices_DeleteSpots (cf : Nat) (caps : Array Value) (hcf : ∀ args w, (callFunc cf args).run Try.prog w = .ok (.enter cf args) w) (p : Spot → Bool) (t : List Spot) (v : Value) (base : Nat) (w : World) (h : Own spotE 42 w base v t) (hbs : base ≤ w.heap.size)
    (hon : ∀ (s : Spot) (u : Value) W, s ∈ t → Below base w W → Row intE W W.heap.size u s.line → Calls Try.prog cf (#[.agg #[.int .i64 s.addr, .int .i64 s.count, u]] ++ caps) W fun e W' => e = .returned (.bool (p s)) ∧ Below W.heap.size W W') :
    Calls Try.prog 59 #[v, .func (.func cf) #[] caps] w fun e w' => ∃ v', e = .returned v' ∧ Own spotE 42 w' base v' (t.filter (fun s => !p s)) ∧ Below base w w' := by
  have hIx := hid (fun W (hb : Below w.heap.size w W) => slices_IndexSpots cf caps hcf p t v W ((h.row hbs).keep hb hb.size) (fun s u W' hs hb' hu => hon s u W' hs ((hb.mono hbs).trans (hb'.mono (Nat.le_trans hbs hb.size))) hu))
  have H := hid h
  have hon := hid hon
  obtain ⟨A, c, rfl, hlc, hcm⟩ := h.shape
  obtain ⟨_, _, _, hA⟩ := own_ptr h
  unfold maxLen at hcm
  clear h
  by_cases hex : ∃ s ∈ t, p s = true
  · have hlt0 : t.findIdx p < t.length := List.findIdx_lt_length_of_exists hex
    obtain ⟨k0, hk0, hp0, hno0, hix⟩ : ∃ k, ∃ hk : k < t.length, p t[k] = true ∧ (∀ j (hj : j < t.length), j < k → p t[j] = false) ∧ firstIx p t = k := by
      refine ⟨_, hlt0, List.findIdx_getElem (w := hlt0), fun j hj hjk => ?_, by unfold firstIx; rw [if_pos hlt0]⟩
      have := List.not_of_lt_findIdx hjk
      simpa using this
    have K0 := hid (Kept.start hk0 hp0 hno0)
    obtain ⟨g, rfl, hgb, hgl⟩ : ∃ g, A = some ⟨g, 0, none⟩ ∧ base ≤ g ∧ g < w.heap.size := by
      rcases hA with ⟨_, e, _⟩ | hA
      · subst e; simp at hk0
      · exact hA
    have hne1 : ((k0 : Int) == -1) = false := beq_eq_false_iff_ne.2 (by omega)
    rw [hix] at hIx
    clear hA hix hex hlt0 hp0 hno0
    go_enter Try.func59, Try.ntmps59
    go_wp2_with (go_at_call 57; refine (hIx.out _ (Below.refl _ _)).mono ?_; rintro e w1 ⟨rfl, hb1⟩; have hb1 := hid hb1)
    have hO1 := hid (H.out.grown hb1.out hbs)
    have hbw1 := hid (hb1.out.mono hbs)
    have hz1 := hb1.out.size
    go_loopg [5, 6] (t.length - (k0 + 1)) (fun gg i j wr => ∃ (ik jk : Nat) (L : List Spot), jk + gg = t.length ∧ i = .int .i64 ik ∧ j = .int .i64 jk ∧ Hid (Kept p t jk ik L) ∧ Hid (Own spotE 42 wr base (.slice (some ⟨g, 0, none⟩) t.length c) L) ∧ Below base w wr)
    case atStart => exact ⟨k0, k0 + 1, t, by omega, rfl, by go_num, K0, hO1, hbw1.out⟩
    case round =>
      obtain ⟨i, j, L, hj, rfl, rfl, hK, hO, hb⟩ := hrel
      have hij := hK.out.lt
      have hle := hK.out.le
      have hwz : base ≤ wr.heap.size := Nat.le_trans hbs (by have := hb.size; omega)
      cases gk with
      | zero =>
        have hjl : j = t.length := by omega
        have hfin := hid (show L.take i = t.filter (fun s => !p s) ∧ i < t.length by have := hK.out; rw [hjl] at this; exact this.end)
        have hin : i < t.length := hfin.out.2
        obtain ⟨W9, hclr, hO9, hb9⟩ := own_cut hO.out hin
        have hO9 := hid hO9
        have hb9 := hid (hb.trans hb9)
        have hci : ¬ (c = i) := by omega
        subst hjl
        go_wp2
        go_ret
        exact ⟨_, rfl, by rw [← hfin.out.1]; exact hO9.out, hb9.out⟩
      | succ g' =>
        have hjl : j < t.length := by omega
        have hji : (j : Int) < (t.length : Int) := by omega
        have hii : (i : Int) < (t.length : Int) := by omega
        obtain ⟨hjL, htj⟩ := hK.out.at hjl
        obtain ⟨A', c', hc0, hc1, hc2, hrow⟩ := hO.out.spot j hjL
        simp only [htj] at hc0 hc1 hc2 hrow
        have hrow := hid hrow
        have hcall := hid (fun W (hw : Below wr.heap.size wr W) => hon.out t[j] (.slice A' t[j].line.length c') W (by simp) (hb.trans (hw.mono hwz)) (hrow.out.keep (hw.mono hwz) (Nat.le_trans hwz hw.size)))
        obtain ⟨cur, hbx, hcs⟩ := hO.out.box
        have hgw : g < wr.heap.size := hbx.lt
        have htj := hid htj
        have hcs : cur.size = c * 3 := hcs
        cases hp : p t[j] with
        | true =>
          have hK2 := hid (hK.out.skip hjl hp)
          rw [hp] at hcall
          have hp := hid hp
          clear hbx
          go_wp2_with fail
          refine (hcall.out _ ((Below.refl _ _).alloc (Nat.le_refl _) _)).mono ?_
          rintro e w2 ⟨rfl, hb2⟩
          have hO2 := hid ((hO.out.alloc hwz (.cells #[.int .i64 t[j].addr, .int .i64 t[j].count, .slice A' t[j].line.length c'] 42)).grown hb2 (by simp; omega))
          have hb2 := hid ((hb.alloc hwz _).trans (hb2.mono (by simp; omega)))
          go_wp2
          go_roundg g'
          case rel => exact ⟨i, j + 1, L, by omega, rfl, by go_num, hK2, hO2, hb2.out⟩
          case measure => omega
        | false =>
          have hK2 := hid (hK.out.keep hjl hp)
          rw [hp] at hcall
          have hp := hid hp
          have hbx := hid hbx
          go_wp2_with fail
          refine (hcall.out _ ((Below.refl _ _).alloc (Nat.le_refl _) _)).mono ?_
          rintro e w2 ⟨rfl, hb2⟩
          have hO2 := hid ((hO.out.alloc hwz (.cells #[.int .i64 t[j].addr, .int .i64 t[j].count, .slice A' t[j].line.length c'] 42)).grown hb2 (by simp; omega))
          have hok2 := hid (show spotE.ok w2 base t[j] [.int .i64 t[j].addr, .int .i64 t[j].count, .slice A' t[j].line.length c'] from ⟨_, rfl, hrow.out.keep (((Below.refl _ _).alloc hwz _).trans (hb2.mono (by simp; omega))) (Nat.le_refl _)⟩)
          have hbr := hid ((Box.new wr #[.int .i64 t[j].addr, .int .i64 t[j].count, .slice A' t[j].line.length c'] 42).keep hb2 (by simp))
          have hbx2 := hid ((hbx.out.alloc _).keep hb2 (by simp; omega))
          have hb2 := hid ((hb.alloc hwz _).trans (hb2.mono (by simp; omega)))
          have q0 := hbr.out.cell 0 _ rfl
          have q1 := hbr.out.cell 1 _ rfl
          have q2 := hbr.out.cell 2 _ rfl
          have f0 := hbx2.out.frozen (i * 3)
          have f1 := hbx2.out.frozen (i * 3 + 1)
          have f2 := hbx2.out.frozen (i * 3 + 2)
          have r0 := hbx2.out.cell (i * 3) _ (Array.getElem?_eq_getElem (by omega))
          have r1 := hbx2.out.cell (i * 3 + 1) _ (Array.getElem?_eq_getElem (by omega))
          have r2 := hbx2.out.cell (i * 3 + 2) _ (Array.getElem?_eq_getElem (by omega))
          go_wp2
          go_roundg g'
          case rel => exact ⟨i + 1, j + 1, L.set i t[j], by omega, by go_num, by go_num, hK2, own_spot_set hO2.out (by rw [hK.out.len]; omega) hok2.out, ((hb2.out.setCell (p := ⟨g, i * 3, none⟩) hgb _).setCell (p := ⟨g, i * 3 + 1, none⟩) hgb _).setCell (p := ⟨g, i * 3 + 2, none⟩) hgb _⟩
          case measure => omega
  · have hall : ∀ s ∈ t, p s = false := fun s hs => by cases e : p s; · rfl
                                                       · exact absurd ⟨s, hs, e⟩ hex
    have hfl := hid (show t.filter (fun s => !p s) = t from List.filter_eq_self.2 fun s hs => by rw [hall s hs]; rfl)
    have hix := firstIx_none (p := p) (t := t) (fun j hj => hall _ (by simp))
    rw [hix] at hIx
    have hall := hid hall
    clear hix hex hA
    go_enter Try.func59, Try.ntmps59
    go_wp2_with (go_at_call 57; refine (hIx.out _ (Below.refl _ _)).mono ?_; rintro e w1 ⟨rfl, hb1⟩; have hb1 := hid hb1)
    go_ret
    exact ⟨_, rfl, by rw [hfl.out]; exact H.out.grown hb1.out hbs, hb1.out.mono hbs⟩
end Go.Proofs.Ytbbkgibopicaeaa
