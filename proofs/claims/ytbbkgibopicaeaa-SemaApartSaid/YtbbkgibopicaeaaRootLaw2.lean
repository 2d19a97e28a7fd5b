/- The law RootTells: its walk. -/
import Derived.Test.YtbbkgibopicaeaaRootFun
import Derived.Test.YtbbkgibopicaeaaR09c
import Derived.Deep.RegionHeld3
import Derived.Deep.RegionWith
namespace Go.Proofs.Ytbbkgibopicaeaa
set_option linter.unusedVariables false
set_option linter.unusedSimpArgs false
open Go.RowKit

/-- Where the laws of layer 9 begin: memory has grown, and a spot lies in its variable. -/
structure At (w : World) (bk : Nat) (s : Spot) (W : World) : Prop where
  bel : Below w.heap.size w W
  box : ∃ A c, Box W bk #[.int .i64 s.addr, .int .i64 s.count, .slice A s.line.length c] 42 ∧ Row intE W w.heap.size (.slice A s.line.length c) s.line

theorem tab_bnds {t : List Spot} (h : TabOk t) : (∀ x ∈ t, 0 ≤ x.addr ∧ x.addr ≤ 4294967295) ∧ t.length ≤ 1000000000 :=
  ⟨fun x hx => spotRight_addr (h.each x hx).1, by have := h.len; omega⟩

theorem below_step {a b c : World} (h : Below a.heap.size a b) (k : Below b.heap.size b c) : Below a.heap.size a c := h.trans (k.mono h.size)

theorem meet_row {n base : Nat} {wf W : World} {v : Value} {l : List Spot} {x y z : Value} (hof : Own (lowE spotE n) 42 wf base v l) (hb : Below wf.heap.size wf W) (h1 : n < base) (h2 : base ≤ wf.heap.size) :
    Row spotE (((W.setCell ⟨n, 0, none⟩ x).setCell ⟨n, 1, none⟩ y).setCell ⟨n, 2, none⟩ z) (((W.setCell ⟨n, 0, none⟩ x).setCell ⟨n, 1, none⟩ y).setCell ⟨n, 2, none⟩ z).heap.size v l := by
  have h3 : base ≤ (((W.setCell ⟨n, 0, none⟩ x).setCell ⟨n, 1, none⟩ y).setCell ⟨n, 2, none⟩ z).heap.size := by simp [World.setCell]; have := hb.size; omega
  exact (((((hof.grown hb h2).lowSet (a := ⟨n, 0, none⟩) (Nat.le_refl _) h1 x).lowSet (a := ⟨n, 1, none⟩) (Nat.le_refl _) h1 y).lowSet (a := ⟨n, 2, none⟩) (Nat.le_refl _) h1 z).high).row h3

theorem meet_at {w W0 W wc : World} {s : Spot} {A : Option Addr} {c : Nat} {a b d : Value} (h0 : Below w.heap.size w W0) (hz : Below W0.heap.size W0 W) (hx : Box W w.heap.size #[a, b, d] 42) (hr : Row intE wc w.heap.size (.slice A s.line.length c) s.line) (hc : Below w.heap.size wc W) :
    At w w.heap.size s (((W.setCell ⟨w.heap.size, 0, none⟩ (.int .i64 s.addr)).setCell ⟨w.heap.size, 1, none⟩ (.int .i64 s.count)).setCell ⟨w.heap.size, 2, none⟩ (.slice A s.line.length c)) :=
  ⟨(((h0.trans (hz.mono h0.size)).setCell (Nat.le_refl _) _).setCell (Nat.le_refl _) _).setCell (Nat.le_refl _) _, A, c, ((hx.set 0 _).set 1 _).set 2 _,
    hr.keep (((hc.setCell (Nat.le_refl _) _).setCell (Nat.le_refl _) _).setCell (Nat.le_refl _) _) (Nat.le_refl _)⟩

set_option maxHeartbeats 3200000 in
set_option maxRecDepth 100000 in
theorem law09_RootTells (v u : Value) (t0 : List Spot) (s0 : Spot) (addr n : Int) (w : World) (h0 : Row spotE w w.heap.size v t0) (hs0 : Row intE w w.heap.size u s0.line) :
    Calls Try.prog 5 #[v, .agg #[.int .i64 s0.addr, .int .i64 s0.count, u], .int .i64 addr, .int .i64 n] w (TruePost w) := by
  have hF := hid (fun W (hb : Below w.heap.size w W) => law09_few_own v t0 w.heap.size W (h0.keep hb (Nat.le_refl _)) hb.size)
  have hC := hid (fun W (hb : Below w.heap.size w W) => law09_cut s0 u w.heap.size W (hs0.keep hb (Nat.le_refl _)) hb.size)
  obtain ⟨A0, c0, rfl, _, _⟩ := h0.open
  obtain ⟨Au, cu, rfl, _, _⟩ := hs0.open
  have hb0 := hid (Box.new w #[.int .i64 s0.addr, .int .i64 s0.count, .slice Au s0.line.length cu] 42)
  clear h0 hs0
  go_enter Try.func5, Try.ntmps5
  go_wp2
  go_cut [0] from 20 to 24 (fun x W => ∃ A1 c1, x = .slice A1 (fewS t0).length c1 ∧ Row spotE W W.heap.size (.slice A1 (fewS t0).length c1) (fewS t0) ∧ At w w.heap.size (cutS s0) W)
  case first =>
    refine wp_name ?_
    intro W0 hW0
    have hb0' : Below w.heap.size w W0 := by rw [hW0]; repeat (first | assumption | exact Below.refl _ _ | refine bdrawN ?_ _ | refine Below.drew ?_ | refine Below.alloc ?_ (by (try simp) <;> omega) _ | refine Below.setCell ?_ (by (try simp) <;> omega) _)
    have hx0 : Box W0 w.heap.size #[.int .i64 s0.addr, .int .i64 s0.count, .slice Au s0.line.length cu] 42 := by rw [hW0]; exact hb0.out
    have HB := hid (fun W (h : Below W0.heap.size W0 W) => hx0.keep h hx0.lt)
    have hlt0 := hx0.lt
    have q0 := hx0.cell 0 _ rfl
    have q1 := hx0.cell 1 _ rfl
    have q2 := hx0.cell 2 _ rfl
    have hF0 := hid (fun W (h : Below W0.heap.size W0 W) => (hF.out W (hb0'.trans (h.mono hb0'.size))))
    have hC0 := hid (fun W (h : Below W0.heap.size W0 W) => (hC.out W (hb0'.trans (h.mono hb0'.size))))
    have hst : Below W0.heap.size W0 W0 := Below.refl _ _
    have hb0' := hid hb0'
    have hlt0' := hid hlt0
    clear hW0 hx0 hlt0
    go_region_with (first
      | (go_at_call 16; refine (hF0.out _ (by repeat (first | assumption | exact Below.refl _ _ | refine bdrawN ?_ _ | refine Below.drew ?_ | refine Below.alloc ?_ (by (try simp) <;> omega) _ | refine Below.setCell ?_ (by (try simp) <;> omega) _))).mono ?_; rintro e wf ⟨vf, rfl, hof, hbf⟩; obtain ⟨Af, cf, rfl, _, _⟩ := hof.shape; have hzf : Below W0.heap.size W0 wf := below_step (by repeat (first | assumption | exact Below.refl _ _ | refine bdrawN ?_ _ | refine Below.drew ?_ | refine Below.alloc ?_ (by (try simp) <;> omega) _ | refine Below.setCell ?_ (by (try simp) <;> omega) _)) hbf; have f0 := (HB.out _ hzf).cell 0 _ rfl; have f1 := (HB.out _ hzf).cell 1 _ rfl; have f2 := (HB.out _ hzf).cell 2 _ rfl; have g0 := (HB.out _ hzf).frozen 0; have g1 := (HB.out _ hzf).frozen 1; have g2 := (HB.out _ hzf).frozen 2; have hof := hid hof)
      | (go_at_call 21; refine (hC0.out _ (by repeat (first | assumption | exact Below.refl _ _ | refine bdrawN ?_ _ | refine Below.drew ?_ | refine Below.alloc ?_ (by (try simp) <;> omega) _ | refine Below.setCell ?_ (by (try simp) <;> omega) _))).mono ?_; rintro e wc ⟨vc, rfl, hrc, hbc⟩; obtain ⟨Ac, cc, rfl, _, _⟩ := hrc.open; have hzc : Below W0.heap.size W0 wc := below_step (by repeat (first | assumption | exact Below.refl _ _ | refine bdrawN ?_ _ | refine Below.drew ?_ | refine Below.alloc ?_ (by (try simp) <;> omega) _ | refine Below.setCell ?_ (by (try simp) <;> omega) _)) hbc; have c0 := (HB.out _ hzc).cell 0 _ rfl; have c1 := (HB.out _ hzc).cell 1 _ rfl; have c2 := (HB.out _ hzc).cell 2 _ rfl; have d0 := (HB.out _ hzc).frozen 0; have d1 := (HB.out _ hzc).frozen 1; have d2 := (HB.out _ hzc).frozen 2; have hrc := hid hrc))
    all_goals
      go_wp2_with fail
      go_meet
      refine ⟨_, _, rfl, ?_, ?_⟩
      · first
          | exact meet_row hof.out hbc hlt0'.out hbf.size
          | exact meet_row hof.out (Below.refl _ _) (Nat.lt_of_lt_of_le hlt0'.out hzc.size) hbf.size
      · first
          | exact meet_at hb0'.out hzc (HB.out _ hzc) hrc.out (Below.refl _ _)
          | exact meet_at hb0'.out hzf (HB.out _ hzf) hrc.out (hbf.mono (Nat.le_of_lt (Nat.lt_of_lt_of_le hlt0'.out hzc.size)))
  case rest =>
    obtain ⟨A1, c1, rfl, hr1, hat⟩ := hcut
    obtain ⟨hbw, A2, c2, hx1, hs1⟩ := hat
    clear hF hC hb0
    generalize fewS t0 = T at *
    generalize cutS s0 = S at *
    have hR := hid (fun W (hb : Below wc.heap.size wc W) => root_Right _ T W (hr1.keep hb hb.size))
    have hrR := hid (fun W (hb : Below wc.heap.size wc W) => ref09_Right _ T W (hr1.keep hb hb.size))
    have hG := hid (fun W (hb : Below wc.heap.size wc W) => root_Get_any _ T addr W (hr1.keep hb hb.size))
    have hU := hid (fun W (hb : Below wc.heap.size wc W) => root_Under_any _ T n W (hr1.keep hb hb.size))
    have hS := hid (fun W (hb : Below wc.heap.size wc W) => root_Set _ _ T S W (hr1.keep hb hb.size) (hs1.keep (hb.mono hbw.size) (Nat.le_trans hbw.size hb.size)))
    have hX := hid (fun W (hb : Below wc.heap.size wc W) => hx1.keep hb hx1.lt)
    have hT := hid hr1
    have hSl := hid hs1
    have hlt1 := hx1.lt
    obtain ⟨_, _, hbw0⟩ : ∃ x : Nat, x = 0 ∧ Hid (Below w.heap.size w wc) := ⟨0, rfl, hbw⟩
    clear hr1 hs1 hx1 hbw
    go_wp2_with (go_at_call 20; refine (root_Root_any _ _).mono ?_; rintro e w' ⟨rfl, rfl⟩)
    refine (hG.out _ (Below.refl _ _)).mono ?_
    rintro e w2 ⟨v2, rfl, hr2, hb2⟩
    obtain ⟨A3, c3, rfl, _, _⟩ := hr2.open
    have hz2 := hb2.size
    have hb2h := hid hb2
    have hlt2 : w.heap.size < w2.heap.size := by omega
    have k0 := (hX.out _ hb2).cell 0 _ rfl
    have k1 := (hX.out _ hb2).cell 1 _ rfl
    have k2 := (hX.out _ hb2).cell 2 _ rfl
    clear hb2
    have hgr := hid hr2
    clear hr2
    go_wp2_with fail
    refine calls_name ?_
    intro w3 hw3
    have hb3 := hid (show Below wc.heap.size wc w3 by rw [hw3]; exact hb2h.out.alloc hz2 _)
    have hg3 := hid (show Box w3 w2.heap.size #[.int .i64 (getS T addr).addr, .int .i64 (getS T addr).count, .slice A3 (getS T addr).line.length c3] 42 by rw [hw3]; exact Box.new _ _ _)
    have hgl3 := hid (show Below w2.heap.size w2 w3 by rw [hw3]; exact (Below.refl _ _).alloc (Nat.le_refl _) _)
    clear hw3 k0 k1 k2
    have HG := hid (fun W (hb : Below w3.heap.size w3 W) => hg3.out.keep hb hg3.out.lt)
    have HGr := hid (fun W (hb : Below w3.heap.size w3 W) => hgr.out.keep (hgl3.out.trans (hb.mono hgl3.out.size)) (Nat.le_trans hgl3.out.size hb.size))
    refine (hS.out _ hb3.out).mono ?_
    rintro e w4 ⟨v4, rfl, hr4, hb4⟩
    obtain ⟨A4, c4, rfl, _, _⟩ := hr4.open
    have hy4 := hid hb4
    have hb4 := hid (hb3.out.trans (hb4.mono hb3.out.size))
    have hsr := hid hr4
    clear hr4
    go_wp2_with fail
    refine (hU.out _ hb4.out).mono ?_
    rintro e w5 ⟨v5, rfl, hr5, hb5⟩
    obtain ⟨A5, c5, rfl, _, _⟩ := hr5.open
    have hs5 := hid (hsr.out.keep hb5 hb5.size)
    have hy5 := hid (hy4.out.trans (hb5.mono hy4.out.size))
    have hb5 := hid (hb4.out.trans (hb5.mono hb4.out.size))
    have hur := hid hr5
    clear hr5 hsr
    go_wp2_with fail
    refine (hrR.out _ hb5.out).mono ?_
    rintro e w6 ⟨rfl, hb6⟩
    have hs6 := hid (hs5.out.keep hb6 hb6.size)
    have hu6 := hid (hur.out.keep hb6 hb6.size)
    have hy6 := hid (hy5.out.trans (hb6.mono hy5.out.size))
    have hb6 := hid (hb5.out.trans (hb6.mono hb5.out.size))
    clear hs5 hur
    have hne : (tabRight T != tabRight T) = false := by simp
    go_wp2_with (go_at_call 25; refine (ref08_Key _ _).mono ?_; rintro e w' ⟨rfl, rfl⟩)
    refine (hR.out _ hb6.out).mono ?_
    rintro e w7 ⟨rfl, hb7⟩
    have hs7 := hid (hs6.out.keep hb7 hb7.size)
    have hu7 := hid (hu6.out.keep hb7 hb7.size)
    have hy7 := hid (hy6.out.trans (hb7.mono hy6.out.size))
    have hb7 := hid (hb6.out.trans (hb7.mono hb6.out.size))
    clear hs6 hu6
    go_wp2_with fail
    refine (law09_alive _).mono ?_
    rintro e w8 ⟨rfl, hb8⟩
    have hs8 := hid (hs7.out.keep hb8 hb8.size)
    have hu8 := hid (hu7.out.keep hb8 hb8.size)
    have hy8 := hid (hy7.out.trans (hb8.mono hy7.out.size))
    have hb8 := hid (hb7.out.trans (hb8.mono hb7.out.size))
    clear hs7 hu7 hy4 hy5 hy6 hy7 hb2h hb3 hb4 hb5 hb6 hb7 hR hrR hG hU hS hgr hg3
    have HX8 := hid (fun W (hb : Below w8.heap.size w8 W) => hX.out W (hb8.out.trans (hb.mono hb8.out.size)))
    have HG8 := hid (fun W (hb : Below w8.heap.size w8 W) => HG.out W (hy8.out.trans (hb.mono hy8.out.size)))
    have HGr8 := hid (fun W (hb : Below w8.heap.size w8 W) => HGr.out W (hy8.out.trans (hb.mono hy8.out.size)))
    have HT8 := hid (fun W (hb : Below w8.heap.size w8 W) => hT.out.keep (hb8.out.trans (hb.mono hb8.out.size)) (Nat.le_trans hb8.out.size hb.size))
    have HS8 := hid (fun W (hb : Below w8.heap.size w8 W) => hSl.out.keep ((hb8.out.trans (hb.mono hb8.out.size)).mono hbw0.out.size) (Nat.le_trans (Nat.le_trans hbw0.out.size hb8.out.size) hb.size))
    have HA8 := hid (fun W (hb : Below w8.heap.size w8 W) => hs8.out.keep hb hb.size)
    have HU8 := hid (fun W (hb : Below w8.heap.size w8 W) => hu8.out.keep hb hb.size)
    have hbw8 := hid (hbw0.out.trans (hb8.out.mono hbw0.out.size))
    clear hX HG HGr hT hSl hs8 hu8 hb8 hbw0 hy8 hgl3
    obtain ⟨bK, hK⟩ : ∃ b, isAddr addr = b := ⟨_, rfl⟩
    obtain ⟨bT, hT⟩ : ∃ b, tabRight T = b := ⟨_, rfl⟩
    rw [hK, hT]
    have hKh := hid hK
    have hTh := hid hT
    clear hK hT hne
    go_upto_if 60 with fail
    go_cut [] from 61 to 74 (fun W => Below w8.heap.size w8 W)
    case first =>
      cases bK with
      | true =>
        have e1 : (rootE addr != 0) = false := by simp [rootE, hKh.out]
        obtain ⟨a1, a2⟩ := (isAddr_iff _).1 hKh.out
        have e2 : (rootR addr != rootOf addr) = false := by simp [rootR, hKh.out]
        go_wp2_with (go_at_call 26; refine (ref09_Root _ _ a1 a2).mono ?_; rintro e w' ⟨rfl, rfl⟩)
        go_meet
        exact Below.refl _ _
      | false =>
        have e1 : (rootE addr != 1) = false := by simp [rootE, hKh.out]
        have e2 : (rootR addr != 0) = false := by simp [rootR, hKh.out]
        go_wp2_with fail
        go_meet
        exact Below.refl _ _
    case rest =>
      have hA := hid hcut
      clear hcut
      obtain ⟨bG, hbG⟩ : ∃ b, b = (!bT || !bK) := ⟨_, rfl⟩
      have hbGh := hid hbG
      clear hbG
      go_upto_region 14 with fail
      go_cut [80] from 75 to 80 (fun x W => x = .bool bG ∧ Below w8.heap.size w8 W)
      case first =>
        cases bT <;> cases bK <;> (obtain rfl := hbGh.out; go_wp2_with fail; go_meet; exact ⟨rfl, hA.out⟩)
      case rest =>
        obtain ⟨rfl, hcut⟩ := hcut
        have hA := hid hcut
        clear hcut
        go_upto_if 80 with fail
        go_cut [] from 81 to 98 (fun W => Below w8.heap.size w8 W)
        case first =>
          have g0 := (HG8.out _ hA.out).cell 0 _ rfl
          have g1 := (HG8.out _ hA.out).cell 1 _ rfl
          have g2 := (HG8.out _ hA.out).cell 2 _ rfl
          cases bG with
          | true =>
            have hok : getOk T addr = false := by unfold getOk; rw [hTh.out, hKh.out]; have := hbGh.out; revert this; cases bT <;> cases bK <;> simp
            have e1 : (getE T addr != 1) = false := by simp [getE, hok]
            have e2 := hid (show decide (getS T addr = ⟨0, 0, []⟩) = true by simp [getS, hok])
            have hSp := hid (fun W (hb : Below w8.heap.size w8 W) => ref09_Spots (getS T addr) ⟨0, 0, []⟩ _ (.slice none 0 0) W (HGr8.out W hb) (Row.nil _ _ _))
            rw [e2.out] at hSp
            clear hok
            go_wp2_with (go_at_call 27; refine (hSp.out _ hA.out).mono ?_; rintro e wB ⟨rfl, hB⟩; have hB := hid (below_step hA.out hB))
            go_meet
            exact hB.out
          | false =>
            have hok : getOk T addr = true := by unfold getOk; rw [hTh.out, hKh.out]; have := hbGh.out; revert this; cases bT <;> cases bK <;> simp
            have e1 : (getE T addr != 0) = false := by simp [getE, hok]
            have e2 := hid (show getS T addr = tabGet T addr by simp [getS, hok])
            have hGe := hid (fun W (hb : Below w8.heap.size w8 W) => ref09_Get _ T addr W (HT8.out W hb))
            rw [← e2.out] at hGe
            have hSp := hid (fun W u (hb : Below w8.heap.size w8 W) (hu : Row intE W W.heap.size u (getS T addr).line) => ref09_Spots (getS T addr) (getS T addr) _ u W (HGr8.out W hb) hu)
            rw [decide_eq_true rfl] at hSp
            have hHG := hid (fun W (hb : Below w8.heap.size w8 W) => And.intro ((HG8.out _ hb).cell 0 _ rfl) (And.intro ((HG8.out _ hb).cell 1 _ rfl) ((HG8.out _ hb).cell 2 _ rfl)))
            clear hok
            go_wp2_with fail
            go_region_held3 (fun w' => w'.cell? ⟨w2.heap.size, 0, none⟩ = some (.int .i64 (getS T addr).addr) ∧ w'.cell? ⟨w2.heap.size, 1, none⟩ = some (.int .i64 (getS T addr).count) ∧ w'.cell? ⟨w2.heap.size, 2, none⟩ = some (.slice A3 (getS T addr).line.length c3))
              (first | exact ⟨g0, g1, g2⟩ | exact hHG.out _ hA.out | exact hHG.out _ hA.out.drew | exact hHG.out _ hB.out | exact hHG.out _ hB.out.drew | exact hHG.out _ hC.out)
              ((first
                | (go_at_call 28; refine (hGe.out _ hA.out.drew).mono ?_; rintro e wB ⟨vB, rfl, hrB, hB⟩; obtain ⟨AB, cB, rfl, _, _⟩ := hrB.open; have hB := hid (below_step hA.out.drew hB); have hrB := hid hrB)
                | (go_at_call 27; refine (hSp.out _ _ hB.out hrB.out).mono ?_; rintro e wC ⟨rfl, hC⟩; have hC := hid (below_step hB.out hC))))
            go_wp2_with fail
            go_meet
            exact hC.out
        case rest =>
          have hA := hid hcut
          clear hcut
          obtain ⟨bN, hbN⟩ : ∃ b, (!underOk T n) = b := ⟨_, rfl⟩
          have hbNh := hid hbN
          clear hbN hbGh
          go_upto_region 19 with fail
          go_cut [108] from 99 to 108 (fun x W => x = .bool bN ∧ Below w8.heap.size w8 W)
          case first =>
            cases bT with
            | false => go_wp2_with fail; go_meet; exact ⟨congrArg Value.bool (by rw [← hbNh.out]; unfold underOk; rw [hTh.out]; rfl), hA.out⟩
            | true =>
              by_cases hn0 : n < 0
              · go_wp2_with fail; go_meet; exact ⟨congrArg Value.bool (by rw [← hbNh.out]; unfold underOk; rw [hTh.out]; simp; omega), hA.out⟩
              · by_cases hn1 : 250 < n
                · go_wp2_with fail; go_meet; exact ⟨congrArg Value.bool (by rw [← hbNh.out]; unfold underOk; rw [hTh.out]; simp; omega), hA.out⟩
                · go_wp2_with fail; go_meet; exact ⟨congrArg Value.bool (by rw [← hbNh.out]; unfold underOk; rw [hTh.out]; simp; omega), hA.out⟩
          case rest =>
            obtain ⟨rfl, hcut⟩ := hcut
            have hA := hid hcut
            clear hcut
            go_upto_if 108 with fail
            go_cut [] from 109 to 125 (fun W => Below w8.heap.size w8 W)
            case first =>
              cases bN with
              | true =>
                have hok : underOk T n = false := by simpa using hbNh.out
                have e1 : (undE T n != 1) = false := by simp [undE, hok]
                have e2 : (((undL T n).length : Int) != 0) = false := by simp [undL, hok]
                clear hok
                go_wp2_with fail
                go_meet
                exact hA.out
              | false =>
                have hok : underOk T n = true := by simpa using hbNh.out
                have hTr : tabRight T = true := by unfold underOk at hok; simp only [Bool.and_eq_true] at hok; exact hok.1.1
                have htb := tab_bnds ((tabRight_iff T).1 hTr)
                have e1 : (undE T n != 0) = false := by simp [undE, hok]
                have e2 := hid (show undL T n = tabUnder T n by simp [undL, hok])
                have hUn := hid (fun W (hb : Below w8.heap.size w8 W) => ref09_Under _ T n W (HT8.out W hb) htb.1 htb.2)
                rw [← e2.out] at hUn
                have hSa := hid (fun W u (hb : Below w8.heap.size w8 W) (hu : Row intE W W.heap.size u (undL T n)) => ref07_Same _ u (undL T n) (undL T n) W (HU8.out W hb) hu)
                rw [decide_eq_true rfl] at hSa
                clear hok hTr htb
                go_wp2_with (first
                  | (go_at_call 30; refine (hUn.out _ hA.out).mono ?_; rintro e wB ⟨vB, rfl, hrB, hB⟩; obtain ⟨AB, cB, rfl, _, _⟩ := hrB.open; have hB := hid (below_step hA.out hB); have hrB := hid hrB)
                  | (go_at_call 29; refine (hSa.out _ _ hB.out hrB.out).mono ?_; rintro e wC ⟨rfl, hC⟩; have hC := hid (below_step hB.out hC)))
                go_meet
                exact hC.out
            case rest =>
              have hA := hid hcut
              clear hcut hbNh
              obtain ⟨bS, hbS⟩ : ∃ b, (!setOk T S) = b := ⟨_, rfl⟩
              have hbSh := hid hbS
              clear hbS
              go_upto_region 24 with fail
              go_cut [132] from 126 to 132 (fun x W => x = .bool bS ∧ Below w8.heap.size w8 W)
              case first =>
                cases bT with
                | false => go_wp2_with fail; go_meet; exact ⟨congrArg Value.bool (by rw [← hbSh.out]; unfold setOk; rw [hTh.out]; rfl), hA.out⟩
                | true =>
                  have k0 := (HX8.out _ hA.out).cell 0 _ rfl
                  have k1 := (HX8.out _ hA.out).cell 1 _ rfl
                  have k2 := (HX8.out _ hA.out).cell 2 _ rfl
                  have hSp := hid (fun W (hb : Below w8.heap.size w8 W) => ref09_Spot S _ W (HS8.out W hb))
                  go_wp2_with (go_at_call 31; refine (hSp.out _ hA.out).mono ?_; rintro e wB ⟨rfl, hB⟩; have hB := hid (below_step hA.out hB))
                  go_meet
                  exact ⟨congrArg Value.bool (by rw [← hbSh.out]; unfold setOk; rw [hTh.out]; rfl), hB.out⟩
              case rest =>
                obtain ⟨rfl, hcut⟩ := hcut
                have hA := hid hcut
                clear hcut
                cases bS with
                | true =>
                  have hok : setOk T S = false := by simpa using hbSh.out
                  have e0 : setErr T S = 1 := by unfold setErr; rw [hok]; rfl
                  have e1 : (setErr T S == 1) = true := by simp [e0]
                  have e2 : (((setRow T S).length : Int) == 0) = true := by unfold setRow; rw [e0]; rfl
                  clear hok e0
                  go_wp2_with fail
                  go_ret
                  exact ⟨rfl, hbw8.out.trans (hA.out.mono hbw8.out.size)⟩
                | false =>
                  have hok : setOk T S = true := by simpa using hbSh.out
                  have hok2 := hok
                  unfold setOk at hok2
                  simp only [Bool.and_eq_true] at hok2
                  have htb := tab_bnds ((tabRight_iff T).1 hok2.1)
                  have hsa := spotRight_addr hok2.2
                  have hSe := hid (fun W (hb : Below w8.heap.size w8 W) => ref09_Set _ _ T S W (HT8.out W hb) (HS8.out W hb) htb.1 hsa htb.2)
                  have k0 := (HX8.out _ hA.out).cell 0 _ rfl
                  have k1 := (HX8.out _ hA.out).cell 1 _ rfl
                  have k2 := (HX8.out _ hA.out).cell 2 _ rfl
                  have e0 : setErr T S = if 64 < (tabSet T S).length then 5 else 0 := by unfold setErr; rw [hok]; rfl
                  clear hok hok2 htb hsa
                  by_cases hf : 64 < (tabSet T S).length
                  · rw [if_pos hf] at e0
                    have e1 : (setErr T S == 5) = true := by simp [e0]
                    have e2 : (((setRow T S).length : Int) == 0) = true := by unfold setRow; rw [e0]; rfl
                    clear e0
                    have hf' : (64 : Int) < ((tabSet T S).length : Int) := by omega
                    go_wp2_with (go_at_call 32; refine (hSe.out _ hA.out).mono ?_; rintro e wB ⟨vB, rfl, hrB, hB⟩; obtain ⟨AB, cB, rfl, _, _⟩ := hrB.open; have hB := hid (below_step hA.out hB); have hrB := hid hrB)
                    go_ret
                    exact ⟨rfl, hbw8.out.trans (hB.out.mono hbw8.out.size)⟩
                  · rw [if_neg hf] at e0
                    have e1 : (setErr T S == 0) = true := by simp [e0]
                    have e2 := hid (show setRow T S = tabSet T S by unfold setRow; rw [e0]; rfl)
                    rw [← e2.out] at hSe
                    have hf' : ¬ (64 : Int) < ((setRow T S).length : Int) := by rw [e2.out]; omega
                    have hSm := hid (fun W u (hb : Below w8.heap.size w8 W) (hu : Row spotE W W.heap.size u (setRow T S)) => ref09_Same _ u (setRow T S) (setRow T S) W (HA8.out W hb) hu)
                    rw [decide_eq_true rfl] at hSm
                    clear e0 hf
                    go_wp2_with (first
                      | (go_at_call 32; refine (hSe.out _ hA.out).mono ?_; rintro e wB ⟨vB, rfl, hrB, hB⟩; obtain ⟨AB, cB, rfl, _, _⟩ := hrB.open; have hB := hid (below_step hA.out hB); have hrB := hid hrB)
                      | (go_at_call 33; refine (hSm.out _ _ hB.out hrB.out).mono ?_; rintro e wC ⟨rfl, hC⟩; have hC := hid (below_step hB.out hC)))
                    go_ret
                    exact ⟨rfl, hbw8.out.trans (hC.out.mono hbw8.out.size)⟩
end Go.Proofs.Ytbbkgibopicaeaa
