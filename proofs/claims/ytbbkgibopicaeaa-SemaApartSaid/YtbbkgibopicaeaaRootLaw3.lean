/- The law RootKeeps: its walk. -/
import Derived.Test.YtbbkgibopicaeaaRootLaw2
import Derived.Test.YtbbkgibopicaeaaSpecSet2
import Derived.Test.YtbbkgibopicaeaaRegionT
namespace Go.Proofs.Ytbbkgibopicaeaa
set_option linter.unusedVariables false
set_option linter.unusedSimpArgs false
open Go.RowKit

/-- Two spots lie in their variables. -/
structure At2 (w : World) (s s' : Spot) (W : World) : Prop where
  bel : Below w.heap.size w W
  box : ∃ A c, Box W w.heap.size #[.int .i64 s.addr, .int .i64 s.count, .slice A s.line.length c] 42 ∧ Row intE W w.heap.size (.slice A s.line.length c) s.line
  box' : ∃ A c, Box W (w.heap.size + 1) #[.int .i64 s'.addr, .int .i64 s'.count, .slice A s'.line.length c] 42 ∧ Row intE W w.heap.size (.slice A s'.line.length c) s'.line

/-- The six stores. -/
def Six (n : Nat) (W : World) (a b c d e f : Value) : World :=
  (((((W.setCell ⟨n, 0, none⟩ a).setCell ⟨n, 1, none⟩ b).setCell ⟨n, 2, none⟩ c).setCell ⟨n + 1, 0, none⟩ d).setCell ⟨n + 1, 1, none⟩ e).setCell ⟨n + 1, 2, none⟩ f
theorem six_below {n : Nat} {W0 W : World} {a b c d e f : Value} (h : Below n W0 W) : Below n W0 (Six n W a b c d e f) :=
  (((((h.setCell (Nat.le_refl _) _).setCell (Nat.le_refl _) _).setCell (Nat.le_refl _) _).setCell (Nat.le_succ _) _).setCell (Nat.le_succ _) _).setCell (Nat.le_succ _) _
theorem six_row {n base : Nat} {wf W : World} {v : Value} {l : List Spot} {a b c d e f : Value} (hof : Own (lowE spotE n) 42 wf base v l) (hb : Below wf.heap.size wf W) (h1 : n + 1 < base) (h2 : base ≤ wf.heap.size) :
    Row spotE (Six n W a b c d e f) (Six n W a b c d e f).heap.size v l := by
  have h3 : base ≤ (Six n W a b c d e f).heap.size := by simp [Six, World.setCell]; have := hb.size; omega
  exact ((((((((hof.grown hb h2).lowSet (a := ⟨n, 0, none⟩) (Nat.le_refl _) (by show n < base; omega) a).lowSet (a := ⟨n, 1, none⟩) (Nat.le_refl _) (by show n < base; omega) b).lowSet (a := ⟨n, 2, none⟩) (Nat.le_refl _) (by show n < base; omega) c).lowSet (a := ⟨n + 1, 0, none⟩) (Nat.le_succ _) h1 d).lowSet (a := ⟨n + 1, 1, none⟩) (Nat.le_succ _) h1 e).lowSet (a := ⟨n + 1, 2, none⟩) (Nat.le_succ _) h1 f).high).row h3
theorem six_at {w W wa wb : World} {s s' : Spot} {A A' : Option Addr} {c c' : Nat} {p q r p' q' r' : Value} (h0 : Below w.heap.size w W) (hx : Box W w.heap.size #[p, q, r] 42) (hx' : Box W (w.heap.size + 1) #[p', q', r'] 42)
    (hr : Row intE wa w.heap.size (.slice A s.line.length c) s.line) (ha : Below w.heap.size wa W) (hr' : Row intE wb w.heap.size (.slice A' s'.line.length c') s'.line) (hb : Below w.heap.size wb W) :
    At2 w s s' (Six w.heap.size W (.int .i64 s.addr) (.int .i64 s.count) (.slice A s.line.length c) (.int .i64 s'.addr) (.int .i64 s'.count) (.slice A' s'.line.length c')) := by
  have ne : ∀ k : Nat, w.heap.size ≠ (⟨w.heap.size + 1, k, none⟩ : Addr).block := fun k => by show w.heap.size ≠ w.heap.size + 1; omega
  have ne' : ∀ k : Nat, w.heap.size + 1 ≠ (⟨w.heap.size, k, none⟩ : Addr).block := fun k => by show w.heap.size + 1 ≠ w.heap.size; omega
  exact ⟨six_below h0, ⟨A, c, ((((((hx.set 0 _).set 1 _).set 2 _).setOther (ne 0) _).setOther (ne 1) _).setOther (ne 2) _), hr.keep (six_below ha) (Nat.le_refl _)⟩,
    ⟨A', c', ((((((hx'.setOther (ne' 0) _).setOther (ne' 1) _).setOther (ne' 2) _).set 0 _).set 1 _).set 2 _), hr'.keep (six_below hb) (Nat.le_refl _)⟩⟩

/-- What is known where a spot was set. -/
structure Keeps (T : List Spot) (S : Spot) (X : List Spot) : Prop where
  tab : TabOk T
  spot : spotRight S = true
  eq : X = tabSet T S
  ok : TabOk X
  get : ∀ a, tabGet X a = if a = S.addr then S else tabGet T a

theorem keeps {T X : List Spot} {S : Spot} (hX : setRow T S = X) (he : setErr T S = 0) : Keeps T S X := by
  have h1 : setOk T S = true := by
    unfold setErr at he
    split at he
    · assumption
    · cases he
  have h2 : ¬ 64 < (tabSet T S).length := by
    unfold setErr at he
    rw [if_pos h1] at he
    split at he
    · cases he
    · assumption
  have h3 : X = tabSet T S := by rw [← hX]; unfold setRow; rw [if_pos he]
  unfold setOk at h1
  rw [Bool.and_eq_true] at h1
  have h4 := (tabRight_iff T).1 h1.1
  subst h3
  exact ⟨h4, h1.2, rfl, tabSet_ok h4 h1.2 (by omega), tabGet_set h4 h1.2 (by omega)⟩

theorem Keeps.getS {T X : List Spot} {S : Spot} (h : Keeps T S X) : Go.Proofs.Ytbbkgibopicaeaa.getS X S.addr = S ∧ getE X S.addr = 0 := by
  have ha : getOk X S.addr = true := by unfold getOk; rw [(tabRight_iff X).2 h.ok, (isAddr_iff _).2 (spotRight_addr h.spot)]; rfl
  unfold Go.Proofs.Ytbbkgibopicaeaa.getS getE
  rw [if_pos ha, if_pos ha, h.get, if_pos rfl]
  exact ⟨rfl, rfl⟩

theorem Keeps.other {T X : List Spot} {S : Spot} (h : Keeps T S X) (a : Int) : getE T a = getE X a ∧ (a ≠ S.addr → Go.Proofs.Ytbbkgibopicaeaa.getS T a = Go.Proofs.Ytbbkgibopicaeaa.getS X a) := by
  have e : getOk T a = getOk X a := by unfold getOk; rw [(tabRight_iff X).2 h.ok, (tabRight_iff T).2 h.tab]
  unfold Go.Proofs.Ytbbkgibopicaeaa.getS getE
  rw [e]
  refine ⟨rfl, fun hn => ?_⟩
  rw [h.get, if_neg hn]

theorem Keeps.under {T X : List Spot} {S : Spot} (h : Keeps T S X) : undE X (rootOf S.addr) = 0 ∧ undL X (rootOf S.addr) = tabUnder X (rootOf S.addr) ∧ (0 ≤ place (tabUnder X (rootOf S.addr)) S.addr ↔ spotEmpty S = false) := by
  have hu : underOk X (rootOf S.addr) = true := by
    unfold underOk
    rw [(tabRight_iff X).2 h.ok]
    have : 0 ≤ rootOf S.addr ∧ rootOf S.addr < 251 := by unfold rootOf; omega
    simp [this]
  unfold undE undL
  rw [if_pos hu, if_pos hu]
  refine ⟨rfl, rfl, ?_⟩
  have h1 := place_neg (tabUnder X (rootOf S.addr)) S.addr
  have h2 := mem_tabUnder (t := X) (a := S.addr)
  have h3 := tabSet_has (t := T) (s := S)
  rw [← h.eq] at h3
  rw [← h3, ← h2]
  constructor
  · intro h4
    exact Classical.byContradiction fun hn => by have := h1.2 hn; omega
  · intro h4
    have : ¬ place (tabUnder X (rootOf S.addr)) S.addr < 0 := fun hn => (h1.1 hn) h4
    omega

theorem Keeps.comm {T X : List Spot} {S V : Spot} (h : Keeps T S X) (h1 : setErr X V = 0) (h2 : setErr T V = 0) (h3 : setErr (setRow T V) S = 0) (hne : S.addr ≠ V.addr) : setRow X V = setRow (setRow T V) S := by
  have k1 := keeps rfl h1
  have k2 := keeps rfl h2
  have k3 := keeps rfl h3
  refine tab_ext k1.ok k3.ok fun a => ?_
  rw [k1.get, h.get, k3.get, k2.get]
  by_cases e1 : a = V.addr
  · subst e1
    rw [if_pos rfl, if_neg (fun e => hne e.symm), if_pos rfl]
  · rw [if_neg e1]
    by_cases e2 : a = S.addr
    · rw [if_pos e2, if_pos e2]
    · rw [if_neg e2, if_neg e2, if_neg e1]

set_option maxHeartbeats 3200000 in
set_option maxRecDepth 100000 in
theorem law09_RootKeeps (v u u' : Value) (t0 : List Spot) (a0 b0 : Spot) (addr : Int) (w : World) (h0 : Row spotE w w.heap.size v t0) (ha0 : Row intE w w.heap.size u a0.line) (hb0 : Row intE w w.heap.size u' b0.line) :
    Calls Try.prog 6 #[v, .agg #[.int .i64 a0.addr, .int .i64 a0.count, u], .agg #[.int .i64 b0.addr, .int .i64 b0.count, u'], .int .i64 addr] w (TruePost w) := by
  have hF := hid (fun W (hb : Below w.heap.size w W) => law09_few_own v t0 w.heap.size W (h0.keep hb (Nat.le_refl _)) hb.size)
  have hCa := hid (fun W (hb : Below w.heap.size w W) => law09_cut a0 u w.heap.size W (ha0.keep hb (Nat.le_refl _)) hb.size)
  have hCb := hid (fun W (hb : Below w.heap.size w W) => law09_cut b0 u' w.heap.size W (hb0.keep hb (Nat.le_refl _)) hb.size)
  obtain ⟨A0, c0, rfl, _, _⟩ := h0.open
  obtain ⟨Au, cu, rfl, _, _⟩ := ha0.open
  obtain ⟨Av, cv, rfl, _, _⟩ := hb0.open
  clear h0 ha0 hb0
  go_enter Try.func6, Try.ntmps6
  go_wp2
  go_cut [0] from 27 to 32 (fun x W => ∃ A1 c1, x = .slice A1 (fewS t0).length c1 ∧ Row spotE W W.heap.size (.slice A1 (fewS t0).length c1) (fewS t0) ∧ At2 w (cutS a0) (cutS b0) W)
  case first =>
    refine wp_name ?_
    intro W0 hW0
    have hb0' : Below w.heap.size w W0 := by rw [hW0]; repeat (first | assumption | exact Below.refl _ _ | refine bdrawN ?_ _ | refine Below.drew ?_ | refine Below.alloc ?_ (by (try simp) <;> omega) _ | refine Below.setCell ?_ (by (try simp) <;> omega) _)
    have hx0 : Box W0 w.heap.size #[.int .i64 a0.addr, .int .i64 a0.count, .slice Au a0.line.length cu] 42 := by rw [hW0]; exact (Box.new _ _ _).alloc _
    have hy0 : Box W0 (w.heap.size + 1) #[.int .i64 b0.addr, .int .i64 b0.count, .slice Av b0.line.length cv] 42 := by rw [hW0]; exact boxAt _ _ (by simp) _ _
    have HX := hid (fun W (h : Below W0.heap.size W0 W) => hx0.keep h hx0.lt)
    have HY := hid (fun W (h : Below W0.heap.size W0 W) => hy0.keep h hy0.lt)
    have hlt0 := hy0.lt
    have q0 := hx0.cell 0 _ rfl
    have q1 := hx0.cell 1 _ rfl
    have q2 := hx0.cell 2 _ rfl
    have p0 := hy0.cell 0 _ rfl
    have p1 := hy0.cell 1 _ rfl
    have p2 := hy0.cell 2 _ rfl
    have hF0 := hid (fun W (h : Below W0.heap.size W0 W) => (hF.out W (hb0'.trans (h.mono hb0'.size))))
    have hCa0 := hid (fun W (h : Below W0.heap.size W0 W) => (hCa.out W (hb0'.trans (h.mono hb0'.size))))
    have hCb0 := hid (fun W (h : Below W0.heap.size W0 W) => (hCb.out W (hb0'.trans (h.mono hb0'.size))))
    have hb0' := hid hb0'
    have hlt0' := hid hlt0
    clear hW0 hx0 hy0 hlt0 q0 q1 q2 p0 p1 p2
    refine wp_region_T 6 (fun W => Below W0.heap.size W0 W) (by kernel_rfl) (by decide) (Below.refl W0.heap.size W0).drew ?_
    refine WT.take 0 _ _ rfl (by decide) (by kernel_rfl) (by kernel_rfl) (by intro c a w h; exact h) (Or.inl ⟨by rfl, fun W hW => rfl⟩) ?_
    refine WT.take 2 _ (.agg #[.int .i64 a0.addr, .int .i64 a0.count, .slice Au a0.line.length cu]) rfl (by decide) (by kernel_rfl) (by kernel_rfl) (by intro c a w h; exact h) (Or.inl ⟨by rfl, fun W hW => ?_⟩) ?_
    · have f0 := (HX.out W hW).cell 0 _ rfl
      have f1 := (HX.out W hW).cell 1 _ rfl
      have f2 := (HX.out W hW).cell 2 _ rfl
      go_simp
    refine WT.take 4 _ (.agg #[.int .i64 b0.addr, .int .i64 b0.count, .slice Av b0.line.length cv]) rfl (by decide) (by kernel_rfl) (by kernel_rfl) (by intro c a w h; exact h) (Or.inl ⟨by rfl, fun W hW => ?_⟩) ?_
    · have f0 := (HY.out W hW).cell 0 _ rfl
      have f1 := (HY.out W hW).cell 1 _ rfl
      have f2 := (HY.out W hW).cell 2 _ rfl
      go_simp
    refine WT.call 1 _ 16 #[.slice A0 t0.length c0] rfl (by decide) (by kernel_rfl) rfl (by kernel_rfl) ?_
    refine (hF0.out _ (Below.refl W0.heap.size W0).drew).mono ?_
    rintro e wf ⟨vf, rfl, hof, hbf⟩
    obtain ⟨Af, cf, rfl, _, _⟩ := hof.shape
    have hzf : Below W0.heap.size W0 wf := below_step (Below.refl W0.heap.size W0).drew hbf
    refine ⟨_, rfl, hzf, ?_⟩
    refine WT.call 3 _ 21 #[.agg #[.int .i64 a0.addr, .int .i64 a0.count, .slice Au a0.line.length cu]] rfl (by decide) (by kernel_rfl) rfl (by kernel_rfl) ?_
    refine (hCa0.out _ hzf).mono ?_
    rintro e wa ⟨va, rfl, hra, hba⟩
    obtain ⟨Aa, ca, rfl, _, _⟩ := hra.open
    have hza : Below W0.heap.size W0 wa := below_step hzf hba
    refine ⟨_, rfl, hza, ?_⟩
    refine WT.call 5 _ 21 #[.agg #[.int .i64 b0.addr, .int .i64 b0.count, .slice Av b0.line.length cv]] rfl (by decide) (by kernel_rfl) rfl (by kernel_rfl) ?_
    refine (hCb0.out _ hza).mono ?_
    rintro e wb ⟨vb, rfl, hrb, hbb⟩
    obtain ⟨Ab, cb, rfl, _, _⟩ := hrb.open
    have hzb : Below W0.heap.size W0 wb := below_step hza hbb
    refine ⟨_, rfl, hzb, ?_⟩
    have i0 := (HX.out _ hzb).cell 0 _ rfl
    have i1 := (HX.out _ hzb).cell 1 _ rfl
    have i2 := (HX.out _ hzb).cell 2 _ rfl
    have i3 := (HY.out _ hzb).cell 0 _ rfl
    have i4 := (HY.out _ hzb).cell 1 _ rfl
    have i5 := (HY.out _ hzb).cell 2 _ rfl
    have j0 := (HX.out _ hzb).frozen 0
    have j1 := (HX.out _ hzb).frozen 1
    have j2 := (HX.out _ hzb).frozen 2
    have j3 := (HY.out _ hzb).frozen 0
    have j4 := (HY.out _ hzb).frozen 1
    have j5 := (HY.out _ hzb).frozen 2
    have hof := hid hof
    have hra := hid hra
    have hrb := hid hrb
    have hbf := hid hbf
    have hba := hid hba
    have hbb := hid hbb
    have hzb := hid hzb
    have hnwa : w.heap.size ≤ wa.heap.size := Nat.le_trans hb0'.out.size hza.size
    clear hzf hza
    refine WT.done (by kernel_rfl) ?_
    go_wp2_with fail
    go_meet
    exact ⟨_, _, rfl, six_row hof.out (below_step hba.out hbb.out) hlt0'.out hbf.out.size, six_at (hb0'.out.trans (hzb.out.mono hb0'.out.size)) (HX.out _ hzb.out) (HY.out _ hzb.out) hra.out (hbb.out.mono hnwa) hrb.out (Below.refl _ _)⟩
  case rest =>
    obtain ⟨A1, c1, rfl, hr1, hat⟩ := hcut
    obtain ⟨hbw, ⟨A2, c2, hx1, hs1⟩, ⟨A3, c3, hy1, hu1⟩⟩ := hat
    clear hF hCa hCb
    generalize fewS t0 = T at *
    generalize cutS a0 = S at *
    generalize cutS b0 = V at *
    have hT := hid (fun W (hb : Below wc.heap.size wc W) => hr1.keep hb hb.size)
    have hX := hid (fun W (hb : Below wc.heap.size wc W) => hx1.keep hb hx1.lt)
    have hY := hid (fun W (hb : Below wc.heap.size wc W) => hy1.keep hb hy1.lt)
    have hS := hid (fun W (hb : Below wc.heap.size wc W) => hs1.keep (hb.mono hbw.size) (Nat.le_trans hbw.size hb.size))
    have hV := hid (fun W (hb : Below wc.heap.size wc W) => hu1.keep (hb.mono hbw.size) (Nat.le_trans hbw.size hb.size))
    have hlt1 := hx1.lt
    have hlt1' := hy1.lt
    have hbw0 := hid hbw
    clear hr1 hs1 hu1 hx1 hy1 hbw
    have k0 := (hX.out _ (Below.refl _ _)).cell 0 _ rfl
    have k1 := (hX.out _ (Below.refl _ _)).cell 1 _ rfl
    have k2 := (hX.out _ (Below.refl _ _)).cell 2 _ rfl
    go_wp2_with fail
    refine (root_Set _ _ T S _ (hT.out _ (Below.refl _ _)) (hS.out _ (Below.refl _ _))).mono ?_
    rintro e w2 ⟨v2, rfl, hr2, hb2⟩
    obtain ⟨A4, c4, rfl, _, _⟩ := hr2.open
    by_cases he : setErr T S = 0
    · have he' : (setErr T S != 0) = false := by simp [he]
      obtain ⟨X, hXX⟩ : ∃ X, setRow T S = X := ⟨_, rfl⟩
      rw [hXX] at hr2 ⊢
      have hk := keeps hXX he
      have hg := hid hk.getS
      have hoth := hid (hk.other addr)
      have hun := hid hk.under
      have hcm := hid (fun V => hk.comm (V := V))
      have hXr := hid ((tabRight_iff X).2 hk.ok)
      have hSa := (isAddr_iff _).2 (spotRight_addr hk.spot)
      have hSaE := hid (show rootE S.addr = 0 ∧ rootR S.addr = rootOf S.addr by unfold rootE rootR; rw [if_pos hSa, if_pos hSa]; exact ⟨rfl, rfl⟩)
      have hsz := hid (show X.length ≤ 1000000000 by have := hk.ok.len; omega)
      have hT2 := hid (fun W (hb : Below w2.heap.size w2 W) => hT.out W (below_step hb2 hb))
      have hX2 := hid (fun W (hb : Below w2.heap.size w2 W) => hX.out W (below_step hb2 hb))
      have hY2 := hid (fun W (hb : Below w2.heap.size w2 W) => hY.out W (below_step hb2 hb))
      have hS2 := hid (fun W (hb : Below w2.heap.size w2 W) => hS.out W (below_step hb2 hb))
      have hV2 := hid (fun W (hb : Below w2.heap.size w2 W) => hV.out W (below_step hb2 hb))
      have hN2 := hid (fun W (hb : Below w2.heap.size w2 W) => hr2.keep hb hb.size)
      have hz2 : wc.heap.size ≤ w2.heap.size := hb2.size
      have hlt2 : w.heap.size < w2.heap.size := by omega
      have hlt2' : w.heap.size + 1 < w2.heap.size := by omega
      have hbw2 := hid (hbw0.out.trans (hb2.mono hbw0.out.size))
      clear he hk hSa hXX hT hX hY hS hV hbw0 hr2 hb2 k0 k1 k2
      have k0 := (hX2.out _ (Below.refl _ _)).cell 0 _ rfl
      have k1 := (hX2.out _ (Below.refl _ _)).cell 1 _ rfl
      have k2 := (hX2.out _ (Below.refl _ _)).cell 2 _ rfl
      have hG1 := hid (fun W (hb : Below w2.heap.size w2 W) => root_Get_any _ X S.addr W (hN2.out W hb))
      rw [hg.out.1, hg.out.2] at hG1
      have hG2 := hid (fun W (hb : Below w2.heap.size w2 W) => root_Get_any _ T addr W (hT2.out W hb))
      have hG3 := hid (fun W (hb : Below w2.heap.size w2 W) => root_Get_any _ X addr W (hN2.out W hb))
      rw [← hoth.out.1] at hG3
      obtain ⟨O, hO⟩ : ∃ O, getS T addr = O := ⟨_, rfl⟩
      obtain ⟨N, hN⟩ : ∃ N, getS X addr = N := ⟨_, rfl⟩
      obtain ⟨E, hE⟩ : ∃ E, getE T addr = E := ⟨_, rfl⟩
      rw [hO, hE] at hG2
      rw [hN, hE] at hG3
      have hON := hid (show addr ≠ S.addr → O = N by rw [← hO, ← hN]; exact hoth.out.2)
      clear hO hN hE hoth hg
      go_wp2_with fail
      refine (hG1.out _ (Below.refl _ _)).mono ?_
      rintro e w3 ⟨v3, rfl, hr3, hb3⟩
      obtain ⟨A5, c5, rfl, _, _⟩ := hr3.open
      have hb3h := hid hb3
      have hr3 := hid hr3
      have hz3 := hb3.size
      clear hb3 k0 k1 k2
      go_wp2_with fail
      refine calls_name ?_
      intro W3 hW3
      have hB3 := hid (show Below w2.heap.size w2 W3 by rw [hW3]; exact hb3h.out.alloc hz3 _)
      have hx3 := hid (show Box W3 w3.heap.size #[.int .i64 S.addr, .int .i64 S.count, .slice A5 S.line.length c5] 42 by rw [hW3]; exact Box.new _ _ _)
      have hl3 := hid (show Below w3.heap.size w3 W3 by rw [hW3]; exact (Below.refl _ _).alloc (Nat.le_refl _) _)
      clear hW3
      have P3 := hid (fun W (hb : Below W3.heap.size W3 W) => And.intro (hx3.out.keep hb hx3.out.lt) (hr3.out.keep (below_step hl3.out hb) (Nat.le_trans hl3.out.size hb.size)))
      have hz3' := hx3.out.lt
      refine (hG2.out _ hB3.out).mono ?_
      rintro e w4 ⟨v4, rfl, hr4, hb4⟩
      obtain ⟨A6, c6, rfl, _, _⟩ := hr4.open
      have hb4h := hid hb4
      have hr4 := hid hr4
      have hz4 := hb4.size
      clear hb4
      go_wp2_with fail
      refine calls_name ?_
      intro W4 hW4
      have hC4 := hid (show Below W3.heap.size W3 W4 by rw [hW4]; exact hb4h.out.alloc hz4 _)
      have hx4 := hid (show Box W4 w4.heap.size #[.int .i64 O.addr, .int .i64 O.count, .slice A6 O.line.length c6] 42 by rw [hW4]; exact Box.new _ _ _)
      have hl4 := hid (show Below w4.heap.size w4 W4 by rw [hW4]; exact (Below.refl _ _).alloc (Nat.le_refl _) _)
      clear hW4
      have P4 := hid (fun W (hb : Below W4.heap.size W4 W) => And.intro (hx4.out.keep hb hx4.out.lt) (hr4.out.keep (below_step hl4.out hb) (Nat.le_trans hl4.out.size hb.size)))
      have hz4' := hx4.out.lt
      have hB4 := hid (below_step hB3.out hC4.out)
      refine (hG3.out _ hB4.out).mono ?_
      rintro e w5 ⟨v5, rfl, hr5, hb5⟩
      obtain ⟨A7, c7, rfl, _, _⟩ := hr5.open
      have hb5h := hid hb5
      have hr5 := hid hr5
      have hz5 := hb5.size
      clear hb5
      go_upto_region 8 with fail
      refine wp_name ?_
      intro W5 hW5
      have hC5 := hid (show Below W4.heap.size W4 W5 by rw [hW5]; exact hb5h.out.alloc hz5 _)
      have hx5 := hid (show Box W5 w5.heap.size #[.int .i64 N.addr, .int .i64 N.count, .slice A7 N.line.length c7] 42 by rw [hW5]; exact Box.new _ _ _)
      have hl5 := hid (show Below w5.heap.size w5 W5 by rw [hW5]; exact (Below.refl _ _).alloc (Nat.le_refl _) _)
      clear hW5
      have P5 := hid (fun W (hb : Below W5.heap.size W5 W) => And.intro (hx5.out.keep hb hx5.out.lt) (hr5.out.keep (below_step hl5.out hb) (Nat.le_trans hl5.out.size hb.size)))
      have hB5 := hid (below_step hB4.out hC5.out)
      have Q3 := hid (fun W (hb : Below W5.heap.size W5 W) => P3.out W (below_step hC4.out (below_step hC5.out hb)))
      have Q4 := hid (fun W (hb : Below W5.heap.size W5 W) => P4.out W (below_step hC5.out hb))
      have R := hid (fun W (hb : Below W5.heap.size W5 W) => below_step hB5.out hb)
      have hbw5 := hid (hbw2.out.trans (hB5.out.mono hbw2.out.size))
      clear P3 P4 hC4 hC5 hl3 hl4 hl5 hx3 hx4 hx5 hr3 hr4 hr5 hb3h hb4h hb5h hB3 hB4 hG1 hG2 hG3
      go_cut [99] from 66 to 99 (fun x W => x = .bool false ∧ Below W5.heap.size W5 W)
      case first =>
        have hSp := hid (fun W (hb : Below W5.heap.size W5 W) => ref09_Spots S S _ _ W (Q3.out W hb).2 (hS2.out W (R.out W hb)))
        rw [decide_eq_true rfl] at hSp
        have hRt := hid (fun W (hb : Below W5.heap.size W5 W) => root_Right _ X W (hN2.out W (R.out W hb)))
        rw [hXr.out] at hRt
        have hEE : (E != E) = false := by simp
        by_cases had : addr = S.addr
        · have had' : (addr != S.addr) = false := by simp [had]
          replace had := hid had
          have k0 := (hX2.out W5 (R.out _ (Below.refl _ _))).cell 0 _ rfl
          have k1 := (hX2.out W5 (R.out _ (Below.refl _ _))).cell 1 _ rfl
          have k2 := (hX2.out W5 (R.out _ (Below.refl _ _))).cell 2 _ rfl
          have m0 := (Q3.out W5 (Below.refl _ _)).1.cell 0 _ rfl
          have m1 := (Q3.out W5 (Below.refl _ _)).1.cell 1 _ rfl
          have m2 := (Q3.out W5 (Below.refl _ _)).1.cell 2 _ rfl
          have n0 := (Q4.out W5 (Below.refl _ _)).1.cell 0 _ rfl
          have n1 := (Q4.out W5 (Below.refl _ _)).1.cell 1 _ rfl
          have n2 := (Q4.out W5 (Below.refl _ _)).1.cell 2 _ rfl
          have o0 := (P5.out W5 (Below.refl _ _)).1.cell 0 _ rfl
          have o1 := (P5.out W5 (Below.refl _ _)).1.cell 1 _ rfl
          have o2 := (P5.out W5 (Below.refl _ _)).1.cell 2 _ rfl
          go_wp2_with fail
          refine (hSp.out _ (Below.refl _ _)).mono ?_
          rintro e wA ⟨rfl, hbA⟩
          have hbA := hid hbA
          clear k0 k1 k2 m0 m1 m2 n0 n1 n2 o0 o1 o2
          have k0 := (hX2.out wA (R.out _ hbA.out)).cell 0 _ rfl
          have k1 := (hX2.out wA (R.out _ hbA.out)).cell 1 _ rfl
          have k2 := (hX2.out wA (R.out _ hbA.out)).cell 2 _ rfl
          have m0 := (Q3.out wA hbA.out).1.cell 0 _ rfl
          have m1 := (Q3.out wA hbA.out).1.cell 1 _ rfl
          have m2 := (Q3.out wA hbA.out).1.cell 2 _ rfl
          have n0 := (Q4.out wA hbA.out).1.cell 0 _ rfl
          have n1 := (Q4.out wA hbA.out).1.cell 1 _ rfl
          have n2 := (Q4.out wA hbA.out).1.cell 2 _ rfl
          have o0 := (P5.out wA hbA.out).1.cell 0 _ rfl
          have o1 := (P5.out wA hbA.out).1.cell 1 _ rfl
          have o2 := (P5.out wA hbA.out).1.cell 2 _ rfl
          go_wp2_with fail
          refine (hRt.out _ hbA.out).mono ?_
          rintro e wB ⟨rfl, hbB⟩
          have hbB := hid (below_step hbA.out hbB)
          clear k0 k1 k2 m0 m1 m2 n0 n1 n2 o0 o1 o2
          go_wp2_with (go_at_call 19; refine (law09_alive _).mono ?_; rintro e wD ⟨rfl, hbD⟩; have hbD := hid (below_step hbB.out hbD))
          go_meet
          exact ⟨rfl, hbD.out⟩
        · have had' : (addr != S.addr) = true := by simp [had]
          obtain rfl := hON.out had
          have hSq := hid (fun W (hb : Below W5.heap.size W5 W) => ref09_Spots O O _ _ W (Q4.out W hb).2 (P5.out W hb).2)
          rw [decide_eq_true rfl] at hSq
          replace had := hid had
          have k0 := (hX2.out W5 (R.out _ (Below.refl _ _))).cell 0 _ rfl
          have k1 := (hX2.out W5 (R.out _ (Below.refl _ _))).cell 1 _ rfl
          have k2 := (hX2.out W5 (R.out _ (Below.refl _ _))).cell 2 _ rfl
          have m0 := (Q3.out W5 (Below.refl _ _)).1.cell 0 _ rfl
          have m1 := (Q3.out W5 (Below.refl _ _)).1.cell 1 _ rfl
          have m2 := (Q3.out W5 (Below.refl _ _)).1.cell 2 _ rfl
          have n0 := (Q4.out W5 (Below.refl _ _)).1.cell 0 _ rfl
          have n1 := (Q4.out W5 (Below.refl _ _)).1.cell 1 _ rfl
          have n2 := (Q4.out W5 (Below.refl _ _)).1.cell 2 _ rfl
          have o0 := (P5.out W5 (Below.refl _ _)).1.cell 0 _ rfl
          have o1 := (P5.out W5 (Below.refl _ _)).1.cell 1 _ rfl
          have o2 := (P5.out W5 (Below.refl _ _)).1.cell 2 _ rfl
          go_wp2_with fail
          refine (hSp.out _ (Below.refl _ _)).mono ?_
          rintro e wA ⟨rfl, hbA⟩
          have hbA := hid hbA
          clear k0 k1 k2 m0 m1 m2 n0 n1 n2 o0 o1 o2
          have k0 := (hX2.out wA (R.out _ hbA.out)).cell 0 _ rfl
          have k1 := (hX2.out wA (R.out _ hbA.out)).cell 1 _ rfl
          have k2 := (hX2.out wA (R.out _ hbA.out)).cell 2 _ rfl
          have m0 := (Q3.out wA hbA.out).1.cell 0 _ rfl
          have m1 := (Q3.out wA hbA.out).1.cell 1 _ rfl
          have m2 := (Q3.out wA hbA.out).1.cell 2 _ rfl
          have n0 := (Q4.out wA hbA.out).1.cell 0 _ rfl
          have n1 := (Q4.out wA hbA.out).1.cell 1 _ rfl
          have n2 := (Q4.out wA hbA.out).1.cell 2 _ rfl
          have o0 := (P5.out wA hbA.out).1.cell 0 _ rfl
          have o1 := (P5.out wA hbA.out).1.cell 1 _ rfl
          have o2 := (P5.out wA hbA.out).1.cell 2 _ rfl
          go_wp2_with fail
          refine (hSq.out _ hbA.out).mono ?_
          rintro e wE ⟨rfl, hbE⟩
          have hbE := hid (below_step hbA.out hbE)
          clear k0 k1 k2 m0 m1 m2 n0 n1 n2 o0 o1 o2
          go_wp2_with fail
          refine (hRt.out _ hbE.out).mono ?_
          rintro e wB ⟨rfl, hbB⟩
          have hbB := hid (below_step hbE.out hbB)
          go_wp2_with (go_at_call 19; refine (law09_alive _).mono ?_; rintro e wD ⟨rfl, hbD⟩; have hbD := hid (below_step hbB.out hbD))
          go_meet
          exact ⟨rfl, hbD.out⟩
      case rest =>
        obtain ⟨rfl, hcut⟩ := hcut
        have hA := hid hcut
        clear hcut hON Q3 Q4 P5
        have k0 := (hX2.out _ (R.out _ hA.out)).cell 0 _ rfl
        have k1 := (hX2.out _ (R.out _ hA.out)).cell 1 _ rfl
        have k2 := (hX2.out _ (R.out _ hA.out)).cell 2 _ rfl
        have hRo := hid (fun W => root_Root_any S.addr W)
        rw [hSaE.out.1, hSaE.out.2] at hRo
        have hUn := hid (fun W (hb : Below w2.heap.size w2 W) => root_Under_any _ X (rootOf S.addr) W (hN2.out W hb))
        rw [hun.out.1, hun.out.2.1] at hUn
        have hpl := hid hun.out.2.2
        generalize tabUnder X (rootOf S.addr) = L at hUn hpl
        clear hun
        go_wp2_with (go_at_call 20; refine (hRo.out _).mono ?_; rintro e w' ⟨rfl, rfl⟩)
        refine (hUn.out _ (R.out _ hA.out)).mono ?_
        rintro e wL ⟨vL, rfl, hrL, hbL⟩
        obtain ⟨AL, cL, rfl, _, _⟩ := hrL.open
        have hrL := hid hrL
        have hL := hid (below_step hA.out hbL)
        clear k0 k1 k2
        go_upto_region 12 with fail
        go_cut [128] from 112 to 128 (fun x W => x = .bool false ∧ Below W5.heap.size W5 W)
        case first =>
          have hbW : Below W5.heap.size W5 wL := hL.out
          have d0 := Bel.cell ((hX2.out _ (R.out _ hL.out)).cell 0 _ rfl)
          have d1 := Bel.cell ((hX2.out _ (R.out _ hL.out)).cell 1 _ rfl)
          have d2 := Bel.cell ((hX2.out _ (R.out _ hL.out)).cell 2 _ rfl)
          have hrl := hid (Row.bel hrL.out)
          have hrs := hid (Row.bel (hS2.out _ (R.out _ hL.out)))
          cases hbe : spotEmpty S with
          | true =>
            have hp : place L S.addr < 0 := by
              have := hpl.out
              rw [hbe] at this
              simp at this
              exact this
            have hEm := hid (fun u : Bel wL => ref09_Empty S _ u.w (hrs.out u))
            rw [hbe] at hEm
            clear hbe
            refine wp_region_bel (by kernel_rfl) (by kernel_rfl) ?_; (repeat (go_big_quiet_step (((first | (go_at_call 34; exact Calls.bel_same (ref07_Place _ L _ _ (hrl.out _))) | (go_at_call 35; exact Calls.bel (hEm.out _))))))); refine wpQuiet_nil ?_; rintro _ ⟨⟨w2, hb2⟩, rfl⟩; (try dsimp only); have hb2 := hbW.trans (hb2.mono hbW.size)
            go_wp2
            go_meet
            exact ⟨by first | rfl | (refine congrArg Value.bool ?_; simp; omega), hb2⟩
          | false =>
            have hp : 0 ≤ place L S.addr := hpl.out.2 hbe
            have hEm := hid (fun u : Bel wL => ref09_Empty S _ u.w (hrs.out u))
            rw [hbe] at hEm
            clear hbe
            refine wp_region_bel (by kernel_rfl) (by kernel_rfl) ?_; (repeat (go_big_quiet_step (((first | (go_at_call 34; exact Calls.bel_same (ref07_Place _ L _ _ (hrl.out _))) | (go_at_call 35; exact Calls.bel (hEm.out _))))))); refine wpQuiet_nil ?_; rintro _ ⟨⟨w2, hb2⟩, rfl⟩; (try dsimp only); have hb2 := hbW.trans (hb2.mono hbW.size)
            go_wp2
            go_meet
            exact ⟨by first | rfl | (refine congrArg Value.bool ?_; simp; omega), hb2⟩
        case rest =>
          obtain ⟨rfl, hcut⟩ := hcut
          have hA := hid hcut
          clear hcut hpl hrL hL
          have hsY := hid (fun W (hb : Below w2.heap.size w2 W) => root_Set _ _ X V W (hN2.out W hb) (hV2.out W hb))
          have hsZ := hid (fun W (hb : Below w2.heap.size w2 W) => root_Set _ _ T V W (hT2.out W hb) (hV2.out W hb))
          have l0 := (hY2.out _ (R.out _ hA.out)).cell 0 _ rfl
          have l1 := (hY2.out _ (R.out _ hA.out)).cell 1 _ rfl
          have l2 := (hY2.out _ (R.out _ hA.out)).cell 2 _ rfl
          go_wp2_with fail
          refine (hsY.out _ (R.out _ hA.out)).mono ?_
          rintro e wY ⟨vY, rfl, hrY, hbY⟩
          obtain ⟨AY, cY, rfl, _, _⟩ := hrY.open
          have hrY := hid hrY
          have hbY := hid (below_step hA.out hbY)
          clear l0 l1 l2
          have l0 := (hY2.out _ (R.out _ hbY.out)).cell 0 _ rfl
          have l1 := (hY2.out _ (R.out _ hbY.out)).cell 1 _ rfl
          have l2 := (hY2.out _ (R.out _ hbY.out)).cell 2 _ rfl
          go_wp2_with fail
          refine (hsZ.out _ (R.out _ hbY.out)).mono ?_
          rintro e wZ ⟨vZ, rfl, hrZ, hbZ⟩
          obtain ⟨AZ, cZ, rfl, _, _⟩ := hrZ.open
          have hrY := hid (hrY.out.keep hbZ hbZ.size)
          have hrZ := hid hrZ
          have hbZ := hid (below_step hbY.out hbZ)
          clear l0 l1 l2
          have k0 := (hX2.out _ (R.out _ hbZ.out)).cell 0 _ rfl
          have k1 := (hX2.out _ (R.out _ hbZ.out)).cell 1 _ rfl
          have k2 := (hX2.out _ (R.out _ hbZ.out)).cell 2 _ rfl
          go_wp2_with fail
          refine (root_Set _ _ (setRow T V) S _ hrZ.out (hS2.out _ (R.out _ hbZ.out))).mono ?_
          rintro e wQ ⟨vQ, rfl, hrQ, hbQ⟩
          obtain ⟨AQ, cQ, rfl, _, _⟩ := hrQ.open
          have hrY := hid (hrY.out.keep hbQ hbQ.size)
          have hrQ := hid hrQ
          have hbQ := hid (below_step hbZ.out hbQ)
          clear k0 k1 k2
          have k0 := (hX2.out _ (R.out _ hbQ.out)).cell 0 _ rfl
          have l0 := (hY2.out _ (R.out _ hbQ.out)).cell 0 _ rfl
          have hfin := hid (hbw5.out.trans (hbQ.out.mono hbw5.out.size))
          by_cases e1 : setErr X V = 0
          · have e1' : (setErr X V != 0) = false := by simp [e1]
            by_cases e2 : setErr T V = 0
            · have e2' : (setErr T V != 0) = false := by simp [e2]
              by_cases e3 : setErr (setRow T V) S = 0
              · have e3' : (setErr (setRow T V) S != 0) = false := by simp [e3]
                by_cases e4 : S.addr = V.addr
                · have e4' : (S.addr == V.addr) = true := by simp [e4]
                  clear e1 e2 e3 e4
                  go_wp2_with fail
                  go_ret
                  exact ⟨rfl, hfin.out⟩
                · have e4' : (S.addr == V.addr) = false := by simp [e4]
                  have hSm := hid (ref09_Same _ _ (setRow X V) (setRow (setRow T V) S) _ hrY.out hrQ.out)
                  rw [decide_eq_true (hcm.out V e1 e2 e3 e4)] at hSm
                  clear e1 e2 e3 e4
                  go_wp2_with (go_at_call 33; refine hSm.out.mono ?_; rintro e wC ⟨rfl, hC⟩; have hC := hid (below_step hbQ.out hC))
                  go_ret
                  exact ⟨rfl, hbw5.out.trans (hC.out.mono hbw5.out.size)⟩
              · have e3' : (setErr (setRow T V) S != 0) = true := by simp [e3]
                clear e1 e2 e3
                go_wp2_with fail
                go_ret
                exact ⟨rfl, hfin.out⟩
            · have e2' : (setErr T V != 0) = true := by simp [e2]
              clear e1 e2
              go_wp2_with fail
              go_ret
              exact ⟨rfl, hfin.out⟩
          · have e1' : (setErr X V != 0) = true := by simp [e1]
            clear e1
            go_wp2_with fail
            go_ret
            exact ⟨rfl, hfin.out⟩
    · have he' : (setErr T S != 0) = true := by simp [he]
      have hl : (((setRow T S).length : Int) == 0) = true := by unfold setRow; rw [if_neg he]; rfl
      have hb2 := hid hb2
      clear he hr2 k0 k1 k2
      go_wp2_with (go_at_call 19; refine (law09_alive _).mono ?_; rintro e w3 ⟨rfl, hb3⟩; have hb3 := hid (below_step hb2.out hb3))
      go_ret
      exact ⟨rfl, hbw0.out.trans (hb3.out.mono hbw0.out.size)⟩
end Go.Proofs.Ytbbkgibopicaeaa
