/- Layer 8 of the program: a key is put in. -/
import Derived.Test.YtbbkgibopicaeaaPutRow
import Derived.Deep.RegionHeld3
import Derived.Deep.CutRange
import Derived.Deep.RegionLaw
namespace Go.Proofs.Ytbbkgibopicaeaa
set_option linter.unusedVariables false
set_option linter.unusedSimpArgs false
open Go.RowKit

/-- What Put answers where it puts. -/
def PutPost (ns : List Node) (t : T) (key : Int) (w : World) (e : Ending) (w' : World) : Prop :=
  ∃ v', e = .returned (.tuple #[.agg #[.int .i64 (ins ns.length key t).root, v'], .int .i64 0]) ∧ Row nodeE w' w'.heap.size v' (insNs key t ns) ∧ Below w.heap.size w w' ∧ ∀ g, v'.ownBlock = some g → w.heap.size ≤ g

set_option maxRecDepth 100000 in
set_option maxHeartbeats 8000000 in
theorem treap_Put (ns : List Node) (t : T) (v : Value) (key : Int) (w : World) (hok : TreeOk ns t) (h : Row nodeE w w.heap.size v ns) (hk : isAddr key = true) (hn : key ∉ t.keys) (hlen : ns.length < 64) :
    Calls Try.prog 82 #[.agg #[.int .i64 t.root, v], .int .i64 key] w (PutPost ns t key w) := by
  obtain ⟨A, c, rfl, hlc, hcm⟩ := h.open
  unfold maxLen at hcm
  have hka := hid ((isAddr_iff key).1 hk)
  obtain ⟨g, o, hA⟩ := h.start
  obtain ⟨r, hr, hr1, hr2⟩ := seek_root hok key
  have hrn : (r != -1) = false := by rw [hr2]; simp [hn]
  have H := hid h
  have hN : t.idx.length ≤ 64 := by rw [hok.len]; exact hok.le
  have hmay := hid (fun W (hb : Below w.heap.size w W) => treap_may ns t (.slice A ns.length c) key W hok (H.out.keep hb hb.size) hk)
  have hseek := hid (fun W bk (hb : Below w.heap.size w W) (hbx : Box W w.heap.size #[.int .i64 t.root, .slice A ns.length c] 81) (hbk : Box W bk #[.int .i64 key] 3) =>
    treap_seek 104 #[.pointer (some ⟨bk, 0, none⟩)] enter_other1 (fun k => k != key) key ns t ns.length c A w.heap.size g o W hok.rep hN hbx (H.out.keep hb hb.size) hA (fun m W' _ hW' => treap_other1 m key bk W' (hbk.keep hW' hbk.lt)))
  have hlink := hid (fun W (hb : Below w.heap.size w W) (hbx : Box W w.heap.size #[.int .i64 t.root, .slice A ns.length c] 81) =>
    link_cell (t := T) (C := (seekC (fun k => k != key) key t .top).1) (u := (seekC (fun k => k != key) key t .top).2) (bt := w.heap.size) (g := g) (o := o) (W := W) (B := W.heap.size) (by rw [seekC_fill]; exact hok.rep) (by rw [seekC_fill]; exact hbx) hbx.lt (H.out.keep hb hb.size) hA)
  have hown := hid (fun W (hb : Below w.heap.size w W) => treap_own ns t.root (.slice A ns.length c) W (H.out.keep hb hb.size) hok.le)
  have hok := hid hok
  have hn := hid hn
  clear h hA hN hr1 hr2
  have hl64 : ((ns.length : Int) == 64) = false := by rw [beq_eq_false_iff_ne]; omega
  go_enter Try.func82, Try.ntmps82
  go_wp2_with fail
  refine calls_name ?_
  intro W0 hW0
  have hb0 := hid (show Below w.heap.size w W0 by rw [hW0]; repeat (first | assumption | exact Below.refl _ _ | refine bdrawN ?_ _ | refine Below.drew ?_ | refine Below.alloc ?_ (by (try simp) <;> omega) _ | refine Below.setCell ?_ (by (try simp) <;> omega) _))
  have bt0 := hid (show Box W0 w.heap.size #[.int .i64 t.root, .slice A ns.length c] 81 by rw [hW0]; exact ((Box.new _ _ _).alloc _).alloc _)
  have bk0 := hid (show Box W0 (w.heap.size + 1) #[.int .i64 key] 3 by rw [hW0]; exact (boxAt _ _ (by simp) _ _).alloc _)
  have br0 := hid (show Box W0 (w.heap.size + 1 + 1) #[.int .i64 0, .slice none 0 0] 81 by rw [hW0]; exact boxAt _ _ (by simp) _ _)
  clear hW0
  refine (hmay.out _ hb0.out).mono ?_
  rintro e w1 ⟨rfl, hb1⟩
  have bt1 := hid (bt0.out.keep hb1 bt0.out.lt)
  have bk1 := hid (bk0.out.keep hb1 bk0.out.lt)
  have br1 := hid (br0.out.keep hb1 br0.out.lt)
  have hb1 := hid (hb0.out.trans (hb1.mono hb0.out.size))
  have k1 := bk1.out.cell 0 _ rfl
  have kz1 := bk1.out.lt
  go_wp2_with fail
  go_region_held3 (fun w' => w'.cell? ⟨w.heap.size + 1, 0, none⟩ = some (.int .i64 key)) (first | assumption | go_keep)
    ((first
      | (go_at_call 85; refine (treap_other _ _).mono ?_; rintro e w2 ⟨bk, rfl, hbk, hb2⟩; have bt2 := hid (bt1.out.drew.keep hb2 bt1.out.lt); have bk2 := hid (bk1.out.drew.keep hb2 bk1.out.lt); have br2 := hid (br1.out.drew.keep hb2 br1.out.lt); have hbk := hid hbk; have hb2 := hid (hb1.out.drew.trans (hb2.mono hb1.out.size)); have k2 := bk2.out.cell 0 _ rfl)
      | (go_at_call 84; refine (hseek.out _ _ hb2.out bt2.out hbk.out).mono ?_; rintro e w3 ⟨d, rfl, hb3⟩; have bt3 := hid (bt2.out.keep hb3 bt2.out.lt); have bk3 := hid (bk2.out.keep hb3 bk2.out.lt); have br3 := hid (br2.out.keep hb3 br2.out.lt); have hb3 := hid (hb2.out.trans (hb3.mono hb2.out.size)); have k3 := bk3.out.cell 0 _ rfl)))
  obtain ⟨lb, lo, hla, hlb, hlc'⟩ := hlink.out _ hb3.out bt3.out
  rw [hla]
  rw [hr] at hlc'
  have t30 := bt3.out.cell 0 (.int .i64 t.root) rfl
  have t31 := bt3.out.cell 1 (.slice A ns.length c) rfl
  have tz3 := bt3.out.lt
  have hHeld := hid True.intro
  clear hHeld k1 kz1 k2 hmay hseek hlink
  go_wp2_with fail
  refine (hown.out _ hb3.out).mono ?_
  rintro e w4 ⟨bu, v4, rfl, hbu1, bu4, hbu2, hown4, hb4⟩
  obtain ⟨A4, c4, rfl, hc41, hc42⟩ := hown4.shape
  have bk4 := hid (bk3.out.keep hb4 bk3.out.lt)
  have br4 := hid (br3.out.keep hb4 br3.out.lt)
  have hown4 := hid hown4
  have bu4 := hid bu4
  have hbu2 := hid hbu2
  have hz43 := hb4.size
  have hb4 := hid (hb3.out.trans (hb4.mono hb3.out.size))
  have u1 := bu4.out.cell 1 (.slice A4 ns.length c4) rfl
  have k4 := bk4.out.cell 0 (.int .i64 key) rfl
  have hz0 := hb3.out.size
  have kz4 := bk4.out.lt
  have uz4 := bu4.out.lt
  have kz3 := bk3.out.lt
  clear t30 t31 hlc' k3 tz3
  go_wp2_with fail
  have hno : (Value.slice A4 ns.length c4).ownBlock ≠ some bu := fun e => Nat.lt_irrefl _ (hbu2.out bu e)
  have ho4 := hid (fun x => (hown4.out.alloc (by omega) x).drew (by simp; omega))
  have hu4 := hid (fun x => (bu4.out.alloc x).drew)
  have hbs4 := hid (fun x => ((Below.refl w4.heap.size w4).alloc (Nat.le_refl _) x).drew)
  have ne1 := World.new_ne w4 _ u1
  have ne2 := World.new_ne w4 _ k4
  obtain ⟨O4, hO4⟩ : ∃ O4 : Obj, O4 = .cells #[.int .i64 key, .int .i64 (-1), .int .i64 (-1)] 101 := ⟨_, rfl⟩
  have a1 : Own nodeE 101 (w4.alloc (.cells #[.int .i64 key, .int .i64 (-1), .int .i64 (-1)] 101)).drew (w3.heap.size + 1) (.slice A4 ns.length c4) ns := ho4.out _
  have a2 : ∀ j u, [Value.int .i64 key, .int .i64 (-1), .int .i64 (-1)][j]? = some u → ((w4.alloc (.cells #[.int .i64 key, .int .i64 (-1), .int .i64 (-1)] 101)).drew).cell? ((⟨w4.heap.size, 0, none⟩ : Addr).add j) = some u := World.news_of_block (cs := #[.int .i64 key, .int .i64 (-1), .int .i64 (-1)]) (t := 101) (fr := (0, 0)) (heap_alloc_new w4 _)
  have a3 : (ns.length + 1) * 24 ≤ 140737488355328 := by omega
  have a4 : ns.length + 1 ≤ maxLen := by unfold maxLen; omega
  have a5 : w3.heap.size + 1 ≤ ((w4.alloc (.cells #[.int .i64 key, .int .i64 (-1), .int .i64 (-1)] 101)).drew).heap.size := by simp; omega
  have a6 : ((w4.alloc (.cells #[.int .i64 key, .int .i64 (-1), .int .i64 (-1)] 101)).drew).heap.size = w4.heap.size + 1 := by simp
  have a7 : nodeE.ok ((w4.alloc (.cells #[.int .i64 key, .int .i64 (-1), .int .i64 (-1)] 101)).drew) (w3.heap.size + 1) ⟨key, -1, -1⟩ [.int .i64 key, .int .i64 (-1), .int .i64 (-1)] := rfl
  have a8 := hu4.out (.cells #[.int .i64 key, .int .i64 (-1), .int .i64 (-1)] 101)
  have a9 := hbs4.out (.cells #[.int .i64 key, .int .i64 (-1), .int .i64 (-1)] 101)
  have a10 : w.heap.size + 1 < w3.heap.size + 1 := by omega
  have a11 := (a9.cell (p := ⟨w.heap.size + 1, 0, none⟩) kz4).trans k4
  have hbk1 : ¬ bu = w.heap.size + 1 := by omega
  have hbk2 : ¬ w.heap.size + 1 = bu := by omega
  go_cut [8] from 40 to 50 (fun u wx => u = .pointer (some ⟨bu, 0, none⟩) ∧ ∃ g5 c5, Box wx bu #[.int .i64 t.root, .slice (some ⟨g5, 0, none⟩) (ns.length + 1) c5] 81 ∧ Own nodeE 101 wx (w3.heap.size + 1) (.slice (some ⟨g5, 0, none⟩) (ns.length + 1) c5) (ns ++ [⟨key, -1, -1⟩]) ∧ bu ≠ g5 ∧ Below (w3.heap.size + 1) w4 wx ∧ ns.length + 1 ≤ c5)
  case first =>
    go_region_law ((refine step_app1 nodeE 79 101 (.agg #[.int .i64 0, .int .i64 0, .int .i64 0]) 24 Try.underlying79 info_node rfl (by decide) (by rfl) _ _ (by rfl) (w3.heap.size + 1) ns ⟨key, -1, -1⟩ (ns ++ [⟨key, -1, -1⟩]) (ns.length + 1) rfl rfl _ (by rfl) a1 ⟨w4.heap.size, 0, none⟩ 1 (by rfl) [.int .i64 key, .int .i64 (-1), .int .i64 (-1)] a7 a2 a3 a4 a5 (w4.heap.size + 1) a6 ?_; intro g5 c5 w5 hown5 hb5 hoth5 hat5 hlt5; have bu5 := (hoth5 bu (by rw [a6]; omega) hno).trans a8; have u5 := Box.cell (w := w5) bu5 1 (.slice A4 ns.length c4) rfl; have f5 := Box.frozen (w := w5) bu5 1; have k5 := (hb5.cell (p := ⟨w.heap.size + 1, 0, none⟩) a10).trans a11))
    all_goals
      go_wp2_with fail
      go_meet
      refine ⟨rfl, g5, c5, Box.set (w := w5) bu5 1 _, hown5.stay' (fun q hq => Below.heap_setCell w5 _ _ q (fun e => ?_)) (fun _ _ _ _ _ h => h), ?_, ?_, ?_⟩
      · have := (hown5.lt q hq).1
        simp [Value.ownBlock] at hq
        rcases hat5 with h | h
        · have := hbu2.out g5 h; simp at e; omega
        · simp at e; omega
      · rcases hat5 with h | h
        · have := hbu2.out g5 h; omega
        · omega
      · exact ((a9.mono (by omega)).trans hb5).setCell (by show _ ≤ bu; omega) _
      · obtain ⟨_, _, e, h, _⟩ := hown5.shape
        injection e with e1 e2 e3
        subst e3
        simpa using h
  case rest =>
    obtain ⟨rfl, g5, c5, bu5, hown5, hne5, hb5, hc5⟩ := hcut
    have bk5 := hid (bk4.out.keep hb5 (by omega))
    have br5 := hid (br4.out.keep hb5 (by omega))
    have hs5 := hb5.size
    have hrow5 := hown5.row (by omega)
    have hbw5 := hid (hb4.out.trans (hb5.mono (by omega)))
    have hrep2 : Rep (ns ++ [⟨key, -1, -1⟩]) t := hok.out.rep.congr fun j hj => by rw [List.getElem?_append_left (hok.out.rep.lt j hj)]
    have hN : t.idx.length ≤ 64 := by rw [hok.out.len]; exact hok.out.le
    have hH5 := hid (And.intro bu5 (And.intro hown5 (And.intro hrow5 (And.intro hrep2 hN))))
    have k5 := bk5.out.cell 0 (.int .i64 key) rfl
    have u5 := bu5.cell 1 (.slice (some ⟨g5, 0, none⟩) (ns.length + 1) c5) rfl
    clear bu5 hown5 hrow5 hrep2 hN hb5 u1 k4 a1 a2 a3 a4 a5 a6 a7 a8 a9 a10 a11 ho4 hu4 hbs4 ne1 ne2 hO4
    have hc51 : c5 ≤ 9223372036854775807 := by
      obtain ⟨_, _, e, _, h⟩ := hH5.out.2.1.shape
      injection e with e1 e2 e3
      subst e3
      exact h
    go_wp2_with fail
    refine (treap_seek 103 #[.pointer (some ⟨w.heap.size + 1, 0, none⟩)] enter_Put1 (fun k => decide (pri key < pri k)) key (ns ++ [⟨key, -1, -1⟩]) t (ns.length + 1) c5 (some ⟨g5, 0, none⟩) bu g5 0 wc hH5.out.2.2.2.1 hH5.out.2.2.2.2 hH5.out.1 hH5.out.2.2.1 (fun _ => rfl) (fun m W hm hW => treap_Put1 m key _ W (bk5.out.keep hW bk5.out.lt) (hok.out.isk _ hm) hka.out)).mono ?_
    rintro e w6 ⟨d6, rfl, hb6⟩
    have bu6 := hid (hH5.out.1.keep hb6 hH5.out.1.lt)
    have bk6 := hid (bk5.out.keep hb6 bk5.out.lt)
    have br6 := hid (br5.out.keep hb6 br5.out.lt)
    have hown6 := hid (hH5.out.2.1.grown hb6 (by omega))
    have hbw6 := hid (hbw5.out.trans (hb6.mono hbw5.out.size))
    have hs6 := hb6.size
    have hfill : fill (putAt key t).1 (putAt key t).2 = t := seekC_fill _ _ t .top
    obtain ⟨lb2, lo2, hla2, hlb2, hlc2⟩ := link_cell (t := T) (C := (putAt key t).1) (u := (putAt key t).2) (bt := bu) (g := g5) (o := 0) (W := w6) (B := w6.heap.size) (by rw [hfill]; exact hH5.out.2.2.2.1) (by rw [hfill]; exact bu6.out) bu6.out.lt (hown6.out.row (by omega)) (fun _ => rfl)
    have hix : ∀ i, (putAt key t).1.link.ix = some i → i < (ns ++ [(⟨key, -1, -1⟩ : Node)]).length := fun i e =>
      ((rep_hole (ns := ns ++ [⟨key, -1, -1⟩]) (c := (putAt key t).1) (t := (putAt key t).2) (by rw [hfill]; exact hH5.out.2.2.2.1)).2.1 (fun h => by rw [h] at e; simp [Link.ix] at e)).2 i e
    obtain ⟨p1, p2, p3, p4⟩ := put_store (w := w6) (n := ns.length + 1) (ns := ns ++ [⟨key, -1, -1⟩]) (by simp) bu6.out hown6.out hne5 (putAt key t).1.link hix (ns.length : Int) hla2
    rw [show linkCell bu g5 0 (seekC (fun k => decide (pri key < pri k)) key t .top).1.link = ⟨lb2, lo2, none⟩ from hla2]
    have hg5 := (hown6.out.lt g5 rfl)
    have bk7 := hid (bk6.out.setOther (a := ⟨lb2, lo2, none⟩) (by rcases p4 with h | h <;> (show _ ≠ lb2) <;> omega) (.int .i64 (ns.length : Int)))
    have br7 := hid (br6.out.setOther (a := ⟨lb2, lo2, none⟩) (by have := br4.out.lt; rcases p4 with h | h <;> (show _ ≠ lb2) <;> omega) (.int .i64 (ns.length : Int)))
    have hbw7 := hid (hbw6.out.setCell (p := ⟨lb2, lo2, none⟩) (by rcases p4 with h | h <;> (show _ ≤ lb2) <;> omega) (.int .i64 (ns.length : Int)))
    have p2 := hid p2
    have p3 := hid p3
    go_wp2_with fail
    refine wp_name ?_
    intro w7 hw7
    have bu7 := hid (show Box w7 bu #[.int .i64 (setRoot t.root (putAt key t).1.link ns.length), .slice (some ⟨g5, 0, none⟩) (ns.length + 1) c5] 81 by rw [hw7]; exact p2.out)
    have hown7 := hid (show Own nodeE 101 w7 (w3.heap.size + 1) (.slice (some ⟨g5, 0, none⟩) (ns.length + 1) c5) (setLink (ns ++ [⟨key, -1, -1⟩]) (putAt key t).1.link ns.length) by rw [hw7]; exact p3.out)
    have bk7 := hid (show Box w7 (w.heap.size + 1) #[.int .i64 key] 3 by rw [hw7]; exact bk7.out)
    have br7 := hid (show Box w7 (w.heap.size + 1 + 1) #[.int .i64 0, .slice none 0 0] 81 by rw [hw7]; exact br7.out)
    have hbw7 := hid (show Below w.heap.size w w7 by rw [hw7]; exact hbw7.out)
    have hst := hid (putSt_start key hok.out)
    have hfin := hid (ins_ok hok.out hka.out hn.out hlen)
    have u7 := bu7.out.cell 1 (.slice (some ⟨g5, 0, none⟩) (ns.length + 1) c5) rfl
    have hn1 : (0 : Int) ≤ (ns.length : Int) := by omega
    have hn2 : (ns.length : Int) < (ns.length : Int) + 1 := by omega
    have hbz : w.heap.size + 1 + 1 < w3.heap.size := by have := br3.out.lt; omega
    clear hw7 p1 p2 p3 p4 hla2 hlb2 hlc2 hix hfill u5 k5
    go_quiet (fail)
    go_wp2
    go_loopg [12, 13, 14] ((putAt key t).2.keys.length) (fun gk rest left right wr => ∃ S lp rp ns' llo rlo, gk = S.keys.length ∧ rest = .int .i64 S.root ∧ left = .pointer (some ⟨g5, llo, none⟩) ∧ right = .pointer (some ⟨g5, rlo, none⟩) ∧
      Hid (PutSt key (insNs key t ns) (ns.length + 1) S lp rp ns') ∧ Hid (loff lp = llo) ∧ Hid (loff rp = rlo) ∧ Hid (Box wr bu #[.int .i64 (setRoot t.root (putAt key t).1.link ns.length), .slice (some ⟨g5, 0, none⟩) (ns.length + 1) c5] 81) ∧
      Hid (Own nodeE 101 wr (w3.heap.size + 1) (.slice (some ⟨g5, 0, none⟩) (ns.length + 1) c5) ns') ∧ Hid (Box wr (w.heap.size + 1) #[.int .i64 key] 3) ∧ Hid (Box wr (w.heap.size + 1 + 1) #[.int .i64 0, .slice none 0 0] 81) ∧ Hid (Below w.heap.size w wr))
    case atStart => exact ⟨(putAt key t).2, _, _, _, _, _, rfl, rfl, rfl, rfl, hst, rfl, rfl, bu7.out.drewN _, hown7.out.grown (bdrawN (Below.refl _ _) _) (by have := hown7.out.lt g5 rfl; omega), bk7.out.drewN _, br7.out.drewN _, bdrawN hbw7.out _⟩
    case round =>
      obtain ⟨S, lp, rp, ns', llo, rlo, rfl, rfl, rfl, rfl, hps, hllo, hrlo, bur, hownr, bkr, brr, hbr⟩ := hrel
      have hlen' := hid hps.out.len
      have hsr := hbr.out.size
      have u1 := bur.out.cell 1 (.slice (some ⟨g5, 0, none⟩) (ns.length + 1) c5) rfl
      have u0 := bur.out.cell 0 (.int .i64 (setRoot t.root (putAt key t).1.link ns.length)) rfl
      have k1 := bkr.out.cell 0 (.int .i64 key) rfl
      have hg5b := hid (hownr.out.lt g5 rfl)
      have hownr' : Own nodeE 101 wr (w3.heap.size + 1) (.slice (some ⟨g5, 0, none⟩) ns'.length c5) ns' := by rw [hps.out.len]; exact hownr.out
      have hl1 := own_link hownr' lp hps.out.lroot (fun i e => (hps.out.lpi i e).2)
      have hr1 := own_link hownr' rp hps.out.rroot (fun i e => (hps.out.rpi i e).2)
      rw [hllo.out] at hl1
      rw [hrlo.out] at hr1
      obtain ⟨hl1, hl2⟩ := hl1
      obtain ⟨hr1, hr2⟩ := hr1
      have hownr' := hid hownr'
      cases S with
      | nil =>
        have hroot : T.nil.root = -1 := rfl
        have q0 := brr.out.cell 0 (.int .i64 0) rfl
        have q1 := brr.out.cell 1 (.slice none 0 0) rfl
        have q2 := brr.out.frozen 0
        have q3 := brr.out.frozen 1
        have n1 : ¬ bu = w.heap.size + 1 + 1 := by omega
        have n2 : ¬ w.heap.size + 1 + 1 = bu := by omega
        have n3 : ¬ g5 = w.heap.size + 1 + 1 := by omega
        have n4 : ¬ w.heap.size + 1 + 1 = g5 := by omega
        have n5 : ¬ g5 = bu := fun e => hne5 e.symm
        have n6 := loff_inj hps.out.lroot hps.out.rroot hps.out.ne
        rw [hllo.out, hrlo.out] at n6
        have n7 := n6.symm
        have hF := hid (show setLink (setLink ns' lp (-1)) rp (-1) = insNs key t ns from hps.out.fin)
        have e1 := own_setLink hownr'.out lp hps.out.lroot (-1)
        rw [hllo.out, hps.out.len] at e1
        have e2 := own_set' (m := 0) e1 (by rw [setLink_len]; exact hps.out.len) (by have := e1.lt g5 rfl; omega) hps.out.rroot hrlo.out (-1)
        rw [hF.out] at e2
        have e2 := hid e2
        have brr2 := hid ((brr.out.setOther (a := ⟨g5, llo, none⟩) (by exact n4) (.int .i64 (-1))).setOther (a := ⟨g5, rlo, none⟩) (by exact n4) (.int .i64 (-1)))
        have hb2 := hid ((hbr.out.setCell (p := ⟨g5, llo, none⟩) (by show _ ≤ g5; omega) (.int .i64 (-1))).setCell (p := ⟨g5, rlo, none⟩) (by show _ ≤ g5; omega) (.int .i64 (-1)))
        clear e1
        go_wp2
        refine wp_name_post ?_
        intro w9 hw9
        have br9 := hid (show Box w9 (w.heap.size + 1 + 1) #[.int .i64 (setRoot t.root (putAt key t).1.link ns.length), .slice (some ⟨g5, 0, none⟩) (ns.length + 1) c5] 81 by rw [hw9]; exact (brr2.out.set 0 _).set 1 _)
        have hb9 := hid (show Below w.heap.size w w9 by rw [hw9]; exact (hb2.out.setCell (p := ⟨w.heap.size + 1 + 1, 0, none⟩) (by show _ ≤ w.heap.size + 1 + 1; omega) _).setCell (p := ⟨w.heap.size + 1 + 1, 1, none⟩) (by show _ ≤ w.heap.size + 1 + 1; omega) _)
        have hown9 := hid (show Own nodeE 101 w9 (w3.heap.size + 1) (.slice (some ⟨g5, 0, none⟩) (ns.length + 1) c5) (insNs key t ns) by
          rw [hw9]
          refine e2.out.stay' (fun q hq => ?_) (fun _ _ _ _ _ h => h)
          have hq5 := (e2.out.lt q hq).1
          rw [Below.heap_setCell _ _ _ q (by show _ ≠ w.heap.size + 1 + 1; omega), Below.heap_setCell _ _ _ q (by show _ ≠ w.heap.size + 1 + 1; omega)]
          rfl)
        clear hw9
        have c0 := br9.out.cell 0 _ rfl
        have c1 := br9.out.cell 1 _ rfl
        exact bodyPost_ret (v := .tuple #[.agg #[.int .i64 (setRoot t.root (putAt key t).1.link ns.length), .slice (some ⟨g5, 0, none⟩) (ns.length + 1) c5], .int .i64 0]) (by simp [results, Try.results82, go_sem, c0, c1]) rfl ⟨_, by rw [hfin.out.2.2], hown9.out.row (by have := hown9.out.lt g5 rfl; omega), hb9.out, fun q hq => by have := hown9.out.lt q hq; omega⟩
      | node i k l r' =>
        have hroot : (T.node i k l r').root = (i : Int) := rfl
        obtain ⟨hx, _, _⟩ := hps.out.rep
        obtain ⟨hn0, hn1', hn2', hfr, hil, _⟩ := own_node hownr'.out i _ hx
        have hi0 : (0 : Int) ≤ (i : Int) := by omega
        have hi1 : (i : Int) < (ns.length : Int) + 1 := by have := hlen'.out; omega
        have hnn : ((i : Int) != -1) = true := by rw [bne_iff_ne]; omega
        have hlne := loff_ne hps.out.lroot (i := i) (fun e => (hps.out.lpi i e).1 (by simp [T.idx]))
        have hrne := loff_ne hps.out.rroot (i := i) (fun e => (hps.out.rpi i e).1 (by simp [T.idx]))
        rw [hllo.out] at hlne
        rw [hrlo.out] at hrne
        obtain ⟨hle0, hle1, hle2⟩ := hlne
        obtain ⟨hre0, hre1, hre2⟩ := hrne
        have hle0' := hle0.symm
        have hle1' := hle1.symm
        have hle2' := hle2.symm
        have hre0' := hre0.symm
        have hre1' := hre1.symm
        have hre2' := hre2.symm
        clear hx
        by_cases hk : k < key
        · have hps' := hid (hps.out.low hk)
          go_wp2
          go_quiet (fail)
          go_wp2
          go_roundg (r'.keys.length)
          case rel => exact ⟨r', .r i, rp, setLink ns' lp i, _, rlo, rfl, rfl, rfl, rfl, hps', rfl, hrlo, (bur.out.drewN _).setOther (by exact hne5) _, own_set' hownr.out hlen'.out (by omega) hps.out.lroot hllo.out _ _, (bkr.out.drewN _).setOther (by show _ ≠ g5; omega) _, (brr.out.drewN _).setOther (by show _ ≠ g5; omega) _, (bdrawN hbr.out _).setCell (by show _ ≤ g5; omega) _⟩
          case measure => first | (simp [T.keys]; done) | (simp [T.keys]; omega)
        · have hps' := hid (hps.out.high hk)
          go_wp2
          go_quiet (fail)
          go_wp2
          go_roundg (l.keys.length)
          case rel => exact ⟨l, lp, .l i, setLink ns' rp i, llo, _, rfl, rfl, rfl, rfl, hps', hllo, rfl, (bur.out.drewN _).setOther (by exact hne5) _, own_set' hownr.out hlen'.out (by omega) hps.out.rroot hrlo.out _ _, (bkr.out.drewN _).setOther (by show _ ≠ g5; omega) _, (brr.out.drewN _).setOther (by show _ ≠ g5; omega) _, (bdrawN hbr.out _).setCell (by show _ ≤ g5; omega) _⟩
          case measure => first | (simp [T.keys]; done) | (simp [T.keys]; omega)
end Go.Proofs.Ytbbkgibopicaeaa
