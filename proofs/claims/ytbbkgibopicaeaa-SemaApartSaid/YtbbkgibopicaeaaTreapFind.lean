/- Layer 8 of the program: keys are found, told, and nodes made one's own. -/
import Derived.Test.YtbbkgibopicaeaaTreapSeek
import Derived.Lib.SliceRun
namespace Go.Proofs.Ytbbkgibopicaeaa
set_option linter.unusedVariables false
set_option linter.unusedSimpArgs false
open Go.RowKit

theorem enter_other1 : ∀ (args : Array Value) (w : World), (callFunc 104 args).run Try.prog w = .ok (.enter 104 args) w := fun _ _ => by kernel_rfl
theorem enter_Put1 : ∀ (args : Array Value) (w : World), (callFunc 103 args).run Try.prog w = .ok (.enter 103 args) w := fun _ _ => by kernel_rfl
theorem enter_Keys1 : ∀ (args : Array Value) (w : World), (callFunc 79 args).run Try.prog w = .ok (.enter 79 args) w := fun _ _ => by kernel_rfl

theorem treap_other1 (n : Node) (key : Int) (bk : Nat) (w : World) (hb : Box w bk #[.int .i64 key] 3) :
    Calls Try.prog 104 (#[.agg #[.int .i64 n.key, .int .i64 n.left, .int .i64 n.right]] ++ #[.pointer (some ⟨bk, 0, none⟩)]) w fun e w' => e = .returned (.bool (n.key != key)) ∧ Below w.heap.size w w' := by
  have f0 := hb.cell 0 _ rfl
  have hz := hb.lt
  have hB := hid hb
  clear hb
  show Calls Try.prog 104 #[.agg #[.int .i64 n.key, .int .i64 n.left, .int .i64 n.right], .pointer (some ⟨bk, 0, none⟩)] w _
  go_enter Try.func104, Try.ntmps104
  go_wp2
  go_ret
  exact ⟨rfl, (Below.refl _ _).alloc (Nat.le_refl _) _⟩

theorem treap_other (key : Int) (w : World) :
    Calls Try.prog 85 #[.int .i64 key] w fun e w' => ∃ bk, e = .returned (.func (.func 104) #[] #[.pointer (some ⟨bk, 0, none⟩)]) ∧ Box w' bk #[.int .i64 key] 3 ∧ Below w.heap.size w w' := by
  go_enter Try.func85, Try.ntmps85
  go_wp2
  go_ret
  exact ⟨_, rfl, Box.new _ _ _, (Below.refl _ _).alloc (Nat.le_refl _) _⟩

theorem treap_Put1 (n : Node) (key : Int) (bk : Nat) (w : World) (hb : Box w bk #[.int .i64 key] 3) (hn : 0 ≤ n.key ∧ n.key ≤ 4294967295) (hk : 0 ≤ key ∧ key ≤ 4294967295) :
    Calls Try.prog 103 (#[.agg #[.int .i64 n.key, .int .i64 n.left, .int .i64 n.right]] ++ #[.pointer (some ⟨bk, 0, none⟩)]) w fun e w' => e = .returned (.bool (decide (pri key < pri n.key))) ∧ Below w.heap.size w w' := by
  have f0 := hb.cell 0 _ rfl
  have hz := hb.lt
  have hB := hid hb
  obtain ⟨n1, n2⟩ := hn
  obtain ⟨k1, k2⟩ := hk
  clear hb
  show Calls Try.prog 103 #[.agg #[.int .i64 n.key, .int .i64 n.left, .int .i64 n.right], .pointer (some ⟨bk, 0, none⟩)] w _
  go_enter Try.func103, Try.ntmps103
  go_wp2
  refine wp_name ?_; intro W hW; have hbW : Below w.heap.size w W := (by rw [hW]; repeat (first | assumption | exact Below.refl _ _ | refine bdrawN ?_ _ | refine Below.drew ?_ | refine Below.alloc ?_ (by (try simp) <;> omega) _ | refine Below.setCell ?_ (by (try simp) <;> omega) _))
  have d0 := Bel.cell (W := W) (a := ⟨w.heap.size, 0, none⟩) (v := .int .i64 n.key) (by rw [hW]; go_simp)
  have d1 := Bel.cell (W := W) (a := ⟨bk, 0, none⟩) (v := .int .i64 key) (by rw [hW]; go_simp)
  clear hW f0
  refine wp_region_bel (by kernel_rfl) (by kernel_rfl) ?_; (repeat (go_big_quiet_step ((go_at_call 98; exact Calls.bel_same (treap_Pri _ _ (by assumption) (by assumption)))))); refine wpQuiet_nil ?_; rintro _ ⟨⟨w2, hb2⟩, rfl⟩; (try dsimp only); have hb2 := hbW.trans (hb2.mono hbW.size)
  go_wp2
  go_ret
  exact ⟨rfl, hb2⟩

theorem Row.start {α : Type} {E : En α} {w : World} {B n c : Nat} {A : Option Addr} {l : List α} (h : Row E w B (.slice A n c) l) : ∃ g o, l ≠ [] → A = some ⟨g, o, none⟩ := by
  cases l with
  | nil => exact ⟨0, 0, fun h => absurd rfl h⟩
  | cons x r =>
    obtain ⟨b, o, _, e, _⟩ := h.at 0 x rfl
    exact ⟨b, o, fun _ => e⟩

theorem seekC_found (key : Int) : ∀ (t : T) (c : Ctx), t.keys.Pairwise (· < ·) → key ∈ t.keys → ∃ i l r, (seekC (fun k => k != key) key t c).2 = .node i key l r
  | .nil, c, _, h => by simp [T.keys] at h
  | .node i k l r, c, hs, h => by
    simp only [T.keys, List.pairwise_append, List.pairwise_cons] at hs
    obtain ⟨h1, ⟨h2, h3⟩, h4⟩ := hs
    unfold seekC
    by_cases e : k = key
    · subst e; simp
    · rw [if_pos (by simpa using e)]
      simp only [T.keys, List.mem_append, List.mem_cons] at h
      split
      · rcases h with h | h | h
        · have := h4 key h k (by simp); omega
        · exact absurd h.symm e
        · exact seekC_found key r _ h3 h
      · rcases h with h | h | h
        · exact seekC_found key l _ h1 h
        · exact absurd h.symm e
        · have := h2 key h; omega

theorem seekC_lost (key : Int) (t : T) (h : key ∉ t.keys) : (seekC (fun k => k != key) key t .top).2 = .nil := by
  have h1 := seekC_stop (fun k => k != key) key t .top
  have h2 := congrArg T.keys (seekC_fill (fun k => k != key) key t .top)
  rw [fill_keys] at h2
  cases e : (seekC (fun k => k != key) key t .top).2 with
  | nil => rfl
  | node i k l r =>
    rw [e] at h1 h2
    simp [T.stops] at h1
    refine absurd ?_ h
    show key ∈ (fill .top t).keys
    rw [← h2, ← h1]
    simp [T.keys]

/-- What the link that one stops at holds. -/
theorem seek_root {ns : List Node} {t : T} (hok : TreeOk ns t) (key : Int) : ∃ r : Int, (seekC (fun k => k != key) key t .top).2.root = r ∧ (r == -1) = decide (key ∉ t.keys) ∧ (r != -1) = decide (key ∈ t.keys) := by
  by_cases h : key ∈ t.keys
  · obtain ⟨i, l, r, e⟩ := seekC_found key t .top hok.sorted h
    refine ⟨i, by rw [e]; rfl, ?_, ?_⟩
    · simp [h]
    · simp [h]
  · exact ⟨-1, by rw [seekC_lost key t h]; rfl, by simp [h], by simp [h]⟩

set_option maxHeartbeats 1600000 in
theorem treap_Find (ns : List Node) (t : T) (v : Value) (key : Int) (w : World) (hok : TreeOk ns t) (h : Row nodeE w w.heap.size v ns) (hk : isAddr key = true) :
    Calls Try.prog 56 #[.agg #[.int .i64 t.root, v], .int .i64 key] w fun e w' => ∃ d : Int, e = .returned (.tuple #[.int .i64 d, .int .i64 (if key ∈ t.keys then 0 else 4)]) ∧ Below w.heap.size w w' := by
  obtain ⟨A, c, rfl, hlc, hcm⟩ := h.open
  unfold maxLen at hcm
  obtain ⟨g, o, hA⟩ := h.start
  obtain ⟨r, hr, hr1, hr2⟩ := seek_root hok key
  have H := hid h
  have hN : t.idx.length ≤ 64 := by rw [hok.len]; exact hok.le
  have hbx0 := hid (Box.new w #[.int .i64 t.root, .slice A ns.length c] 81)
  have hmay := hid (fun W (hb : Below w.heap.size w W) => treap_may ns t (.slice A ns.length c) key W hok (H.out.keep hb hb.size) hk)
  have hseek := hid (fun W bk (hb : Below w.heap.size w W) (hbx : Box W w.heap.size #[.int .i64 t.root, .slice A ns.length c] 81) (hbk : Box W bk #[.int .i64 key] 3) =>
    treap_seek 104 #[.pointer (some ⟨bk, 0, none⟩)] enter_other1 (fun k => k != key) key ns t ns.length c A w.heap.size g o W hok.rep hN hbx (H.out.keep hb hb.size) hA (fun m W' _ hW' => treap_other1 m key bk W' (hbk.keep hW' hbk.lt)))
  have hlink := hid (fun W (hb : Below w.heap.size w W) (hbx : Box W w.heap.size #[.int .i64 t.root, .slice A ns.length c] 81) =>
    link_cell (t := T) (C := (seekC (fun k => k != key) key t .top).1) (u := (seekC (fun k => k != key) key t .top).2) (bt := w.heap.size) (g := g) (o := o) (W := W) (B := W.heap.size) (by rw [seekC_fill]; exact hok.rep) (by rw [seekC_fill]; exact hbx) hbx.lt (H.out.keep hb hb.size) hA)
  clear hok h hA hN
  go_enter Try.func56, Try.ntmps56
  go_wp2_with fail
  refine (hmay.out _ ((Below.refl _ _).alloc (Nat.le_refl _) _)).mono ?_
  rintro e w1 ⟨rfl, hb1⟩
  have hbx1 := hid (hbx0.out.keep hb1 (by simp))
  have hbw1 := hid (show Below w.heap.size w w1 from ((Below.refl _ _).alloc (Nat.le_refl _) _).trans (hb1.mono (by simp)))
  clear hb1
  go_wp2_with fail
  refine (treap_other _ _).mono ?_
  rintro e w2 ⟨bk, rfl, hbk, hb2⟩
  have hbx2 := hid (hbx1.out.keep hb2 hbx1.out.lt)
  have hbw2 := hid (hbw1.out.trans (hb2.mono hbw1.out.size))
  have hbk := hid hbk
  clear hb2
  go_wp2_with fail
  refine (hseek.out _ _ hbw2.out hbx2.out hbk.out).mono ?_
  rintro e w3 ⟨d, rfl, hb3⟩
  have hbx3 := hid (hbx2.out.keep hb3 hbx2.out.lt)
  have hbw3 := hid (hbw2.out.trans (hb3.mono hbw2.out.size))
  clear hb3
  obtain ⟨lb, lo, hla, hlb, hlc'⟩ := hlink.out _ hbw3.out hbx3.out
  rw [hla]
  rw [hr] at hlc'
  by_cases hin : key ∈ t.keys
  · have hr1 : (r == -1) = false := by rw [hr1]; simp [hin]
    go_wp2
    exact bodyPost_ret (v := .tuple #[.int .i64 (d : Nat), .int .i64 0]) (by simp [results, Try.results56, go_sem]) rfl ⟨⟨_, rfl⟩, hbw3.out⟩
  · have hr1 : (r == -1) = true := by rw [hr1]; simp [hin]
    go_wp2
    exact bodyPost_ret (v := .tuple #[.int .i64 0, .int .i64 4]) (by simp [results, Try.results56, go_sem]) rfl ⟨⟨_, rfl⟩, hbw3.out⟩

set_option maxRecDepth 100000 in
theorem slices_CloneNode (ns : List Node) (v : Value) (w : World) (h : Row nodeE w w.heap.size v ns) (hle : ns.length ≤ 64) :
    Calls Try.prog 109 #[v] w fun e w' => ∃ v', e = .returned v' ∧ Own nodeE 101 w' w.heap.size v' ns ∧ Below w.heap.size w w' := by
  obtain ⟨A, c, rfl, hlc, hcm⟩ := h.open
  unfold maxLen at hcm
  have H := hid h
  obtain ⟨g, o, hA⟩ := h.start
  have hn := hid h.len_eq.2.2.2
  have q : ∀ (w : World) (a : Option Addr) (n c n' c' : Nat), (binOp .eql 79 (.slice a n c) (.slice none n' c')).run Try.prog w = .ok (.bool a.isNone) w := fun w a n c n' c' => Lib.run_eql_slice_nil w _ _ a n c n' c' Try.underlying79
  have hown := hid (Own.emptyAt nodeE 101 w w.heap.size w.heap.size (Nat.le_refl _) rfl)
  clear h
  cases A with
  | none =>
    obtain rfl := hn.out rfl
    have hnil : ns = [] := List.eq_nil_of_length_eq_zero (by omega)
    subst hnil
    go_enter Try.func109, Try.ntmps109
    go_wp2
    go_ret
    exact ⟨_, rfl, Own.nil _ _ _ _, Below.refl _ _⟩
  | some a =>
    go_enter Try.func109, Try.ntmps109
    go_wp2_with (at_builtin; refine wpList_appn nodeE 79 101 (.agg #[.int .i64 0, .int .i64 0, .int .i64 0]) 24 Try.underlying79 info_node rfl (by decide) (.tmp 5) (.tmp 6) w.heap.size [] ns ns ns.length rfl (by simp) _ hown.out rfl _ (H.out.below ((Below.refl _ _).alloc (Nat.le_refl _) _)) rfl rfl rfl (by simp; omega) (by simp; omega) (by simp) ?_; intro A3 c3 w3 hown3 hb3 hc31 hc32; have HO3 := hid hown3; clear hown3)
    go_ret
    exact ⟨_, rfl, HO3.out, ((Below.refl _ _).alloc (Nat.le_refl _) _).trans hb3⟩

theorem treap_own (ns : List Node) (root : Int) (v : Value) (w : World) (h : Row nodeE w w.heap.size v ns) (hle : ns.length ≤ 64) :
    Calls Try.prog 102 #[.agg #[.int .i64 root, v]] w fun e w' => ∃ bu v', e = .returned (.pointer (some ⟨bu, 0, none⟩)) ∧ w.heap.size < bu ∧ Box w' bu #[.int .i64 root, v'] 81 ∧ (∀ g, v'.ownBlock = some g → g < bu) ∧ Own nodeE 101 w' (w.heap.size + 1) v' ns ∧ Below w.heap.size w w' := by
  obtain ⟨A, c, rfl, hlc, hcm⟩ := h.open
  have hcl := hid (fun W (hb : Below w.heap.size w W) => slices_CloneNode ns (.slice A ns.length c) W (h.keep hb hb.size) hle)
  have hbx0 := hid (Box.new w #[.int .i64 root, .slice A ns.length c] 81)
  clear h
  go_enter Try.func102, Try.ntmps102
  go_wp2_with fail
  go_region_with (go_at_call 109; refine (hcl.out _ (by repeat (first | assumption | exact Below.refl _ _ | refine bdrawN ?_ _ | refine Below.drew ?_ | refine Below.alloc ?_ (by (try simp) <;> omega) _ | refine Below.setCell ?_ (by (try simp) <;> omega) _))).mono ?_; rintro e w2 ⟨v2, rfl, hown2, hb2⟩; obtain ⟨A2, c2, rfl, hc21, hc22⟩ := hown2.shape; have hbx2 := hid (hbx0.out.drew.keep hb2 (by simp)); have c0 := hbx2.out.cell 0 _ rfl; have hown2 := hid hown2; have hb2 := hid hb2)
  all_goals go_wp2
  all_goals
    have hsz : w.heap.size + 1 ≤ w2.heap.size := by simpa using hb2.out.size
    have hown3 : Own nodeE 101 w2 (w.heap.size + 1) (.slice A2 ns.length c2) ns := by simpa using hown2.out
    refine bodyPost_ret (v := .pointer (some ⟨w2.heap.size, 0, none⟩)) (by simp [results, Try.results102, go_sem, Act.put]) rfl ⟨_, _, rfl, by omega, Box.new _ _ _, ?_, hown3.alloc hsz _, ?_⟩
    · exact fun g hg => (hown3.lt g hg).2
    · exact (((Below.refl _ _).alloc (Nat.le_refl _) _).drew.trans (hb2.out.mono (by simp))).alloc (by omega) _
end Go.Proofs.Ytbbkgibopicaeaa
