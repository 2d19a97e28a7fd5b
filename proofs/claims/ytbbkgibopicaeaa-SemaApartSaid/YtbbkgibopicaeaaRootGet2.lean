/- Layer 9 of the program: a spot is got. -/
import Derived.Test.YtbbkgibopicaeaaRootGet
import Derived.Test.YtbbkgibopicaeaaRootIx
import Derived.Deep.RegionHeld3
namespace Go.Proofs.Ytbbkgibopicaeaa
set_option linter.unusedVariables false
set_option linter.unusedSimpArgs false
open Go.RowKit

def getOk (t : List Spot) (a : Int) : Bool := tabRight t && isAddr a
/-- A spot and an error. -/
def SpotErrPost (s : Spot) (n : Int) (w : World) (e : Ending) (w' : World) : Prop :=
  ∃ v, e = .returned (.tuple #[.agg #[.int .i64 s.addr, .int .i64 s.count, v], .int .i64 n]) ∧ Row intE w' w'.heap.size v s.line ∧ Below w.heap.size w w'

theorem enter_Get1 : ∀ (args : Array Value) (w : World), (callFunc 58 args).run Try.prog w = .ok (.enter 58 args) w := fun _ _ => by kernel_rfl

theorem root_Get1 (s : Spot) (u : Value) (a : Int) (bk : Nat) (w : World) (hu : Row intE w w.heap.size u s.line) (hb : Box w bk #[.int .i64 a] 3) :
    Calls Try.prog 58 (#[.agg #[.int .i64 s.addr, .int .i64 s.count, u]] ++ #[.pointer (some ⟨bk, 0, none⟩)]) w fun e w' => e = .returned (.bool (s.addr == a)) ∧ Below w.heap.size w w' := by
  obtain ⟨A, c, rfl, _, _⟩ := hu.open
  have f0 := hb.cell 0 _ rfl
  have hz := hb.lt
  clear hb hu
  show Calls Try.prog 58 #[.agg #[.int .i64 s.addr, .int .i64 s.count, .slice A s.line.length c], .pointer (some ⟨bk, 0, none⟩)] w _
  go_enter Try.func58, Try.ntmps58
  go_wp2
  go_ret
  exact ⟨rfl, (Below.refl _ _).alloc (Nat.le_refl _) _⟩

theorem mem_tabUnder {t : List Spot} {a : Int} : a ∈ tabUnder t (rootOf a) ↔ ∃ s ∈ t, s.addr = a := by
  unfold tabUnder
  simp only [List.mem_map, List.mem_filter, decide_eq_true_eq]
  exact ⟨fun ⟨s, ⟨h1, _⟩, h2⟩ => ⟨s, h1, h2⟩, fun ⟨s, h1, h2⟩ => ⟨s, ⟨h1, by rw [h2]⟩, h2⟩⟩

set_option maxHeartbeats 3200000 in
set_option maxRecDepth 100000 in
theorem root_Get (v : Value) (t : List Spot) (a : Int) (w : World) (h : Row spotE w w.heap.size v t) (hok : getOk t a = true) :
    Calls Try.prog 22 #[v, .int .i64 a] w (SpotErrPost (tabGet t a) 0 w) := by
  have hok' := hok
  unfold getOk at hok'
  rw [Bool.and_eq_true] at hok'
  obtain ⟨hT, ha⟩ := hok'
  obtain ⟨A, c, rfl, hlc, hcm⟩ := h.open
  unfold maxLen at hcm
  have H := hid h
  have hR := hid (fun W (hb : Below w.heap.size w W) => root_Right (.slice A t.length c) t W (H.out.keep hb hb.size))
  have hTr := hid (fun W (hb : Below w.heap.size w W) => root_tree t (.slice A t.length c) (rootOf a) W hT (H.out.keep hb hb.size))
  have hIx := hid (fun W bk (hb : Below w.heap.size w W) (hbk : Box W bk #[.int .i64 a] 3) => slices_IndexSpots 58 #[.pointer (some ⟨bk, 0, none⟩)] enter_Get1 (fun s => s.addr == a) t (.slice A t.length c) W (H.out.keep hb hb.size)
    (fun s u W' _ hb' hu => root_Get1 s u a bk W' hu (hbk.keep hb' hbk.lt)))
  have hmem := hid (mem_tabUnder (t := t) (a := a))
  clear h hok
  go_enter Try.func22, Try.ntmps22
  go_wp2_with fail
  refine calls_name ?_
  intro W0 hW0
  have hb0 := hid (show Below w.heap.size w W0 by rw [hW0]; repeat (first | assumption | exact Below.refl _ _ | refine bdrawN ?_ _ | refine Below.drew ?_ | refine Below.alloc ?_ (by (try simp) <;> omega) _ | refine Below.setCell ?_ (by (try simp) <;> omega) _))
  have bk0 := hid (show Box W0 w.heap.size #[.int .i64 a] 3 by rw [hW0]; exact (Box.new _ _ _).alloc _)
  have br0 := hid (show Box W0 (w.heap.size + 1) #[.int .i64 0, .int .i64 0, .slice none 0 0] 42 by rw [hW0]; exact boxAt _ _ (by simp) _ _)
  clear hW0
  refine (hR.out _ hb0.out).mono ?_
  rintro e w1 ⟨rfl, hb1⟩
  have bk1 := hid (bk0.out.keep hb1 bk0.out.lt)
  have br1 := hid (br0.out.keep hb1 br0.out.lt)
  have hb1 := hid (hb0.out.trans (hb1.mono hb0.out.size))
  have k1 := bk1.out.cell 0 (.int .i64 a) rfl
  have kz1 := bk1.out.lt
  go_wp2_with (first
    | (go_at_call 55; refine (root_isAddr _ _).mono ?_; rintro e w' ⟨rfl, rfl⟩)
    | (go_at_call 20; refine (root_Root _ _ (by assumption)).mono ?_; rintro e w' ⟨rfl, rfl⟩))
  go_region_held3 (fun w' => w'.cell? ⟨w.heap.size, 0, none⟩ = some (.int .i64 a)) (first | assumption | go_keep)
    ((first
      | (go_at_call 54; refine (hTr.out _ hb1.out.drew).mono ?_; rintro e w2 ⟨ns, T, v2, rfl, hok2, hk2, hr2, hb2⟩; have bk2 := hid (bk1.out.drew.keep hb2 bk1.out.lt); have br2 := hid (br1.out.drew.keep hb2 br1.out.lt); have hb2 := hid (hb1.out.drew.trans (hb2.mono hb1.out.size)); have hok2 := hid hok2; have hk2 := hid hk2; have hr2 := hid hr2; have k2 := bk2.out.cell 0 (.int .i64 a) rfl)
      | (go_at_call 56; refine (treap_Find ns T v2 a _ hok2.out hr2.out (by assumption)).mono ?_; rintro e w3 ⟨d, rfl, hb3⟩; generalize hen : (if a ∈ T.keys then (0 : Int) else 4) = en; have hen := hid hen; have bk3 := hid (bk2.out.keep hb3 bk2.out.lt); have br3 := hid (br2.out.keep hb3 br2.out.lt); have hb3 := hid (hb2.out.trans (hb3.mono hb2.out.size)); have k3 := bk3.out.cell 0 (.int .i64 a) rfl)))
  have q0 := br3.out.cell 0 _ rfl
  have q1 := br3.out.cell 1 _ rfl
  have q2 := br3.out.cell 2 _ rfl
  have f0 := br3.out.frozen 0
  have f1 := br3.out.frozen 1
  have f2 := br3.out.frozen 2
  have kz3 := bk3.out.lt
  have hex := hid (show a ∈ T.keys ↔ ∃ s ∈ t, s.addr = a by rw [hk2.out]; exact hmem.out)
  by_cases hin : a ∈ T.keys
  · obtain rfl : (0 : Int) = en := by rw [← hen.out, if_pos hin]
    obtain ⟨s, hs, hsa⟩ := hex.out.1 hin
    clear hen
    go_wp2_with fail
    refine (hIx.out _ _ hb3.out bk3.out).mono ?_
    rintro e w4 ⟨rfl, hb4⟩
    have br4 := hid (br3.out.keep hb4 br3.out.lt)
    have hb4 := hid (hb3.out.trans (hb4.mono hb3.out.size))
    obtain ⟨k, hk, hka, hix, hget⟩ : ∃ k, ∃ hk : k < t.length, t[k].addr = a ∧ firstIx (fun s => s.addr == a) t = k ∧ tabGet t a = t[k] := by
      have hlt : t.findIdx (fun s => s.addr == a) < t.length := List.findIdx_lt_length_of_exists ⟨s, hs, by simp [hsa]⟩
      have h1 : t[t.findIdx (fun s => s.addr == a)].addr = a := by simpa using List.findIdx_getElem (w := hlt)
      refine ⟨_, hlt, h1, by unfold firstIx; rw [if_pos hlt], tabGet_eq t a _ hlt h1 fun j hj hjk e => ?_⟩
      have := List.not_of_lt_findIdx hjk
      simp [e] at this
    rw [hix]
    have hget := hid hget
    obtain ⟨b, o, A', c', rfl, hbb, hc0, hc1, hc2, hrow⟩ := (H.out.below hb4.out).spot k hk
    have hki : (k : Int) < (t.length : Int) := by omega
    have hrow := hid hrow
    clear q0 q1 q2 f0 f1 f2 hix hka hs hsa
    have q0 := br4.out.cell 0 _ rfl
    have q1 := br4.out.cell 1 _ rfl
    have q2 := br4.out.cell 2 _ rfl
    have f0 := br4.out.frozen 0
    have f1 := br4.out.frozen 1
    have f2 := br4.out.frozen 2
    have hz4 := hb4.out.size
    go_wp2
    refine wp_name_post ?_
    intro w9 hw9
    have br9 := hid (show Box w9 (w.heap.size + 1) #[.int .i64 t[k].addr, .int .i64 t[k].count, .slice A' t[k].line.length c'] 42 by rw [hw9]; exact ((br4.out.set 0 (.int .i64 t[k].addr)).set 1 (.int .i64 t[k].count)).set 2 (.slice A' t[k].line.length c'))
    have hb9 := hid (show Below w.heap.size w4 w9 by rw [hw9]; exact (((Below.refl _ _).setCell (p := ⟨w.heap.size + 1, 0, none⟩) (by show _ ≤ w.heap.size + 1; omega) _).setCell (p := ⟨w.heap.size + 1, 1, none⟩) (by show _ ≤ w.heap.size + 1; omega) _).setCell (p := ⟨w.heap.size + 1, 2, none⟩) (by show _ ≤ w.heap.size + 1; omega) _)
    clear hw9
    have c0 := br9.out.cell 0 _ rfl
    have c1 := br9.out.cell 1 _ rfl
    have c2 := br9.out.cell 2 _ rfl
    have hz9 := hb9.out.size
    exact bodyPost_ret (v := .tuple #[.agg #[.int .i64 t[k].addr, .int .i64 t[k].count, .slice A' t[k].line.length c'], .int .i64 0]) (by simp [results, Try.results22, go_sem, c0, c1, c2]) rfl ⟨.slice A' t[k].line.length c', by rw [hget.out], by rw [hget.out]; exact hrow.out.keep hb9.out (by omega), hb4.out.trans hb9.out⟩
  · obtain rfl : (4 : Int) = en := by rw [← hen.out, if_neg hin]
    clear hen
    have hg := hid (tabGet_none t a (fun j hj e => hin (hex.out.2 ⟨t[j], by simp, e⟩)))
    go_wp2
    refine wp_name_post ?_
    intro w9 hw9
    have br9 := hid (show Box w9 (w.heap.size + 1) #[.int .i64 a, .int .i64 0, .slice none 0 0] 42 by rw [hw9]; exact ((br3.out.set 0 (.int .i64 a)).set 1 (.int .i64 0)).set 2 (.slice none 0 0))
    have hb9 := hid (show Below w.heap.size w w9 by rw [hw9]; exact ((hb3.out.setCell (p := ⟨w.heap.size + 1, 0, none⟩) (by show _ ≤ w.heap.size + 1; omega) _).setCell (p := ⟨w.heap.size + 1, 1, none⟩) (by show _ ≤ w.heap.size + 1; omega) _).setCell (p := ⟨w.heap.size + 1, 2, none⟩) (by show _ ≤ w.heap.size + 1; omega) _)
    clear hw9
    have c0 := br9.out.cell 0 _ rfl
    have c1 := br9.out.cell 1 _ rfl
    have c2 := br9.out.cell 2 _ rfl
    exact bodyPost_ret (v := .tuple #[.agg #[.int .i64 a, .int .i64 0, .slice none 0 0], .int .i64 0]) (by simp [results, Try.results22, go_sem, c0, c1, c2]) rfl ⟨.slice none 0 0, by rw [hg.out], by rw [hg.out]; exact Row.nil _ _ _, hb9.out⟩

set_option maxHeartbeats 1600000 in
theorem root_Get_bad (v : Value) (t : List Spot) (a : Int) (w : World) (h : Row spotE w w.heap.size v t) (hok : getOk t a = false) :
    Calls Try.prog 22 #[v, .int .i64 a] w (SpotErrPost ⟨0, 0, []⟩ 1 w) := by
  obtain ⟨A, c, rfl, hlc, hcm⟩ := h.open
  have hR := hid (fun W (hb : Below w.heap.size w W) => root_Right (.slice A t.length c) t W (h.keep hb hb.size))
  clear h
  have key : ∀ bT, tabRight t = bT → (bT = true → isAddr a = false) → Calls Try.prog 22 #[.slice A t.length c, .int .i64 a] w (SpotErrPost ⟨0, 0, []⟩ 1 w) := by
    intro bT hT hA
    cases bT with
    | true =>
      have ha := hA rfl
      clear hA
      go_enter Try.func22, Try.ntmps22
      go_wp2_with fail
      refine calls_name ?_
      intro W0 hW0
      have hb0 := hid (show Below w.heap.size w W0 by rw [hW0]; repeat (first | assumption | exact Below.refl _ _ | refine bdrawN ?_ _ | refine Below.drew ?_ | refine Below.alloc ?_ (by (try simp) <;> omega) _ | refine Below.setCell ?_ (by (try simp) <;> omega) _))
      have bk0 := hid (show Box W0 w.heap.size #[.int .i64 a] 3 by rw [hW0]; exact (Box.new _ _ _).alloc _)
      have br0 := hid (show Box W0 (w.heap.size + 1) #[.int .i64 0, .int .i64 0, .slice none 0 0] 42 by rw [hW0]; exact boxAt _ _ (by simp) _ _)
      clear hW0
      refine (hR.out _ hb0.out).mono ?_
      rintro e w1 ⟨rfl, hb1⟩
      have bk1 := hid (bk0.out.keep hb1 bk0.out.lt)
      have br1 := hid (br0.out.keep hb1 br0.out.lt)
      have hb1 := hid (hb0.out.trans (hb1.mono hb0.out.size))
      have k1 := bk1.out.cell 0 (.int .i64 a) rfl
      have q0 := br1.out.cell 0 _ rfl
      have q1 := br1.out.cell 1 _ rfl
      have q2 := br1.out.cell 2 _ rfl
      have f0 := br1.out.frozen 0
      have f1 := br1.out.frozen 1
      have f2 := br1.out.frozen 2
      go_wp2_with (go_at_call 55; refine (root_isAddr _ _).mono ?_; rintro e w' ⟨rfl, rfl⟩)
      refine wp_name_post ?_
      intro w9 hw9
      have br9 := hid (show Box w9 (w.heap.size + 1) #[.int .i64 0, .int .i64 0, .slice none 0 0] 42 by rw [hw9]; exact ((br1.out.set 0 (.int .i64 0)).set 1 (.int .i64 0)).set 2 (.slice none 0 0))
      have hb9 := hid (show Below w.heap.size w w9 by rw [hw9]; exact ((hb1.out.setCell (p := ⟨w.heap.size + 1, 0, none⟩) (by show _ ≤ w.heap.size + 1; omega) _).setCell (p := ⟨w.heap.size + 1, 1, none⟩) (by show _ ≤ w.heap.size + 1; omega) _).setCell (p := ⟨w.heap.size + 1, 2, none⟩) (by show _ ≤ w.heap.size + 1; omega) _)
      clear hw9
      have c0 := br9.out.cell 0 _ rfl
      have c1 := br9.out.cell 1 _ rfl
      have c2 := br9.out.cell 2 _ rfl
      exact bodyPost_ret (v := .tuple #[.agg #[.int .i64 0, .int .i64 0, .slice none 0 0], .int .i64 1]) (by simp [results, Try.results22, go_sem, c0, c1, c2]) rfl ⟨.slice none 0 0, rfl, Row.nil _ _ _, hb9.out⟩
    | false =>
      clear hA
      go_enter Try.func22, Try.ntmps22
      go_wp2_with fail
      refine calls_name ?_
      intro W0 hW0
      have hb0 := hid (show Below w.heap.size w W0 by rw [hW0]; repeat (first | assumption | exact Below.refl _ _ | refine bdrawN ?_ _ | refine Below.drew ?_ | refine Below.alloc ?_ (by (try simp) <;> omega) _ | refine Below.setCell ?_ (by (try simp) <;> omega) _))
      have br0 := hid (show Box W0 (w.heap.size + 1) #[.int .i64 0, .int .i64 0, .slice none 0 0] 42 by rw [hW0]; exact boxAt _ _ (by simp) _ _)
      clear hW0
      refine (hR.out _ hb0.out).mono ?_
      rintro e w1 ⟨rfl, hb1⟩
      have br1 := hid (br0.out.keep hb1 br0.out.lt)
      have hb1 := hid (hb0.out.trans (hb1.mono hb0.out.size))
      have q0 := br1.out.cell 0 _ rfl
      have q1 := br1.out.cell 1 _ rfl
      have q2 := br1.out.cell 2 _ rfl
      have f0 := br1.out.frozen 0
      have f1 := br1.out.frozen 1
      have f2 := br1.out.frozen 2
      go_wp2
      refine wp_name_post ?_
      intro w9 hw9
      have br9 := hid (show Box w9 (w.heap.size + 1) #[.int .i64 0, .int .i64 0, .slice none 0 0] 42 by rw [hw9]; exact ((br1.out.set 0 (.int .i64 0)).set 1 (.int .i64 0)).set 2 (.slice none 0 0))
      have hb9 := hid (show Below w.heap.size w w9 by rw [hw9]; exact ((hb1.out.setCell (p := ⟨w.heap.size + 1, 0, none⟩) (by show _ ≤ w.heap.size + 1; omega) _).setCell (p := ⟨w.heap.size + 1, 1, none⟩) (by show _ ≤ w.heap.size + 1; omega) _).setCell (p := ⟨w.heap.size + 1, 2, none⟩) (by show _ ≤ w.heap.size + 1; omega) _)
      clear hw9
      have c0 := br9.out.cell 0 _ rfl
      have c1 := br9.out.cell 1 _ rfl
      have c2 := br9.out.cell 2 _ rfl
      exact bodyPost_ret (v := .tuple #[.agg #[.int .i64 0, .int .i64 0, .slice none 0 0], .int .i64 1]) (by simp [results, Try.results22, go_sem, c0, c1, c2]) rfl ⟨.slice none 0 0, rfl, Row.nil _ _ _, hb9.out⟩
  refine key _ rfl (fun hT => ?_)
  unfold getOk at hok
  rw [hT] at hok
  simpa using hok
end Go.Proofs.Ytbbkgibopicaeaa
