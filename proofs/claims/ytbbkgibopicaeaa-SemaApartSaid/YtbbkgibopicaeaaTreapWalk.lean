/- Layer 8 of the program: the walk over all nodes, in the order of their keys, whatever is done with each. -/
import Derived.Test.YtbbkgibopicaeaaTreap
import Derived.Test.YtbbkgibopicaeaaOwn2
import Derived.Deep.RegionHeld3
namespace Go.Proofs.Ytbbkgibopicaeaa
set_option linter.unusedVariables false
set_option linter.unusedSimpArgs false
open Go.RowKit

/-- What the walk's state says: the tree still to go to, what waits, what was seen. -/
structure WalkSt (ns : List Node) (t : T) (S : T) (P : List Wait) (seen : List Int) (met : Nat) : Prop where
  rep : Rep ns S
  wait : WaitRep ns P
  keys : seen ++ S.keys ++ waitKeys P = t.keys
  cnt : met + S.keys.length + waitCnt P = ns.length
  dep : P.length + seen.length = met

theorem WalkSt.down {ns : List Node} {t : T} {i : Nat} {k : Int} {l r : T} {P : List Wait} {seen : List Int} {met : Nat} (h : WalkSt ns t (.node i k l r) P seen met) : WalkSt ns t l (⟨i, k, r⟩ :: P) seen (met + 1) := by
  obtain ⟨⟨h1, h2, h3⟩, h4, h5, h6, h7⟩ := h
  refine ⟨h2, fun p hp => ?_, ?_, ?_, by simp; omega⟩
  · rcases List.mem_cons.1 hp with rfl | hp
    · exact ⟨⟨_, h1⟩, h3⟩
    · exact h4 p hp
  · rw [← h5]; simp [T.keys, waitKeys]
  · rw [← h6]; simp [T.keys, waitCnt]; omega

theorem WalkSt.up {ns : List Node} {t : T} {p : Wait} {P : List Wait} {seen : List Int} {met : Nat} (h : WalkSt ns t .nil (p :: P) seen met) : WalkSt ns t p.r P (seen ++ [p.k]) met := by
  obtain ⟨_, h4, h5, h6, h7⟩ := h
  refine ⟨(h4 p (by simp)).2, fun q hq => h4 q (by simp [hq]), ?_, ?_, by simp at h7 ⊢; omega⟩
  · rw [← h5]; simp [T.keys, waitKeys]
  · rw [← h6]; simp [T.keys, waitCnt]; omega

/-- What the see's own invariant is in the walk: what it owns is not the walk's. -/
def WalkI (I : List Int → Option Nat → World → Prop) (b0 : Nat) (seen : List Int) (ab : Value) (wr : World) : Prop :=
  ∃ g, I seen g wr ∧ ∀ k, g = some k → ab.ownBlock ≠ some k ∧ k ≠ b0 ∧ k < wr.heap.size

theorem WalkI.app {I : List Int → Option Nat → World → Prop} {B b0 : Nat} {seen : List Int} {ab ab' : Value} {wr w3 : World} {o : Obj} (hI : ∀ pre g W W', I pre g W → Below B W W' → (∀ k, g = some k → W'.heap[k]? = W.heap[k]?) → B ≤ W.heap.size → I pre g W')
    (h : WalkI I b0 seen ab wr) (hb : Below B wr w3) (hB : B ≤ wr.heap.size) (hoth : ∀ b, b < (wr.alloc o).heap.size → ab.ownBlock ≠ some b → w3.heap[b]? = (wr.alloc o).heap[b]?) (hwh : ∀ g, ab'.ownBlock = some g → ab.ownBlock = some g ∨ (wr.alloc o).heap.size ≤ g) : WalkI I b0 seen ab' w3 := by
  obtain ⟨g, h1, h2⟩ := h
  refine ⟨g, hI _ _ _ _ h1 hb (fun k hk => ?_) hB, fun k hk => ?_⟩
  · obtain ⟨h3, h4, h5⟩ := h2 k hk
    rw [hoth k (by simp; omega) h3]
    exact ((Below.refl wr.heap.size wr).alloc (Nat.le_refl _) o).block k h5
  · obtain ⟨h3, h4, h5⟩ := h2 k hk
    refine ⟨fun e => ?_, h4, Nat.lt_of_lt_of_le h5 hb.size⟩
    rcases hwh k e with h6 | h6
    · exact h3 h6
    · simp at h6; omega

theorem WalkI.see {I : List Int → Option Nat → World → Prop} {b0 ba oa n m c s0 : Nat} {seen : List Int} {wr w2 : World} {gi g2 : Option Nat}
    (hgi : ∀ k, gi = some k → (Value.slice (some ⟨ba, oa, none⟩) n c).ownBlock ≠ some k ∧ k ≠ b0 ∧ k < wr.heap.size) (hba : ba < wr.heap.size) (hb0 : b0 < wr.heap.size) (hI2 : I seen g2 w2) (hg2 : ∀ k, g2 = some k → gi = some k ∨ wr.heap.size + 1 ≤ k) (hlt : ∀ k, g2 = some k → s0 ≤ k ∧ k < w2.heap.size) : WalkI I b0 seen (.slice (some ⟨ba, oa, none⟩) m c) w2 := by
  refine ⟨g2, hI2, fun k hk => ⟨fun e => ?_, fun e => ?_, (hlt k hk).2⟩⟩
  · rcases hg2 k hk with h | h
    · exact (hgi k h).1 e
    · simp [Value.ownBlock] at e; omega
  · rcases hg2 k hk with h | h
    · exact (hgi k h).2.1 e
    · omega

set_option maxHeartbeats 4000000 in
set_option maxRecDepth 100000 in
theorem treap_walk (cf : Nat) (caps : Array Value) (hcf : ∀ args w, (callFunc cf args).run Try.prog w = .ok (.enter cf args) w) (S0 : Nat → Prop) (I : List Int → Option Nat → World → Prop) (ns : List Node) (t : T) (v : Value) (w : World)
    (hok : TreeOk ns t) (h : Row nodeE w w.heap.size v ns) (hS : ∀ k, S0 k → k < w.heap.size) (hv : ∀ g, ns ≠ [] → v.ownBlock = some g → ¬ S0 g)
    (hI : ∀ pre g W W', I pre g W → Below w.heap.size W W' → (∀ k, g = some k → W'.heap[k]? = W.heap[k]?) → w.heap.size ≤ W.heap.size → I pre g W')
    (hIlt : ∀ pre g W, I pre g W → ∀ k, g = some k → w.heap.size ≤ k ∧ k < W.heap.size)
    (hsee : ∀ pre g (n : Node) W, I pre g W → w.heap.size ≤ W.heap.size → (∃ post, pre ++ n.key :: post = t.keys) →
      Calls Try.prog cf (#[.agg #[.int .i64 n.key, .int .i64 n.left, .int .i64 n.right]] ++ caps) W fun e W' => e = .returned (.tuple #[]) ∧ (∃ g', I (pre ++ [n.key]) g' W' ∧ ∀ k, g' = some k → g = some k ∨ W.heap.size ≤ k) ∧ But (fun k => S0 k ∨ g = some k) W W')
    (h0 : I [] none w) :
    Calls Try.prog 78 #[.agg #[.int .i64 t.root, v], .func (.func cf) #[] caps] w fun e w' => e = .returned (.bool true) ∧ (∃ g, I t.keys g w') ∧ But S0 w w' := by
  obtain ⟨A, c, rfl, hlc, hcm⟩ := h.open
  unfold maxLen at hcm
  have H := hid h
  have hle := hok.le
  have hst0 := hid (show WalkSt ns t t [] [] 0 from ⟨hok.rep, fun p hp => by simp at hp, by simp [waitKeys], by simp [waitCnt]; rw [← idx_keys, hok.len], rfl⟩)
  have hsee := hid hsee
  have hI := hid hI
  have hbx0 := hid (Box.new w #[.int .i64 t.root, .slice A ns.length c] 81)
  have hIlt := hid hIlt
  have h0 := hid (show WalkI I w.heap.size [] (.slice none 0 0) (w.alloc (.cells #[.int .i64 t.root, .slice A ns.length c] 81)) from ⟨none, hI.out _ _ _ _ h0 ((Below.refl _ _).alloc (Nat.le_refl _) _) (fun _ h => by simp at h) (Nat.le_refl _), fun _ h => by simp at h⟩)
  have hkl := hid (show ns.length = t.keys.length by rw [← idx_keys, hok.len])
  clear h hok
  go_enter Try.func78, Try.ntmps78
  go_wp2
  go_loopg [5, 6, 7] (ns.length) (fun g ab me at_ wr => ∃ S P seen met A1 c1, seen.length + g = t.keys.length ∧ Hid (WalkSt ns t S P seen met) ∧ ab = .slice A1 P.length c1 ∧ me = .int .i64 (met : Nat) ∧ at_ = .int .i64 S.root ∧
    Hid (Own intE 3 wr (w.heap.size + 1) ab (waitIdx P)) ∧ Hid (Box wr w.heap.size #[.int .i64 t.root, .slice A ns.length c] 81) ∧ Hid (WalkI I w.heap.size seen ab wr) ∧ Hid (But S0 w wr))
  case atStart => exact ⟨t, [], [], 0, none, 0, by rw [List.length_nil, ← hkl.out]; omega, hst0, rfl, rfl, rfl, Own.nil _ _ _ _, hbx0, h0, (But.refl _ _).alloc _⟩
  case round =>
    obtain ⟨S, P, seen, met, A1, c1, hg, hst, rfl, rfl, rfl, hown, hbx, hIw, hbut⟩ := hrel
    have f0 := hbx.out.cell 0 (.int .i64 t.root) rfl
    have f1 := hbx.out.cell 1 (.slice A ns.length c) rfl
    have hsz := hbx.out.lt
    have hcnt := hid hst.out.cnt
    cases S with
    | nil =>
      have hroot : T.nil.root = -1 := rfl
      cases P with
      | nil =>
        have hmet : met = ns.length := by simpa [T.keys, waitCnt] using hcnt.out
        have hseen := hid (show seen = t.keys by have := hst.out.keys; simpa [T.keys, waitKeys] using this)
        have hmb : ((met : Int) == (ns.length : Int)) = true := by rw [hmet]; simp
        clear hmet
        go_wp2
        go_ret
        exact ⟨rfl, by rw [← hseen.out]; obtain ⟨g, h, _⟩ := hIw.out; exact ⟨g, h⟩, hbut.out⟩
      | cons p P =>
        obtain ⟨G, hG⟩ : ∃ G, G = gk := ⟨_, rfl⟩
        go_wp2
        go_loopg [5, 6, 7] 0 (fun g ab me at_ wx => g = 0 ∧ ab = .slice A1 (P.length + 1) c1 ∧ me = .int .i64 (met : Nat) ∧ at_ = .int .i64 (-1) ∧ wr = wx)
        case atStart => exact ⟨rfl, rfl, rfl, rfl, rfl⟩
        case round =>
          obtain ⟨rfl, rfl, rfl, rfl, rfl⟩ := hrel
          have hp1 := hid (hst.out.wait p (by simp)).1
          obtain ⟨lv, hpn⟩ := hp1.out
          obtain ⟨b, o, hA, hbb, hn0, hn1, hn2⟩ := (Row.nodes_but H.out hbut.out (Nat.le_refl _) hv).node p.i _ hpn
          subst hA
          have hpi : (p.i : Int) < (ns.length : Int) := by have := (List.getElem?_eq_some_iff.1 hpn).1; omega
          have hab := hid (hown.out.row (by omega))
          have hcc := hab.out.len_eq.2.1
          simp only [List.length_cons] at hcc
          have hPb : P.length + 1 ≤ ns.length := by
            have h1 := hst.out.cnt
            have h2 := hst.out.dep
            simp only [List.length_cons] at h2
            omega
          obtain ⟨ba, oa, hA1, hba, hca⟩ := hab.out.int P.length (by rw [waitIdx_len]; simp)
          subst hA1
          have hlast := hid (show (waitIdx (p :: P))[P.length]'(by rw [waitIdx_len]; simp) = (p.i : Int) by simp [waitIdx, waitIdx_len])
          rw [hlast.out] at hca
          clear hpn hp1
          have hlt1 : (P.length : Int) < (P.length : Int) + 1 := by omega
          have hlt0 : (0 : Int) ≤ (P.length : Int) := by omega
          have hlp0 : (0 : Int) ≤ (p.i : Int) := by omega
          have hcc1 : P.length ≤ c1 := by omega
          have ne1 := World.new_ne wr _ f1
          have ne2 := World.new_ne wr _ hca
          have ne3 := World.new_ne wr _ hn0
          have ne4 := World.new_ne wr _ hn1
          have ne5 := World.new_ne wr _ hn2
          have hpost := hid (show ∃ post, seen ++ p.k :: post = t.keys from ⟨p.r.keys ++ waitKeys P, by have := hst.out.keys; simpa [T.keys, waitKeys] using this⟩)
          have hst' := hid hst.out.up
          obtain ⟨gi, hIg, hgi'⟩ := hIw.out
          have hgi := hid hgi'
          have hbaw := hid (hown.out.lt ba rfl)
          have hIn := hid (fun o => hI.out _ _ _ _ hIg ((Below.refl w.heap.size wr).alloc (by omega) o) (fun k hk => ((Below.refl wr.heap.size wr).alloc (Nat.le_refl _) o).block k (hgi' k hk).2.2) (by omega))
          clear hIg hgi'
          have hown' := hid (hown.out.take P.length (by rw [waitIdx_len]; simp))
          have htk := hid (show (waitIdx (p :: P)).take P.length = waitIdx P by simp [waitIdx, waitIdx_len])
          have hg1 := hid (show seen.length < t.keys.length by have := congrArg List.length hst.out.keys; simp [T.keys, waitKeys] at this; omega)
          go_wp2
          have hsub : IntKind.i64.wrap (P.length : Int) = (P.length : Int) := IntWalk.i64_in _ (by omega)
          go_region_held3 (fun w' => w'.cell? ⟨w.heap.size, 1, none⟩ = some (.slice (some ⟨b, o, none⟩) ns.length c) ∧ w'.cell? ⟨ba, oa + P.length, none⟩ = some (.int .i64 (p.i : Int)) ∧ w'.cell? ⟨b, o + p.i * 3, none⟩ = some (.int .i64 p.k) ∧ w'.cell? ⟨b, o + p.i * 3 + 1, none⟩ = some (.int .i64 lv) ∧ w'.cell? ⟨b, o + p.i * 3 + 2, none⟩ = some (.int .i64 p.r.root)) (go_keep) (fail)
          clear hsub
          go_wp2_with fail
          have hbn := hid (Box.new wr #[.int .i64 p.k, .int .i64 lv, .int .i64 p.r.root] 101)
          refine (hsee.out seen gi ⟨p.k, lv, p.r.root⟩ _ (by exact hI.out _ _ _ _ (hIn.out _) (Below.refl _ _).drew (fun _ _ => rfl) (by simp; omega)) (by simp; omega) hpost.out).mono ?_
          rintro e w2 ⟨rfl, ⟨g2, hI2, hg2⟩, hbut2⟩
          have hI2 := hid hI2; have hg2 := hid hg2
          have hbut2 := hid hbut2
          have hbn2 := hid (hbut2.out.box hbn.out.drew (fun h => by rcases h with h | h; (have := hS _ h; omega); (have := (hgi.out _ h).2.2; omega)))
          have q2 := hbn2.out.cell 2 (.int .i64 p.r.root) rfl
          have hbx2 := hid (hbut2.out.box (hbx.out.alloc _).drew (fun h => by rcases h with h | h; (have := hS _ h; omega); exact (hgi.out _ h).2.1 rfl))
          go_wp2
          go_roundg (G - 1)
          case rel => exact ⟨p.r, P, seen ++ [p.k], met, _, _, by have := hg1.out; simp; omega, hst', rfl, rfl, rfl, by rw [← htk.out]; exact (((hown'.out.alloc (by omega) _).drew (by simp; omega)).stay' (fun k hk => hbut2.out.block k (((hown'.out.alloc (by omega) _).drew (by simp; omega)).lt k hk).2 (fun h => by rcases h with h | h; (have := hS _ h; have := (hown'.out.lt k hk).1; omega); exact (hgi.out _ h).1 hk)) (fun _ _ _ _ _ h => h)), hbx2, WalkI.see hgi.out hbaw.out.2 (by omega) hI2.out (by have := hg2.out; simpa using this) (hIlt.out _ _ _ hI2.out), (hbut.out.alloc _).drew.trans' hbut2.out (fun i hi h => h.elim id (fun h => by have := (hIlt.out _ _ _ (hIn.out (.cells #[] 0)) i h).1; omega))⟩
          case measure => have := hg1.out; omega

    | node i k l r =>
      have hi0 : (0 : Int) ≤ (i : Int) := by omega
      have hroot : (T.node i k l r).root = (i : Int) := rfl
      have hnn1 : ((i : Int) != -1) = true := by rw [bne_iff_ne]; omega
      obtain ⟨G, hG⟩ : ∃ G, G = gk := ⟨_, rfl⟩
      go_wp2
      go_loopg [5, 6, 7] ((T.node i k l r).keys.length) (fun g ab me at_ wx => ∃ S P met A1 c1, g = S.keys.length ∧ (S.root ≠ -1 ∨ P ≠ []) ∧ Hid (WalkSt ns t S P seen met) ∧ ab = .slice A1 P.length c1 ∧ me = .int .i64 (met : Nat) ∧ at_ = .int .i64 S.root ∧
        Hid (Own intE 3 wx (w.heap.size + 1) ab (waitIdx P)) ∧ Hid (Box wx w.heap.size #[.int .i64 t.root, .slice A ns.length c] 81) ∧ Hid (WalkI I w.heap.size seen ab wx) ∧ Hid (But S0 w wx))
      case atStart => exact ⟨.node i k l r, P, met, A1, c1, rfl, .inl (by rw [hroot]; omega), hst, rfl, rfl, rfl, hown, hbx, hIw, hbut⟩
      case round =>
        clear hst hown hbx hIw hbut f0 f1 hsz hcnt hi0 hroot hnn1
        obtain ⟨S, P, met, A1, c1, rfl, hne, hst, rfl, rfl, rfl, hown, hbx, hIw, hbut⟩ := hrel
        have f0 := hbx.out.cell 0 (.int .i64 t.root) rfl
        have f1 := hbx.out.cell 1 (.slice A ns.length c) rfl
        have hsz := hbx.out.lt
        cases S with
        | nil =>
          have hroot : T.nil.root = -1 := rfl
          cases P with
          | nil => exact absurd rfl (hne.resolve_left (by simp [T.root]))
          | cons p P =>
            have hp1 := hid (hst.out.wait p (by simp)).1
            obtain ⟨lv, hpn⟩ := hp1.out
            obtain ⟨b, o, hA, hbb, hn0, hn1, hn2⟩ := (Row.nodes_but H.out hbut.out (Nat.le_refl _) hv).node p.i _ hpn
            subst hA
            have hpi : (p.i : Int) < (ns.length : Int) := by have := (List.getElem?_eq_some_iff.1 hpn).1; omega
            have hab := hid (hown.out.row (by omega))
            have hcc := hab.out.len_eq.2.1
            simp only [List.length_cons] at hcc
            have hPb : P.length + 1 ≤ ns.length := by
              have h1 := hst.out.cnt
              have h2 := hst.out.dep
              simp only [List.length_cons] at h2
              omega
            obtain ⟨ba, oa, hA1, hba, hca⟩ := hab.out.int P.length (by rw [waitIdx_len]; simp)
            subst hA1
            have hlast := hid (show (waitIdx (p :: P))[P.length]'(by rw [waitIdx_len]; simp) = (p.i : Int) by simp [waitIdx, waitIdx_len])
            rw [hlast.out] at hca
            clear hpn hp1
            have hlt1 : (P.length : Int) < (P.length : Int) + 1 := by omega
            have hlt0 : (0 : Int) ≤ (P.length : Int) := by omega
            have hlp0 : (0 : Int) ≤ (p.i : Int) := by omega
            have hcc1 : P.length ≤ c1 := by omega
            have ne1 := World.new_ne wr _ f1
            have ne2 := World.new_ne wr _ hca
            have ne3 := World.new_ne wr _ hn0
            have ne4 := World.new_ne wr _ hn1
            have ne5 := World.new_ne wr _ hn2
            have hpost := hid (show ∃ post, seen ++ p.k :: post = t.keys from ⟨p.r.keys ++ waitKeys P, by have := hst.out.keys; simpa [T.keys, waitKeys] using this⟩)
            have hst' := hid hst.out.up
            obtain ⟨gi, hIg, hgi'⟩ := hIw.out
            have hgi := hid hgi'
            have hbaw := hid (hown.out.lt ba rfl)
            have hIn := hid (fun o => hI.out _ _ _ _ hIg ((Below.refl w.heap.size wr).alloc (by omega) o) (fun k hk => ((Below.refl wr.heap.size wr).alloc (Nat.le_refl _) o).block k (hgi' k hk).2.2) (by omega))
            clear hIg hgi'
            have hown' := hid (hown.out.take P.length (by rw [waitIdx_len]; simp))
            have htk := hid (show (waitIdx (p :: P)).take P.length = waitIdx P by simp [waitIdx, waitIdx_len])
            have hg1 := hid (show seen.length < t.keys.length by have := congrArg List.length hst.out.keys; simp [T.keys, waitKeys] at this; omega)
            go_wp2
            have hsub : IntKind.i64.wrap (P.length : Int) = (P.length : Int) := IntWalk.i64_in _ (by omega)
            go_region_held3 (fun w' => w'.cell? ⟨w.heap.size, 1, none⟩ = some (.slice (some ⟨b, o, none⟩) ns.length c) ∧ w'.cell? ⟨ba, oa + P.length, none⟩ = some (.int .i64 (p.i : Int)) ∧ w'.cell? ⟨b, o + p.i * 3, none⟩ = some (.int .i64 p.k) ∧ w'.cell? ⟨b, o + p.i * 3 + 1, none⟩ = some (.int .i64 lv) ∧ w'.cell? ⟨b, o + p.i * 3 + 2, none⟩ = some (.int .i64 p.r.root)) (go_keep) (fail)
            clear hsub
            go_wp2_with fail
            have hbn := hid (Box.new wr #[.int .i64 p.k, .int .i64 lv, .int .i64 p.r.root] 101)
            refine (hsee.out seen gi ⟨p.k, lv, p.r.root⟩ _ (by exact hI.out _ _ _ _ (hIn.out _) (Below.refl _ _).drew (fun _ _ => rfl) (by simp; omega)) (by simp; omega) hpost.out).mono ?_
            rintro e w2 ⟨rfl, ⟨g2, hI2, hg2⟩, hbut2⟩
            have hI2 := hid hI2; have hg2 := hid hg2
            have hbut2 := hid hbut2
            have hbn2 := hid (hbut2.out.box hbn.out.drew (fun h => by rcases h with h | h; (have := hS _ h; omega); (have := (hgi.out _ h).2.2; omega)))
            have q2 := hbn2.out.cell 2 (.int .i64 p.r.root) rfl
            have hbx2 := hid (hbut2.out.box (hbx.out.alloc _).drew (fun h => by rcases h with h | h; (have := hS _ h; omega); exact (hgi.out _ h).2.1 rfl))
            go_wp2
            go_roundg (G - 1)
            case rel => exact ⟨p.r, P, seen ++ [p.k], met, _, _, by have := hg1.out; simp; omega, hst', rfl, rfl, rfl, by rw [← htk.out]; exact (((hown'.out.alloc (by omega) _).drew (by simp; omega)).stay' (fun k hk => hbut2.out.block k (((hown'.out.alloc (by omega) _).drew (by simp; omega)).lt k hk).2 (fun h => by rcases h with h | h; (have := hS _ h; have := (hown'.out.lt k hk).1; omega); exact (hgi.out _ h).1 hk)) (fun _ _ _ _ _ h => h)), hbx2, WalkI.see hgi.out hbaw.out.2 (by omega) hI2.out (by have := hg2.out; simpa using this) (hIlt.out _ _ _ hI2.out), (hbut.out.alloc _).drew.trans' hbut2.out (fun i hi h => h.elim id (fun h => by have := (hIlt.out _ _ _ (hIn.out (.cells #[] 0)) i h).1; omega))⟩
            case measure => have := hg1.out; omega
        | node i k l r =>
          have hroot : (T.node i k l r).root = (i : Int) := rfl
          obtain ⟨hx, _, _⟩ := hst.out.rep
          obtain ⟨b, o, hA, hbb, hn0, hn1, hn2⟩ := (Row.nodes_but H.out hbut.out (Nat.le_refl _) hv).node i _ hx
          subst hA
          have hil : i < ns.length := (List.getElem?_eq_some_iff.1 hx).1
          have hi0 : (0 : Int) ≤ (i : Int) := by omega
          have hi1 : (i : Int) < (ns.length : Int) := by omega
          have hi2 : ¬ ((i : Int) < 0) := by omega
          have hnn1 : ((i : Int) != -1) = true := by rw [bne_iff_ne]; omega
          have hcnt := hst.out.cnt
          have hmetlt : met < ns.length := by simp only [T.keys, List.length_append, List.length_cons] at hcnt; omega
          have hdep := hst.out.dep
          have hmet1 : ((met : Int) == (ns.length : Int)) = false := by rw [beq_eq_false_iff_ne]; omega
          have hPl : P.length ≤ 64 := by omega
          clear hcnt hdep hx
          have hst' := hid hst.out.down
          have hbo := hid (show Below (w.heap.size + 1) wr (wr.alloc (.cells #[.int .i64 (i : Int)] 3)) from (Below.refl _ _).alloc (by omega) _)
          go_wp2_with (at_builtin; refine wpList_app1w intE 36 3 (.int .i64 0) 8 Try.underlying36 info_int rfl (by decide) (.tmp 36) (.tmp 38) (w.heap.size + 1) (waitIdx P) (i : Int) (waitIdx P ++ [(i : Int)]) (P.length + 1) rfl (by rw [waitIdx_len]) _ (hown.out.alloc (by omega) _) rfl _ 1 rfl [.int .i64 (i : Int)] rfl (cell_new _ _ (by simp) _ _) rfl rfl (by rw [waitIdx_len]; omega) (by rw [waitIdx_len]; omega) (by simp; omega) ?_; intro A3 c3 w3 hown3 hb3 hc31 hc32 hoth hwh; have hI3 := hid (WalkI.app hI.out hIw.out (hbo.out.trans hb3 |>.mono (by omega)) (by omega) hoth hwh); clear hoth hwh; have HO3 := hid hown3; clear hown3; have hb3' := hid (hbo.out.trans hb3); clear hb3; have m1 := ((Row.nodes_but H.out (hbut.out.of_below (hb3'.out.mono (by omega))) (Nat.le_refl _) hv).node i _ hst.out.rep.1); have hbx3 := hid (hbx.out.keep hb3'.out (by omega)); have q1 := hbx3.out.cell 1 (.slice (some ⟨b, o, none⟩) ns.length c) rfl; obtain ⟨b', o', hA', _, _, m1, _⟩ := m1; simp only [Option.some.injEq, Addr.mk.injEq, and_true] at hA'; obtain ⟨rfl, rfl⟩ := hA')
          have hs3 := hb3'.out.size
          go_roundg (l.keys.length)
          case rel => exact ⟨l, ⟨i, k, r⟩ :: P, met + 1, _, _, rfl, .inr (by simp), hst', rfl, by go_num, rfl, HO3, hbx3, hI3, hbut.out.of_below (hb3'.out.mono (by omega))⟩
          case measure => (simp [T.keys]) <;> omega
end Go.Proofs.Ytbbkgibopicaeaa
