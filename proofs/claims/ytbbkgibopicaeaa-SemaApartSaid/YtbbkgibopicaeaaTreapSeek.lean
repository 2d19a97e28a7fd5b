/- Layer 8 of the program: links are followed to a key. -/
import Derived.Test.YtbbkgibopicaeaaTreapOps
import Derived.ScopeJumps
namespace Go.Proofs.Ytbbkgibopicaeaa
set_option linter.unusedVariables false
set_option linter.unusedSimpArgs false
open Go.RowKit

/-- A scope with a label that is gone to from behind it alone. -/
theorem wp_scope_label {P : Program} {a : Act} {w : World} {Q : Exit → Act → World → Prop} {pre rest : Code} (l : Nat) (J : Act → World → Prop) (μ : Act → World → Nat) (hp : findLabel pre l = none)
    (first : pre.wp P (fun e a w => e = .normal ∧ J a w) a w)
    (pass : ∀ a w, J a w → rest.wp P (Exit.jump l (fun a' w' => J a' w' ∧ μ a' w' < μ a w) Q) a w) : (Code.scope (pre.seq ((Code.label l).seq rest))).wp P Q a w := by
  refine wp_scope_jumps (rest := .seq .skip rest) l J μ (by simp [findLabel, hp]) ?_ ?_
  · refine wp_seq (wp_mono first ?_)
    rintro e a w ⟨rfl, hJ⟩
    refine wp_seq (wp_label ?_)
    refine wp_mono (pass a w hJ) ?_
    rintro e a w h
    cases e <;> simp_all [Exit.jump]
  · intro a w hJ
    exact wp_seq (wp_skip (pass a w hJ))

/-- Where a link lies: the tree at bt, the nodes at g from o on. -/
def linkCell (bt g o : Nat) : Link → Addr
  | .root => ⟨bt, 0, none⟩
  | .l i => ⟨g, o + i * 3 + 1, none⟩
  | .r i => ⟨g, o + i * 3 + 2, none⟩

theorem link_cell {W : World} {bt g o n c : Nat} {A : Option Addr} {t : Type} {ns : List Node} {C : Ctx} {u : T} {ty : TypeId} {v : Value} {B : Nat} (hr : Rep ns (fill C u)) (hbx : Box W bt #[.int .i64 (fill C u).root, v] ty) (hbt : bt < B) (h : Row nodeE W B (.slice A n c) ns) (hA : ns ≠ [] → A = some ⟨g, o, none⟩) :
    ∃ lb lo, linkCell bt g o C.link = ⟨lb, lo, none⟩ ∧ lb < B ∧ W.cell? ⟨lb, lo, none⟩ = some (.int .i64 u.root) := by
  obtain ⟨h1, h2, h3⟩ := rep_hole hr
  by_cases hroot : C.link = .root
  · have := h3 hroot
    subst this
    exact ⟨bt, 0, rfl, hbt, hbx.cell 0 _ rfl⟩
  · obtain ⟨h4, h5⟩ := h2 hroot
    cases hl : C.link with
    | root => exact absurd hl hroot
    | l i =>
      rw [hl] at h4 h5
      have hi := h5 i rfl
      obtain ⟨b, o', e, hb, _, hc, _⟩ := h.node i ns[i] (by simp [hi])
      have hne : ns ≠ [] := by intro e; subst e; simp at hi
      have := hA hne
      rw [this] at e
      cases e
      refine ⟨g, _, rfl, hb, ?_⟩
      rw [hc, ← h4]
      simp [getLink, hi]
    | r i =>
      rw [hl] at h4 h5
      have hi := h5 i rfl
      obtain ⟨b, o', e, hb, _, _, hc⟩ := h.node i ns[i] (by simp [hi])
      have hne : ns ≠ [] := by intro e; subst e; simp at hi
      have := hA hne
      rw [this] at e
      cases e
      refine ⟨g, _, rfl, hb, ?_⟩
      rw [hc, ← h4]
      simp [getLink, hi]

def intOf : Value → Int | .int _ q => q | _ => 0

/-- Where the walk stands at the label. -/
def SeekAt (bt : Nat) (key : Int) (cf : Nat) (caps : Array Value) (lk : Addr) (d : Nat) (a : Act) : Prop :=
  ∃ (u10 u11 u12 u13 u14 u15 u16 u17 u18 u19 u20 u21 u22 u23 u24 u25 u26 u27 u28 u29 u30 u31 u32 u33 u34 u35 u36 u37 u38 u39 u40 u41 u42 u43 u44 u45 u46 u47 u48 u49 u50 u51 u52 u53 u54 u55 : Value), a = { tmps := #[.pointer (some ⟨bt, 0, none⟩), .int .i64 key, .func (.func cf) #[] caps, undef, undef, undef, .pointer none, .int .i64 0, .pointer (some lk), .int .i64 (d : Nat), u10, u11, u12, u13, u14, u15, u16, u17, u18, u19, u20, u21, u22, u23, u24, u25, u26, u27, u28, u29, u30, u31, u32, u33, u34, u35, u36, u37, u38, u39, u40, u41, u42, u43, u44, u45, u46, u47, u48, u49, u50, u51, u52, u53, u54, u55], defers := [] }

set_option maxHeartbeats 4000000 in
set_option maxRecDepth 100000 in
theorem treap_seek (cf : Nat) (caps : Array Value) (hcf : ∀ args w, (callFunc cf args).run Try.prog w = .ok (.enter cf args) w) (on : Int → Bool) (key : Int) (ns : List Node) (t : T) (n c : Nat) (A : Option Addr) (bt g o : Nat) (w : World)
    (hrep : Rep ns t) (hN : t.idx.length ≤ 64) (hbx : Box w bt #[.int .i64 t.root, .slice A n c] 81) (h : Row nodeE w w.heap.size (.slice A n c) ns) (hA : ns ≠ [] → A = some ⟨g, o, none⟩)
    (hon : ∀ (m : Node) W, m.key ∈ t.keys → Below w.heap.size w W → Calls Try.prog cf (#[.agg #[.int .i64 m.key, .int .i64 m.left, .int .i64 m.right]] ++ caps) W fun e W' => e = .returned (.bool (on m.key)) ∧ Below W.heap.size W W') :
    Calls Try.prog 84 #[.pointer (some ⟨bt, 0, none⟩), .int .i64 key, .func (.func cf) #[] caps] w fun e w' =>
      ∃ d : Nat, e = .returned (.tuple #[.pointer (some (linkCell bt g o (seekC on key t .top).1.link)), .int .i64 d]) ∧ Below w.heap.size w w' := by
  obtain ⟨hn, hcn, hcm, _⟩ := h.len_eq
  unfold maxLen at hcm
  subst hn
  have hz := hbx.lt
  have H := hid h
  have HB := hid hbx
  have hon := hid hon
  have hrep := hid hrep
  have hA := hid hA
  have hN := hid hN
  clear h hbx
  go_enter Try.func84, Try.ntmps84
  go_wp2_with fail
  have hbe : ∀ lk d a, SeekAt bt key cf caps lk d a → a.tmps.getD 9 undef = .int .i64 (d : Nat) := by rintro lk d a ⟨u10, u11, u12, u13, u14, u15, u16, u17, u18, u19, u20, u21, u22, u23, u24, u25, u26, u27, u28, u29, u30, u31, u32, u33, u34, u35, u36, u37, u38, u39, u40, u41, u42, u43, u44, u45, u46, u47, u48, u49, u50, u51, u52, u53, u54, u55, rfl⟩; rfl
  refine wp_scope_label 0 (fun a' w' => ∃ C u d, SeekAt bt key cf caps (linkCell bt g o C.link) d a' ∧ Below w.heap.size w w' ∧ seekC on key u C = seekC on key t .top ∧ fill C u = t ∧ d + u.idx.length ≤ t.idx.length) (fun a' _ => t.idx.length - (intOf (a'.tmps.getD 9 undef)).toNat) rfl ?_ ?_
  · go_wp2
    exact ⟨.top, t, 0, ⟨_, _, _, _, _, _, _, _, _, _, _, _, _, _, _, _, _, _, _, _, _, _, _, _, _, _, _, _, _, _, _, _, _, _, _, _, _, _, _, _, _, _, _, _, _, _, rfl⟩, Below.refl _ _, rfl, rfl, by omega⟩
  · rintro a' w1 ⟨C, u, d, ⟨u10, u11, u12, u13, u14, u15, u16, u17, u18, u19, u20, u21, u22, u23, u24, u25, u26, u27, u28, u29, u30, u31, u32, u33, u34, u35, u36, u37, u38, u39, u40, u41, u42, u43, u44, u45, u46, u47, u48, u49, u50, u51, u52, u53, u54, u55, rfl⟩, hb1, hsk, hfu, hd⟩
    obtain ⟨lb, lo, hla, hlb, hlc⟩ := link_cell (t := T) (C := C) (u := u) (bt := bt) (g := g) (o := o) (W := w1) (by rw [hfu]; exact hrep.out) (by rw [hfu]; exact HB.out.keep hb1 HB.out.lt) (Nat.lt_of_lt_of_le hz hb1.size) (H.out.keep hb1 hb1.size) hA.out
    have hlk := hid hla
    rw [hla]
    clear hla
    have hsk := hid hsk
    have hfu' := hid hfu
    have hb1' := hid hb1
    clear hfu hb1
    cases u with
    | nil =>
      have hg1 : T.nil.root = -1 := rfl
      rw [hg1] at hlc
      go_wp2
      refine wp_name ?_
      intro W hW
      have hbW : Below w1.heap.size w1 W := (by rw [hW]; exact Below.refl _ _)
      have d0 := Bel.cell (W := W) (a := ⟨lb, lo, none⟩) (v := .int .i64 (-1)) (by rw [hW]; exact hlc)
      clear hW hlc
      refine wp_region_bel (by kernel_rfl) (by kernel_rfl) ?_
      (repeat (go_big_quiet_step (fail)))
      refine wpQuiet_nil ?_
      rintro w2 ⟨⟨w2', hb2⟩, rfl⟩
      have hb2' := hid (hb1'.out.trans ((hbW.trans (hb2.mono hbW.size)).mono hb1'.out.size))
      go_wp2
      simp only [Exit.jump]
      refine bodyPost_ret (v := .tuple #[.pointer (some ⟨lb, lo, none⟩), .int .i64 (d : Nat)]) (by simp [results, Try.results84, go_sem]) rfl ⟨d, ?_, hb2'.out⟩
      have e : seekC on key t .top = (C, .nil) := hsk.out.symm.trans (by simp [seekC])
      rw [e]
      show _ = Ending.returned (.tuple #[.pointer (some (linkCell bt g o C.link)), _])
      rw [hlk.out]
    | node i k l r =>
      have hrr := (rep_hole (ns := ns) (c := C) (t := .node i k l r) (by rw [hfu'.out]; exact hrep.out)).1
      have hni := hid hrr.1
      have hil := hrr.1
      have hi1 := (List.getElem?_eq_some_iff.1 hil).1
      obtain ⟨gb, go_, hAA, hgb, hn0, hn1, hn2⟩ := (H.out.keep hb1'.out hb1'.out.size).node i _ hil
      have hAe := hA.out (by intro e; subst e; simp at hi1)
      rw [hAA] at hAe
      cases hAe
      subst hAA
      have hi0 : (0 : Int) ≤ (i : Int) := by omega
      have hii : (i : Int) < (ns.length : Int) := by omega
      have hroot : (T.node i k l r).root = (i : Int) := rfl
      rw [hroot] at hlc
      have hin : ((i : Int) == -1) = false := by rw [beq_eq_false_iff_ne]; omega
      have hkt := hid (show k ∈ t.keys by rw [← hfu'.out, fill_keys]; simp [T.keys])
      have hbx1 := (HB.out.keep hb1'.out HB.out.lt).cell 1 _ rfl
      clear hil hrr
      have hcall := hid (fun W hW => hon.out ⟨k, l.root, r.root⟩ W hkt.out hW)
      obtain ⟨bo, hbo⟩ : ∃ bo, bo = on k := ⟨_, rfl⟩
      have hbo' := hid hbo
      simp only [← hbo] at hcall
      clear hbo
      go_wp2
      refine wp_name ?_
      intro W hW
      have hbW : Below w1.heap.size w1 W := (by rw [hW]; exact Below.refl _ _)
      have d0 := Bel.cell (W := W) (a := ⟨lb, lo, none⟩) (v := .int .i64 (i : Int)) (by rw [hW]; exact hlc)
      have d1 := Bel.cell (W := W) (a := ⟨bt, 1, none⟩) (v := .slice (some ⟨g, o, none⟩) ns.length c) (by rw [hW]; exact hbx1)
      have d2 := Bel.cell (W := W) (a := ⟨g, o + i * 3, none⟩) (v := .int .i64 k) (by rw [hW]; exact hn0)
      have d3 := Bel.cell (W := W) (a := ⟨g, o + i * 3 + 1, none⟩) (v := .int .i64 l.root) (by rw [hW]; exact hn1)
      have d4 := Bel.cell (W := W) (a := ⟨g, o + i * 3 + 2, none⟩) (v := .int .i64 r.root) (by rw [hW]; exact hn2)
      have hcW := hid (fun u : Bel W => hcall.out u.w (hb1'.out.trans ((hbW.trans (u.h.mono hbW.size)).mono hb1'.out.size)))
      clear hW hlc
      refine wp_region_bel (by kernel_rfl) (by kernel_rfl) ?_
      (repeat (go_big_quiet_step ((first | exact Calls.bel (hcW.out _) | skip))))
      refine wpQuiet_nil ?_
      rintro w2 ⟨⟨w2', hb2⟩, rfl⟩
      have hb2' := hid (hb1'.out.trans ((hbW.trans (hb2.mono hbW.size)).mono hb1'.out.size))
      have hbx2 := (HB.out.keep hb2'.out HB.out.lt).cell 1 (.slice (some ⟨g, o, none⟩) ns.length c) rfl
      obtain ⟨_, _, hAA, _, hm0, hm1, hm2⟩ := (H.out.keep hb2'.out hb2'.out.size).node i _ hni.out
      cases hAA
      have hlc2 : w2.cell? ⟨lb, lo, none⟩ = some (.int .i64 (i : Int)) := d0 ⟨w2, hb2⟩
      clear d0 d1 d2 d3 d4 hbW hcW
      cases bo with
      | false =>
        go_wp2
        simp only [Exit.jump]
        refine bodyPost_ret (v := .tuple #[.pointer (some ⟨lb, lo, none⟩), .int .i64 (d : Nat)]) (by simp [results, Try.results84, go_sem]) rfl ⟨d, ?_, hb2'.out⟩
        have e : seekC on key t .top = (C, .node i k l r) := hsk.out.symm.trans (by simp [seekC, ← hbo'.out])
        rw [e]
        show _ = Ending.returned (.tuple #[.pointer (some (linkCell bt g o C.link)), _])
        rw [hlk.out]
      | true =>
        have hdd : (d : Int) < 64 := by have := hN.out; simp [T.idx] at hd; omega
        by_cases hgt : k < key
        · have hsk2 := hid (show seekC on key r (.right i k l C) = seekC on key t .top by rw [← hsk.out]; simp [seekC, ← hbo'.out, hgt])
          go_wp2
          go_quiet (fail)
          go_wp2
          go_step3
          refine ⟨rfl, ⟨.right i k l C, r, d + 1, ⟨_, _, _, _, _, _, _, _, _, _, _, _, _, _, _, _, _, _, _, _, _, _, _, _, _, _, _, _, _, _, _, _, _, _, _, _, _, _, _, _, _, _, _, _, _, _, by simp only [linkCell, Ctx.link]; rfl⟩, hb2'.out.trans (bdrawN (Below.refl _ _) _ |>.mono hb2'.out.size), hsk2.out, hfu'.out, by simp [T.idx] at hd; omega⟩, ?_⟩
          simp [intOf, T.idx] at hd ⊢
          omega
        · have hsk2 := hid (show seekC on key l (.left i k r C) = seekC on key t .top by rw [← hsk.out]; simp [seekC, ← hbo'.out, hgt])
          go_wp2
          go_quiet (fail)
          go_wp2
          go_step3
          refine ⟨rfl, ⟨.left i k r C, l, d + 1, ⟨_, _, _, _, _, _, _, _, _, _, _, _, _, _, _, _, _, _, _, _, _, _, _, _, _, _, _, _, _, _, _, _, _, _, _, _, _, _, _, _, _, _, _, _, _, _, by simp only [linkCell, Ctx.link]; rfl⟩, hb2'.out.trans (bdrawN (Below.refl _ _) _ |>.mono hb2'.out.size), hsk2.out, hfu'.out, by simp [T.idx] at hd; omega⟩, ?_⟩
          simp [intOf, T.idx] at hd ⊢
          omega
end Go.Proofs.Ytbbkgibopicaeaa
