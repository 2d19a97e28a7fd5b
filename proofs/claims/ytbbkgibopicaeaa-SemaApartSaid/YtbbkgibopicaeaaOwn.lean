/- Rows that a call makes itself: what it has appended so far; the laws on append in these words. Over whatever program. -/
import Derived.Test.YtbbkgibopicaeaaBase
import Derived.Laws.AppendOwnNone
import Derived.ArgAppend
namespace Go.Proofs.Ytbbkgibopicaeaa
set_option linter.unusedVariables false
set_option linter.unusedSimpArgs false
open Go.RowKit

theorem bdrawN {B : Nat} {a w : World} (h : Below B a w) (n : Nat) : Below B a (w.drewN n) := h.trans ⟨rfl, rfl, rfl, Nat.le_refl _, fun _ _ => rfl⟩

/-- A world in which memory has only grown. -/
structure Bel (W : World) where
  w : World
  h : Below W.heap.size W w

instance (W : World) : Nonempty (Bel W) := ⟨⟨W, Below.refl _ _⟩⟩

theorem Bel.cell {W : World} {a : Addr} {v : Value} (h : W.cell? a = some v) : ∀ u : Bel W, u.w.cell? a = some v :=
  fun u => (u.h.cell (World.block_lt_of_cell? W a h)).trans h

/-- A region that draws its order, whose operations read, and whose callees only make memory. -/
theorem wp_region_bel {P : Program} {id : Nat} {Q : Exit → Act → World → Prop} {a : Act} {w : World} {l : List Oper} (hm : P.follows .mixedOrders = true) (hB : Region.lexB .any l.toArray = true)
    (h : wpQuiet P l.toArray (fun w' => ∃ u : Bel w, w' = u.w) (fun a' => ∀ w', (∃ u : Bel w, w' = u.w) → Q .normal a' w') l a) : (Code.region id l.toArray true).wp P Q a w :=
  wp_region_quiet (C := fun w' => ∃ u : Bel w, w' = u.w) hm hB ⟨⟨_, (Below.refl _ w).drew⟩, rfl⟩ (by simpa using h)

theorem Calls.bel {P : Program} {f : FuncId} {args : Array Value} {W : World} {u : Bel W} {v : Value} (h : Calls P f args u.w fun e w' => e = .returned v ∧ Below u.w.heap.size u.w w') :
    Calls P f args u.w fun e w'' => e = .returned v ∧ ∃ u' : Bel W, w'' = u'.w :=
  h.mono fun _ w' ⟨he, hb⟩ => ⟨he, ⟨⟨w', u.h.trans (hb.mono u.h.size)⟩, rfl⟩⟩

theorem Calls.bel_same {P : Program} {f : FuncId} {args : Array Value} {W : World} {u : Bel W} {v : Value} (h : Calls P f args u.w fun e w' => e = .returned v ∧ u.w = w') :
    Calls P f args u.w fun e w'' => e = .returned v ∧ ∃ u' : Bel W, w'' = u'.w :=
  h.mono fun _ w' ⟨he, hb⟩ => ⟨he, ⟨u, hb.symm⟩⟩

theorem wp_name {P : Program} {c : Code} {Q : Exit → Act → World → Prop} {a : Act} {w : World} (h : ∀ W, W = w → c.wp P Q a W) : c.wp P Q a w := h w rfl

theorem calls_name {P : Program} {f : FuncId} {args : Array Value} {w : World} {R : Ending → World → Prop} (h : ∀ W, W = w → Calls P f args W R) : Calls P f args w R := h w rfl

theorem wp_name_post {P : Program} {fn : Func} {R : Ending → World → Prop} {e : Exit} {a : Act} {w : World} (h : ∀ W, W = w → bodyPost P fn R e a W) : bodyPost P fn R e a w := h w rfl

theorem Row.bel {α : Type} {E : En α} {W : World} {v : Value} {l : List α} (h : Row E W W.heap.size v l) : ∀ u : Bel W, Row E u.w u.w.heap.size v l := fun u => h.keep u.h u.h.size

/-- A block of a variable: what its cells hold; none is frozen. -/
def Box (w : World) (b : Nat) (cs : Array Value) (t : TypeId) : Prop := w.heap[b]? = some (.cells cs t (0, 0))
theorem Box.new (w : World) (cs : Array Value) (t : TypeId) : Box (w.alloc (.cells cs t)) w.heap.size cs t := heap_alloc_new w _
theorem boxAt (w : World) (b : Nat) (hb : b = w.heap.size) (cs : Array Value) (t : TypeId) : Box (w.alloc (.cells cs t)) b cs t := by subst hb; exact Box.new w cs t
theorem Box.lt {w : World} {b : Nat} {cs : Array Value} {t : TypeId} (h : Box w b cs t) : b < w.heap.size := (Array.getElem?_eq_some_iff.1 h).1
theorem Box.cell {w : World} {b : Nat} {cs : Array Value} {t : TypeId} (h : Box w b cs t) (j : Nat) (v : Value) (hv : cs[j]? = some v) : w.cell? ⟨b, j, none⟩ = some v := by
  rw [cell_of_row w b j cs t (0, 0) h]; exact hv
theorem Box.frozen {w : World} {b : Nat} {cs : Array Value} {t : TypeId} (h : Box w b cs t) (j : Nat) : w.frozen? ⟨b, j, none⟩ = false := frozen_of_row w b j cs t h
theorem Box.keep {w w' : World} {B b : Nat} {cs : Array Value} {t : TypeId} (h : Box w b cs t) (hb : Below B w w') (hB : b < B) : Box w' b cs t := (hb.block b hB).trans h
theorem Box.alloc {w : World} {b : Nat} {cs : Array Value} {t : TypeId} (h : Box w b cs t) (o : Obj) : Box (w.alloc o) b cs t := h.keep ((Below.refl w.heap.size w).alloc (Nat.le_refl _) o) h.lt
theorem Box.drew {w : World} {b : Nat} {cs : Array Value} {t : TypeId} (h : Box w b cs t) : Box w.drew b cs t := h
theorem Box.drewN {w : World} {b : Nat} {cs : Array Value} {t : TypeId} (h : Box w b cs t) (n : Nat) : Box (w.drewN n) b cs t := h
theorem Box.set {w : World} {b : Nat} {cs : Array Value} {t : TypeId} (h : Box w b cs t) (j : Nat) (v : Value) : Box (w.setCell ⟨b, j, none⟩ v) b (cs.setIfInBounds j v) t := by
  unfold Box at *
  simp [World.setCell, Array.getElem?_modify, h]
theorem Box.setOther {w : World} {b : Nat} {cs : Array Value} {t : TypeId} (h : Box w b cs t) {a : Addr} (ha : b ≠ a.block) (v : Value) : Box (w.setCell a v) b cs t :=
  (Below.heap_setCell w a v b ha).trans h

/-- But for some blocks all that was there is as it was. -/
structure But (S : Nat → Prop) (w w' : World) : Prop where
  os : w'.os = w.os
  tape : w'.tape = w.tape
  output : w'.output = w.output
  size : w.heap.size ≤ w'.heap.size
  block : ∀ k, k < w.heap.size → ¬ S k → w'.heap[k]? = w.heap[k]?
theorem But.refl (S : Nat → Prop) (w : World) : But S w w := ⟨rfl, rfl, rfl, Nat.le_refl _, fun _ _ _ => rfl⟩
theorem But.trans {S : Nat → Prop} {a b c : World} (h : But S a b) (k : But S b c) : But S a c :=
  ⟨k.os.trans h.os, k.tape.trans h.tape, k.output.trans h.output, Nat.le_trans h.size k.size, fun i hi hs => (k.block i (Nat.lt_of_lt_of_le hi h.size) hs).trans (h.block i hi hs)⟩
theorem But.of_below {S : Nat → Prop} {a b c : World} (h : But S a b) (k : Below a.heap.size b c) : But S a c :=
  ⟨k.os.trans h.os, k.tape.trans h.tape, k.output.trans h.output, Nat.le_trans h.size k.size, fun i hi hs => (k.block i hi).trans (h.block i hi hs)⟩
theorem But.alloc {S : Nat → Prop} {a b : World} (h : But S a b) (o : Obj) : But S a (b.alloc o) := h.of_below ((Below.refl _ _).alloc h.size o)
theorem But.drew {S : Nat → Prop} {a b : World} (h : But S a b) : But S a b.drew := h.of_below (Below.refl _ _).drew
theorem But.set {S : Nat → Prop} {a b : World} (h : But S a b) {p : Addr} (hp : S p.block) (v : Value) : But S a (b.setCell p v) :=
  ⟨h.os, h.tape, h.output, Nat.le_trans h.size (by simp [World.setCell]), fun i hi hs => (Below.heap_setCell b p v i (fun e => hs (e ▸ hp))).trans (h.block i hi hs)⟩
theorem But.setNew {S : Nat → Prop} {a b : World} (h : But S a b) {p : Addr} (hp : a.heap.size ≤ p.block) (v : Value) : But S a (b.setCell p v) :=
  h.of_below ((Below.refl _ _).setCell hp v)
theorem But.below {S : Nat → Prop} {w w' : World} {B : Nat} (h : But S w w') (hB : B ≤ w.heap.size) (hS : ∀ k, k < B → ¬ S k) : Below B w w' :=
  ⟨h.os, h.tape, h.output, h.size, fun k hk => h.block k (by omega) (hS k hk)⟩
theorem But.box {S : Nat → Prop} {w w' : World} {b : Nat} {cs : Array Value} {t : TypeId} (h : But S w w') (hb : Box w b cs t) (hS : ¬ S b) : Box w' b cs t := (h.block b hb.lt hS).trans hb

theorem flat_get {k : Nat} : ∀ (css : List (List Value)), (∀ cs ∈ css, cs.length = k) → ∀ i j, j < k → css.flatten[i * k + j]? = (css[i]?).bind (fun cs => cs[j]?)
  | [], _, i, j, _ => by simp
  | cs :: css, h, 0, j, hj => by
    have hc := h cs (by simp)
    simp only [List.flatten_cons, Nat.zero_mul, Nat.zero_add, List.getElem?_cons_zero, Option.bind_some]
    rw [List.getElem?_append_left (by omega)]
  | cs :: css, h, i + 1, j, hj => by
    have hc := h cs (by simp)
    have e : (i + 1) * k + j = cs.length + (i * k + j) := by rw [Nat.succ_mul, hc]; omega
    rw [List.flatten_cons, e, List.getElem?_append_right (by omega), Nat.add_sub_cancel_left, flat_get css (fun c hc => h c (by simp [hc])) i j hj]
    simp

theorem flat_len {k : Nat} : ∀ (css : List (List Value)), (∀ cs ∈ css, cs.length = k) → css.flatten.length = css.length * k
  | [], _ => by simp
  | cs :: css, h => by
    rw [List.flatten_cons, List.length_append, h cs (by simp), flat_len css (fun c hc => h c (by simp [hc])), List.length_cons, Nat.succ_mul, Nat.add_comm]

/-- The call's own slice value v tells l. -/
def Own {α : Type} (E : En α) (e : TypeId) (w : World) (base : Nat) (v : Value) (l : List α) : Prop :=
  ∃ css : List (List Value), css.length = l.length ∧ (∀ (i : Nat) x cs, l[i]? = some x → css[i]? = some cs → E.ok w base x cs) ∧ w.ownsRow base e E.k v l.length css.flatten

theorem ok_of_all {α : Type} {E : En α} {w : World} {B : Nat} {l : List α} {css : List (List Value)} (hl : css.length = l.length) (h : ∀ (i : Nat) x cs, l[i]? = some x → css[i]? = some cs → E.ok w B x cs) :
    ∀ cs ∈ css, cs.length = E.k ∧ ∀ u ∈ cs, u.oneCell' = true := by
  intro cs hc
  obtain ⟨i, hi, e⟩ := List.getElem_of_mem hc
  have := h i (l[i]'(by omega)) cs (by simp [hl ▸ hi]) (by rw [List.getElem?_eq_getElem hi, e])
  exact ⟨E.len this, E.one this⟩

theorem Own.nil {α : Type} (E : En α) (e : TypeId) (w : World) (base : Nat) : Own E e w base (.slice none 0 0) [] :=
  ⟨[], rfl, fun i x cs h _ => by simp at h, World.ownsRow_nil _ _ _ _⟩

theorem Own.empty {α : Type} (E : En α) (e : TypeId) (w : World) (base : Nat) (hb : base ≤ w.heap.size) : Own E e (w.alloc (.cells #[] e)) base (.slice (some ⟨w.heap.size, 0, none⟩) 0 0) [] :=
  ⟨[], rfl, fun i x cs h _ => by simp at h, World.ownsRow_made w #[] 0 hb (Nat.zero_le _) (by simp)⟩

theorem Own.emptyAt {α : Type} (E : En α) (e : TypeId) (w : World) (base b : Nat) (hb : base ≤ w.heap.size) (hbb : b = w.heap.size) : Own E e (w.alloc (.cells #[] e)) base (.slice (some ⟨b, 0, none⟩) 0 0) [] := by
  subst hbb; exact Own.empty E e w base hb

theorem Own.shape {α : Type} {E : En α} {e : TypeId} {w : World} {base : Nat} {v : Value} {l : List α} (h : Own E e w base v l) : ∃ A c, v = .slice A l.length c ∧ l.length ≤ c ∧ c ≤ maxLen := by
  obtain ⟨css, h1, h2, h3⟩ := h
  rcases h3.2 with ⟨rfl, e0⟩ | ⟨g, cap, cur, rfl, hb, hg, hn, hm, _⟩
  · exact ⟨none, 0, by rw [e0], by omega, Nat.zero_le _⟩
  · exact ⟨_, _, rfl, hn, hm⟩

theorem Own.lt {α : Type} {E : En α} {e : TypeId} {w : World} {base : Nat} {v : Value} {l : List α} (h : Own E e w base v l) : ∀ g, v.ownBlock = some g → base ≤ g ∧ g < w.heap.size := by
  obtain ⟨css, h1, h2, h3⟩ := h
  exact h3.lt

theorem Own.keep {α : Type} {E : En α} {e : TypeId} {w w' : World} {base : Nat} {v : Value} {l : List α} {row : Option Nat} (h : Own E e w base v l) (hb : Below base w w') (hg : w.grownBy w' row) (hne : v.ownBlock = none ∨ v.ownBlock ≠ row) : Own E e w' base v l := by
  obtain ⟨css, h1, h2, h3⟩ := h
  exact ⟨css, h1, fun i x cs hx hc => E.keep (h2 i x cs hx hc) hb (Nat.le_refl _), h3.kept hg hne⟩

theorem flat_take {k : Nat} : ∀ (css : List (List Value)) (m : Nat), (∀ cs ∈ css, cs.length = k) → (css.take m).flatten = css.flatten.take (m * k)
  | [], m, _ => by simp
  | cs :: css, 0, _ => by simp
  | cs :: css, m + 1, h => by
    have hc := h cs (by simp)
    rw [List.take_succ_cons, List.flatten_cons, List.flatten_cons, flat_take css m (fun c hc => h c (by simp [hc])), List.take_append, hc, Nat.succ_mul, Nat.add_sub_cancel, List.take_of_length_le (l := cs) (by omega)]

theorem Own.take {α : Type} {E : En α} {e : TypeId} {w : World} {base : Nat} {A : Option Addr} {n c : Nat} {l : List α} (h : Own E e w base (.slice A n c) l) (k : Nat) (hk : k ≤ l.length) : Own E e w base (.slice A k c) (l.take k) := by
  obtain ⟨css, h1, h2, h3⟩ := h
  have hall := ok_of_all h1 h2
  have hlen : (l.take k).length = k := by rw [List.length_take]; omega
  refine ⟨css.take k, by rw [List.length_take, List.length_take, h1], fun i x cs hx hc => ?_, ?_, ?_⟩
  · rw [List.getElem?_take] at hx hc
    split at hx
    · rename_i hik
      rw [if_pos hik] at hc
      exact h2 i x cs hx hc
    · cases hx
  · rw [hlen, flat_len _ (fun c hc => (hall c (List.mem_of_mem_take hc)).1), List.length_take, Nat.min_eq_left (by omega)]
  · rw [hlen]
    rcases h3.2 with ⟨e1, e0⟩ | ⟨g, cap, cur, e1, hb, hg, hn, hm, hc, htake⟩
    · injection e1 with a1 a2 a3
      subst a1 a3
      have : k = 0 := by omega
      subst this
      exact .inl ⟨rfl, rfl⟩
    · injection e1 with a1 a2 a3
      subst a1 a3
      refine .inr ⟨g, c, cur, rfl, hb, hg, by omega, hm, hc, ?_⟩
      rw [flat_take _ _ (fun c hc => (hall c hc).1), ← htake, List.take_take, Nat.min_eq_left (Nat.mul_le_mul_right _ hk)]

theorem Own.grown {α : Type} {E : En α} {e : TypeId} {w w' : World} {base : Nat} {v : Value} {l : List α} (h : Own E e w base v l) (hb : Below w.heap.size w w') (hs : base ≤ w.heap.size) : Own E e w' base v l :=
  h.keep (hb.mono hs) (row := none) ⟨hb.os, hb.tape, hb.output, hb.size, fun k hk _ => hb.block k hk⟩ (by cases v.ownBlock <;> simp)

theorem Own.but {α : Type} {E : En α} {e : TypeId} {w w' : World} {base : Nat} {v : Value} {l : List α} {S : Nat → Prop} (h : Own E e w base v l) (hb : But S w w') (hS : ∀ k, S k → k < base) (hE : ∀ w w' B x cs, E.ok w B x cs → E.ok w' B x cs) : Own E e w' base v l := by
  obtain ⟨css, h1, h2, h3, h4⟩ := h
  refine ⟨css, h1, fun i x cs hx hc => hE _ _ _ _ _ (h2 i x cs hx hc), h3, ?_⟩
  rcases h4 with h4 | ⟨g, cap, cur, rfl, hbg, hg, rest⟩
  · exact .inl h4
  · refine .inr ⟨g, cap, cur, rfl, hbg, ?_, rest⟩
    rw [hb.block g (Array.getElem?_eq_some_iff.1 hg).1 (fun h => by have := hS g h; omega)]
    exact hg

theorem Own.alloc {α : Type} {E : En α} {e : TypeId} {w : World} {base : Nat} {v : Value} {l : List α} (h : Own E e w base v l) (hs : base ≤ w.heap.size) (o : Obj) : Own E e (w.alloc o) base v l :=
  h.grown ((Below.refl _ _).alloc (Nat.le_refl _) _) hs

theorem Own.drew {α : Type} {E : En α} {e : TypeId} {w : World} {base : Nat} {v : Value} {l : List α} (h : Own E e w base v l) (hs : base ≤ w.heap.size) : Own E e w.drew base v l :=
  h.grown (Below.refl _ _).drew hs

/-- A store below the base leaves what is owned, where the elements tell no more than numbers. -/
theorem Own.row {α : Type} {E : En α} {e : TypeId} {w : World} {base : Nat} {v : Value} {l : List α} (h : Own E e w base v l) (hs : base ≤ w.heap.size) : Row E w w.heap.size v l := by
  obtain ⟨css, h1, h2, h3⟩ := h
  have hall := ok_of_all h1 h2
  rcases h3.2 with ⟨rfl, e0⟩ | ⟨g, cap, cur, rfl, hb, hg, hn, hm, hc, htake⟩
  · refine ⟨none, 0, by rw [e0], by omega, Nat.zero_le _, fun _ => rfl, fun i x hx => ?_⟩
    have : i < l.length := (List.getElem?_eq_some_iff.1 hx).1
    omega
  · refine ⟨_, cap, rfl, hn, hm, (fun h => by cases h), fun i x hx => ?_⟩
    have hi : i < l.length := (List.getElem?_eq_some_iff.1 hx).1
    have hcs : css[i]? = some (css[i]'(by omega)) := List.getElem?_eq_getElem (by omega)
    have hok := h2 i x _ hx hcs
    refine ⟨g, 0, _, rfl, (Array.getElem?_eq_some_iff.1 hg).1, E.keep hok (Below.refl _ _) hs, fun j u hu => ?_⟩
    have hj : j < E.k := by rw [← E.len hok]; exact (List.getElem?_eq_some_iff.1 hu).1
    have hlt : i * E.k + j < l.length * E.k := by
      have : (i + 1) * E.k ≤ l.length * E.k := Nat.mul_le_mul_right _ hi
      rw [Nat.succ_mul] at this; omega
    rw [Nat.zero_add, h3.cellAt _ hlt, flat_get css (fun c hc => (hall c hc).1) i j hj, hcs]
    exact hu

/-- What a row tells, as cells: for a law on append. -/
theorem Row.cells {α : Type} {E : En α} {w : World} {B n c : Nat} {A : Option Addr} {l : List α} (h : Row E w B (.slice A n c) l) :
    n = l.length ∧ (A = none → l = [] ∧ c = 0) ∧ ∃ css : List (List Value), css.length = l.length ∧ (∀ (i : Nat) x cs, l[i]? = some x → css[i]? = some cs → E.ok w B x cs) ∧
      ∀ ad, A = some ad → ∀ j u, css.flatten[j]? = some u → w.cell? (ad.add j) = some u := by
  obtain ⟨A', c', h1, h2, h3, h4, h5⟩ := h
  injection h1 with e1 e2 e3
  subst e1 e2 e3
  refine ⟨rfl, fun e => ?_, ?_⟩
  · have := h4 e
    exact ⟨List.eq_nil_of_length_eq_zero (by omega), this⟩
  · have hex : ∀ i : Fin l.length, ∃ cs, E.ok w B l[i] cs ∧ ∀ ad, A = some ad → ∀ j u, cs[j]? = some u → w.cell? (ad.add (i * E.k + j)) = some u := by
      intro i
      obtain ⟨b, o, cs, e, _, g3, g4⟩ := h5 i l[i] (by simp)
      refine ⟨cs, g3, fun ad had j u hu => ?_⟩
      rw [e] at had
      obtain rfl := Option.some.inj had
      rw [Addr.add_lit, ← Nat.add_assoc]
      exact g4 j u hu
    obtain ⟨f, hf⟩ := Classical.axiomOfChoice hex
    refine ⟨List.ofFn f, by simp, fun i x cs hx hc => ?_, fun ad had j u hu => ?_⟩
    · have hi : i < l.length := (List.getElem?_eq_some_iff.1 hx).1
      simp only [List.getElem?_ofFn, hi, dite_true, Option.some.injEq] at hc
      subst hc
      have := (hf ⟨i, hi⟩).1
      simp only [Fin.getElem_fin] at this
      rw [List.getElem?_eq_getElem hi] at hx
      obtain rfl := Option.some.inj hx
      exact this
    · have hall : ∀ cs ∈ List.ofFn f, cs.length = E.k := by
        intro cs hc
        rw [List.mem_ofFn] at hc
        obtain ⟨i, rfl⟩ := hc
        exact E.len (hf i).1
      by_cases hk : E.k = 0
      · have : (List.ofFn f).flatten.length = 0 := by rw [flat_len _ hall, hk, Nat.mul_zero]
        have := (List.getElem?_eq_some_iff.1 hu).1
        omega
      · have hkp : 0 < E.k := by omega
        have hj := Nat.div_add_mod j E.k
        have hjm := Nat.mod_lt j hkp
        have e : j = j / E.k * E.k + j % E.k := by rw [Nat.mul_comm]; exact hj.symm
        rw [e, flat_get _ hall _ _ hjm] at hu
        by_cases hi : j / E.k < l.length
        · simp only [List.getElem?_ofFn, hi, dite_true, Option.bind_some] at hu
          have := (hf ⟨j / E.k, hi⟩).2 ad had _ u hu
          simp only at this
          rw [← e] at this
          exact this
        · simp only [List.getElem?_ofFn, hi, dite_false, Option.bind_none] at hu
          cases hu

theorem Row.take {α : Type} {E : En α} {w : World} {B n c : Nat} {A : Option Addr} {l : List α} (h : Row E w B (.slice A n c) l) (k : Nat) (hk : k ≤ l.length) : Row E w B (.slice A k c) (l.take k) := by
  obtain ⟨A', c', h1, h2, h3, h4, h5⟩ := h
  injection h1 with e1 e2 e3
  subst e1 e2 e3
  refine ⟨A, c, by rw [List.length_take, Nat.min_eq_left hk], by rw [List.length_take]; omega, h3, h4, fun i x hx => h5 i x ?_⟩
  rw [List.getElem?_take] at hx
  split at hx
  · exact hx
  · cases hx

/-- 's[k:]': its address is as it was where nothing is left of the array. -/
theorem Row.drop {α : Type} {E : En α} {w : World} {B n c : Nat} {A A' : Option Addr} {l : List α} (h : Row E w B (.slice A n c) l) (k : Nat) (hk : k ≤ l.length)
    (hA : k < c → ∀ b o, A = some ⟨b, o, none⟩ → A' = some ⟨b, o + k * E.k, none⟩) (hA' : A' = none → A = none) (n' c' : Nat) (hn : n' = n - k) (hc : c' = c - k) : Row E w B (.slice A' n' c') (l.drop k) := by
  subst hn hc
  obtain ⟨A0, c0, h1, h2, h3, h4, h5⟩ := h
  injection h1 with e1 e2 e3
  subst e1 e2 e3
  refine ⟨A', c - k, by rw [List.length_drop], by rw [List.length_drop]; omega, by omega, fun e => by have := h4 (hA' e); omega, fun i x hx => ?_⟩
  rw [List.getElem?_drop] at hx
  obtain ⟨b, o, cs, g1, g2, g3, g4⟩ := h5 (k + i) x hx
  have hi := (List.getElem?_eq_some_iff.1 hx).1
  refine ⟨b, o + k * E.k, cs, hA (by omega) b o g1, g2, g3, fun j u hu => ?_⟩
  have := g4 j u hu
  rw [Nat.add_mul, ← Nat.add_assoc] at this
  exact this

theorem cell_one (w : World) (u : Value) (t : TypeId) : ∀ (j : Nat) (x : Value), [u][j]? = some x → (w.alloc (.cells #[u] t)).cell? ((⟨w.heap.size, 0, none⟩ : Addr).add j) = some x := by
  intro j x hj
  match j, hj with
  | 0, hj => simp at hj; subst hj; simp [Addr.add]

theorem cell_new (w : World) (b : Nat) (hb : b = w.heap.size) (arr : Array Value) (t : TypeId) : ∀ (j : Nat) (x : Value), arr.toList[j]? = some x → (w.alloc (.cells arr t)).cell? ((⟨b, 0, none⟩ : Addr).add j) = some x := by
  intro j x hj
  subst hb
  rw [Addr.add_lit, Nat.zero_add]
  exact (Box.new w arr t).cell j x (by simpa using hj)

section
variable {P : Program} {w : World} {ops : Array Oper} {rest : List Oper} {o : Oper} {a : Act} {Q : Exit → Act → World → Prop}

theorem ownsRow_slice {w : World} {base : Nat} {e : TypeId} {size : Nat} {v : Value} {n : Nat} {xs : List Value} (h : w.ownsRow base e size v n xs) : ∃ A c, v = .slice A n c ∧ n ≤ c ∧ c ≤ maxLen := by
  rcases h.2 with ⟨rfl, rfl⟩ | ⟨g, cap, cur, rfl, _, _, h1, h2, _⟩
  · exact ⟨_, _, rfl, Nat.zero_le _, Nat.zero_le _⟩
  · exact ⟨_, _, rfl, h1, h2⟩

theorem below_grown {w w' : World} {base : Nat} {e : TypeId} {size : Nat} {v : Value} {n : Nat} {xs : List Value} (h : w.ownsRow base e size v n xs) (hg : w.grownBy w' v.ownBlock) (hs : base ≤ w.heap.size) : Below base w w' :=
  (Below.refl base w).grown hg hs (fun k hk => (h.lt k hk).1)

/-- 'append(out, x)', x laid in a block of its own just ahead. -/
theorem wpList_app1' {α : Type} (E : En α) (t e : TypeId) (z : Value) (bytes : Nat) (ht : P.underlying t = some (.slice e)) (hinfo : (P.info? e).map (fun i => (i.zero, i.size, i.bytes)) = some (some z, E.k, bytes)) (hz : z.cells.size = E.k) (hk : 0 < E.k)
    (s y : Operand) (base : Nat) (l : List α) (x : α) (l' : List α) (n' : Nat) (hl' : l ++ [x] = l') (hn' : l.length + 1 = n') (v : Value) (hown : Own E e w base v l) (hs : a.eval s = v) (ad : Addr) (c : Nat) (hy : a.eval y = .slice (some ad) 1 c)
    (cs : List Value) (hok : E.ok w base x cs) (hcs : ∀ j u, cs[j]? = some u → w.cell? (ad.add j) = some u)
    (hg : o.guard = none) (ho : o.op = .call { callee := .builtin .append, args := #[s, y], argTypes := #[t, t] })
    (hb : (l.length + 1) * bytes ≤ 140737488355328) (hm : l.length + 1 ≤ 9223372036854775807) (hbase : base ≤ w.heap.size)
    (h : ∀ A c w', Own E e w' base (.slice A n' c) l' → Below base w w' → n' ≤ c → c ≤ 9223372036854775807 → (∀ b, b < w.heap.size → v.ownBlock ≠ some b → w'.heap[b]? = w.heap[b]?) → wpList P ops Q rest (a.put o.dst (.slice A n' c)) w') :
    wpList P ops Q (o :: rest) a w := by
  subst hl' hn'
  obtain ⟨i, hi, i1, i2, i3⟩ := info_parts hinfo
  obtain ⟨css, h1, h2, h3⟩ := hown
  refine wpList_append_own w hg s y t ho base e i z E.k bytes ht hi i1 i2 i3 hz hk v l.length css.flatten hs h3 ad 1 c cs hy (by rw [E.len hok, Nat.one_mul]) hcs (E.one hok) hm hb hbase ?_
  intro v' w' r1 r2 _
  have hb' := below_grown h3 r2 hbase
  obtain ⟨A, c', rfl, hc1, hc2⟩ := ownsRow_slice r1
  refine h A c' w' ⟨css ++ [cs], by simp [h1], fun j y cs' hy hc => ?_, ?_⟩ hb' hc1 hc2 (fun b hb1 hb2 => r2.block b hb1 (fun e => hb2 e.symm))
  · by_cases hj : j < l.length
    · rw [List.getElem?_append_left hj] at hy
      rw [List.getElem?_append_left (by omega)] at hc
      exact E.keep (h2 j y cs' hy hc) hb' (Nat.le_refl _)
    · have hjl := (List.getElem?_eq_some_iff.1 hy).1
      rw [List.length_append, List.length_singleton] at hjl
      obtain rfl : j = l.length := by omega
      rw [List.getElem?_append_right (Nat.le_refl _), Nat.sub_self] at hy
      rw [List.getElem?_append_right (by omega), h1, Nat.sub_self] at hc
      simp at hy hc
      subst hy hc
      exact E.keep hok hb' (Nat.le_refl _)
  · rw [List.length_append, List.length_singleton, List.flatten_append]
    simpa using r1

/-- 'append(out, x)', x laid in a block of its own just ahead. -/
theorem wpList_app1 {α : Type} (E : En α) (t e : TypeId) (z : Value) (bytes : Nat) (ht : P.underlying t = some (.slice e)) (hinfo : (P.info? e).map (fun i => (i.zero, i.size, i.bytes)) = some (some z, E.k, bytes)) (hz : z.cells.size = E.k) (hk : 0 < E.k)
    (s y : Operand) (base : Nat) (l : List α) (x : α) (l' : List α) (n' : Nat) (hl' : l ++ [x] = l') (hn' : l.length + 1 = n') (v : Value) (hown : Own E e w base v l) (hs : a.eval s = v) (ad : Addr) (c : Nat) (hy : a.eval y = .slice (some ad) 1 c)
    (cs : List Value) (hok : E.ok w base x cs) (hcs : ∀ j u, cs[j]? = some u → w.cell? (ad.add j) = some u)
    (hg : o.guard = none) (ho : o.op = .call { callee := .builtin .append, args := #[s, y], argTypes := #[t, t] })
    (hb : (l.length + 1) * bytes ≤ 140737488355328) (hm : l.length + 1 ≤ 9223372036854775807) (hbase : base ≤ w.heap.size)
    (h : ∀ A c w', Own E e w' base (.slice A n' c) l' → Below base w w' → n' ≤ c → c ≤ 9223372036854775807 → wpList P ops Q rest (a.put o.dst (.slice A n' c)) w') :
    wpList P ops Q (o :: rest) a w := by
  exact wpList_app1' E t e z bytes ht hinfo hz hk s y base l x l' n' hl' hn' v hown hs ad c hy cs hok hcs hg ho hb hm hbase fun A c w' h1 h2 h3 h4 _ => h A c w' h1 h2 h3 h4

/-- 'append(out, xs...)', xs whatever row. -/
theorem wpList_appn {α : Type} (E : En α) (t e : TypeId) (z : Value) (bytes : Nat) (ht : P.underlying t = some (.slice e)) (hinfo : (P.info? e).map (fun i => (i.zero, i.size, i.bytes)) = some (some z, E.k, bytes)) (hz : z.cells.size = E.k) (hk : 0 < E.k)
    (s y : Operand) (base : Nat) (l xs : List α) (l' : List α) (n' : Nat) (hl' : l ++ xs = l') (hn' : l.length + xs.length = n') (v : Value) (hown : Own E e w base v l) (hs : a.eval s = v) (u : Value) (hrow : Row E w base u xs) (hy : a.eval y = u)
    (hg : o.guard = none) (ho : o.op = .call { callee := .builtin .append, args := #[s, y], argTypes := #[t, t] })
    (hb : (l.length + xs.length) * bytes ≤ 140737488355328) (hm : l.length + xs.length ≤ 9223372036854775807) (hbase : base ≤ w.heap.size)
    (h : ∀ A c w', Own E e w' base (.slice A n' c) l' → Below base w w' → n' ≤ c → c ≤ 9223372036854775807 → wpList P ops Q rest (a.put o.dst (.slice A n' c)) w') :
    wpList P ops Q (o :: rest) a w := by
  subst hl' hn'
  obtain ⟨i, hi, i1, i2, i3⟩ := info_parts hinfo
  obtain ⟨A0, c0, rfl, _, _⟩ := hrow.open
  obtain ⟨_, hnone, csx, k1, k2, k3⟩ := hrow.cells
  cases A0 with
  | none =>
    obtain ⟨rfl, rfl⟩ := hnone rfl
    obtain ⟨A, c', rfl, hc1, hc2⟩ := hown.shape
    have hown0 := hown
    obtain ⟨css, h1, h2, h3⟩ := hown
    refine wpList_append_own_none hg s y t ho base e i E.k ht (by rw [hi]) _ l.length css.flatten hs (by simpa [i2] using h3) (by simpa using hy) ?_
    have := h A c' w (by simpa using hown0) (Below.refl _ _) (by simpa using hc1) hc2
    simpa using this
  | some ad =>
    obtain ⟨css, h1, h2, h3⟩ := hown
    have hall := ok_of_all k1 k2
    have hlen : csx.flatten.length = xs.length * E.k := by rw [flat_len _ (fun c hc => (hall c hc).1), k1]
    refine wpList_append_own w hg s y t ho base e i z E.k bytes ht hi i1 i2 i3 hz hk v l.length css.flatten hs h3 ad xs.length c0 csx.flatten hy hlen (k3 ad rfl) ?_ hm hb hbase ?_
    · intro u hu
      obtain ⟨c, hc, huc⟩ := List.mem_flatten.1 hu
      exact (hall c hc).2 u huc
    intro v' w' r1 r2 _
    have hb' := below_grown h3 r2 hbase
    obtain ⟨A, c', rfl, hc1, hc2⟩ := ownsRow_slice r1
    refine h A c' w' ⟨css ++ csx, by simp [h1, k1], fun j y cs' hy hc => ?_, ?_⟩ hb' hc1 hc2
    · by_cases hj : j < l.length
      · rw [List.getElem?_append_left hj] at hy
        rw [List.getElem?_append_left (by omega)] at hc
        exact E.keep (h2 j y cs' hy hc) hb' (Nat.le_refl _)
      · rw [List.getElem?_append_right (by omega)] at hy
        rw [List.getElem?_append_right (by omega), h1] at hc
        exact E.keep (k2 _ y cs' hy hc) hb' (Nat.le_refl _)
    · rw [List.length_append, List.flatten_append]
      exact r1
end
end Go.Proofs.Ytbbkgibopicaeaa
