/- A region that draws its order, whose first operations read and make memory, and whose last ones go in the text's order. Over whatever program. -/
import Derived.Test.YtbbkgibopicaeaaOwn
import Derived.StillTail
import Derived.OrdersHeld
namespace Go.Proofs.Ytbbkgibopicaeaa
set_option linter.unusedVariables false
set_option linter.unusedSimpArgs false
open Go.RowKit

section
variable {P : Program} {ops : Array Oper} {Q : Exit → Act → World → Prop} {md : Region.Mode} {S : World → Prop}

/-- Whatever order the first n come in, S holds behind each; then L. -/
def wpAnyT (P : Program) (md : Region.Mode) (ops : Array Oper) (Q : Exit → Act → World → Prop) (S : World → Prop) (n : Nat) (L : Array Bool → Act → World → Prop) : Nat → Array Bool → Act → World → Prop
  | 0, listed, a, w => L listed a w
  | f + 1, listed, a, w => Region.ready md ops listed ≠ [] ∧ ∀ i ∈ Region.ready md ops listed, i < n ∧ wpOp P ops Q i (fun a' w' => S w' ∧ wpAnyT P md ops Q S n L f (listed.setIfInBounds i true) a' w') a w

theorem wpAny_of_T {n g : Nat} {L : Array Bool → Act → World → Prop} (hL : ∀ listed a w, L listed a w → wpAny P md ops Q g listed a w) :
    ∀ (f : Nat) (listed : Array Bool) (a : Act) (w : World), wpAnyT P md ops Q S n L f listed a w → wpAny P md ops Q (f + g) listed a w
  | 0, listed, a, w, h => by rw [Nat.zero_add]; exact hL _ _ _ h
  | f + 1, listed, a, w, h => by
    rw [show f + 1 + g = (f + g) + 1 by omega]
    exact ⟨fun h0 => absurd h0 h.1, fun i hi => wpOp_mono (fun a' w' h' => wpAny_of_T hL f _ a' w' h'.2) (h.2 i hi).2⟩

theorem wpAnyT_first {n i : Nat} {oi : Oper} {v : Value} {L : Array Bool → Act → World → Prop} (hi : ops[i]? = some oi) (hsel : ∀ (j : Nat) (o : Oper) cs b, ops[j]? = some o → o.op ≠ .select cs b)
    (hQ : ∀ c a w, Q (.panic c) (a.put oi.dst v) w → Q (.panic c) a w)
    (hs : Region.sinkB md ops n = true) (hc : Region.chainB md ops n = true) (hn : n < ops.size) (hin : i < n)
    (hdone : ∀ listed a w, L listed a w → ∀ j ∈ Region.ready md ops listed, n ≤ j) :
    ∀ (f : Nat) (listed : Array Bool) (a : Act) (w : World), HeadInv md ops n listed →
      (∀ j oj, ops[j]? = some oj → j ≠ i → listed.getD j true = false → (∀ e ∈ oj.after, Region.binds md e = true → e.on ≠ i) → oi.apart ops oj = true) →
      i ∈ Region.ready md ops listed → YieldsIf P ops S oi v a → S w →
      wpAnyT P md ops Q S n L f (listed.setIfInBounds i true) (a.put oi.dst v) w → wpAnyT P md ops Q S n L (f + 1) listed a w := by
  intro f
  induction f with
  | zero =>
    intro listed a w inv _ hr hy hS H
    have hun := (mem_ready.1 hr).1
    refine ⟨fun h => (by rw [h] at hr; cases hr), fun j hj => ?_⟩
    have hjn : j < n := by
      rcases Nat.lt_or_ge j n with h | h
      · exact h
      · exact absurd hj (tail_waits hs hc hn inv _ i rfl hin hun j h)
    refine ⟨hjn, ?_⟩
    by_cases hji : j = i
    · subst hji; exact hy.wpOp hi hS ⟨hS, H⟩
    · have := hdone _ _ _ H j (ready_mono hj hji)
      omega
  | succ f ih =>
    intro listed a w inv hfree hr hy hS H
    have hun := (mem_ready.1 hr).1
    refine ⟨fun h => (by rw [h] at hr; cases hr), fun j hj => ?_⟩
    have hjn : j < n := by
      rcases Nat.lt_or_ge j n with h | h
      · exact h
      · exact absurd hj (tail_waits hs hc hn inv _ i rfl hin hun j h)
    refine ⟨hjn, ?_⟩
    by_cases hji : j = i
    · subst hji; exact hy.wpOp hi hS ⟨hS, H⟩
    · have h1 := (H.2 j (ready_mono hj hji)).2
      obtain ⟨hjun, oj, hoj, hall⟩ := mem_ready.1 hj
      have hnot : ∀ e ∈ oj.after, Region.binds md e = true → e.on ≠ i := fun e he hb heq => by
        have h1 := hall e he hb
        rw [heq, getD_both hun] at h1
        cases h1
      have h2 := wpOp_putIf hoj (hfree j oj hoj hji hjun hnot) (fun cs b => hsel i oi cs b hi) (fun cs b => hsel j oj cs b hoj) hQ hy h1
      have hfree' : ∀ k ok, ops[k]? = some ok → k ≠ i → (listed.setIfInBounds j true).getD k true = false →
          (∀ e ∈ ok.after, Region.binds md e = true → e.on ≠ i) → oi.apart ops ok = true := fun k ok hk hki hun hno => by
        refine hfree k ok hk hki ?_ hno
        by_cases hjk : j = k
        · subst hjk; exact hjun
        · rw [getD_set_ne true hjk] at hun; exact hun
      refine wpOp_mono (fun a' w' h3 => ⟨h3.2.1, ih (listed.setIfInBounds j true) a' w' (inv.set hj hjn) hfree' (ready_mono hr (Ne.symm hji)) h3.1 h3.2.1 ?_⟩) h2
      rw [Array.setIfInBounds_comm _ _ hji]
      exact h3.2.2

/-- What the walk stands at. -/
def WT (P : Program) (ops : Array Oper) (Q : Exit → Act → World → Prop) (S : World → Prop) (n f : Nat) (rest : List Oper) (listed : Array Bool) (a : Act) (w : World) : Prop :=
  HeadInv .any ops n listed → S w → wpAnyT P .any ops Q S n (fun listed' a' w' => Region.seqB .any ops rest.length n listed' = true ∧ wpList P ops Q rest a' w') f listed a w

variable {n f : Nat} {rest : List Oper} {listed : Array Bool} {a : Act} {w : World}

theorem WT.take (i : Nat) (oi : Oper) (v : Value) (hi : ops[i]? = some oi) (hin : i < n) (hchk : (Region.noSelect ops && decide (n < ops.size) && Region.sinkB .any ops n && Region.chainB .any ops n) = true)
    (hfr : (Region.free .any ops listed i && (Region.ready .any ops listed).contains i) = true) (hQ : ∀ c a w, Q (.panic c) (a.put oi.dst v) w → Q (.panic c) a w)
    (hy : YieldsIf P ops S oi v a) (h : WT P ops Q S n f rest (listed.setIfInBounds i true) (a.put oi.dst v) w) : WT P ops Q S n (f + 1) rest listed a w := by
  intro inv hS
  simp only [Bool.and_eq_true, decide_eq_true_eq] at hchk hfr
  obtain ⟨⟨⟨h1, h2⟩, h3⟩, h4⟩ := hchk
  have hr : i ∈ Region.ready .any ops listed := by simpa using hfr.2
  exact wpAnyT_first hi (Region.noSelect_spec h1) hQ h3 h4 h2 hin (fun listed' _ _ hL => seqB_ready hL.1) f listed a w inv (Region.free_spec hi hfr.1) hr hy hS (h (inv.set hr hin) hS)

theorem WT.call (i : Nat) (oi : Oper) (fn : FuncId) (args : Array Value) (hi : ops[i]? = some oi) (hin : i < n) (hr : Region.ready .any ops listed = [i]) (hg : oi.guard = none)
    (hrun : (execOp a.eval oi).run P w = .ok (.enter fn args) w)
    (h : Calls P fn args w fun e w' => ∃ v, e = .returned v ∧ S w' ∧ WT P ops Q S n f rest (listed.setIfInBounds i true) (a.put oi.dst v) w') : WT P ops Q S n (f + 1) rest listed a w := by
  intro inv hS
  have hm : i ∈ Region.ready .any ops listed := by rw [hr]; simp
  refine ⟨by rw [hr]; simp, fun j hj => ?_⟩
  rw [hr] at hj
  obtain rfl : j = i := by simpa using hj
  refine ⟨hin, ?_⟩
  unfold wpOp
  simp only [hi]
  have hw : Region.wanted oi (yielded ops a.tmps) = true := by simp [Region.wanted, hg]
  rw [if_pos hw]
  refine Or.inl ?_
  unfold Oper.wp
  rw [hrun, Oper.upon_enter]
  refine h.mono ?_
  rintro e w' ⟨v, rfl, hS', hW⟩
  exact ⟨hS', hW (inv.set hm hin) hS'⟩

theorem WT.done (h1 : Region.seqB .any ops rest.length n listed = true) (h : wpList P ops Q rest a w) : WT P ops Q S n 0 rest listed a w := fun _ _ => ⟨h1, h⟩

theorem wp_region_T {id : Nat} {l : List Oper} (n : Nat) (S : World → Prop) (hm : P.follows .mixedOrders = true) (hn : n ≤ l.length) (hS : S { w with drawn := w.drawn + 1 })
    (h : WT P l.toArray Q S n n (l.drop n) (Array.replicate l.length false) a { w with drawn := w.drawn + 1 }) : (Code.region id l.toArray true).wp P Q a w := by
  have inv0 : HeadInv .any l.toArray n (Array.replicate l.length false) :=
    ⟨by simp, fun j oj _ hl => (by rw [getD_replicate_false] at hl; cases hl), fun t _ ht => getD_in (by simpa using ht) (getD_replicate_false _ _)⟩
  have H := h inv0 hS
  have hdl : (l.drop n).length = l.length - n := by simp
  refine wp_region_any hm ?_
  have := wpAny_of_T (g := (l.drop n).length) (fun listed a' w' hL => wpAny_of_seq (md := .any) (l.drop n) n listed a' w' (fun j => by simp [List.getElem?_drop]) hL.1 hL.2) _ _ _ _ H
  rw [show n + (l.drop n).length = l.toArray.size by simp; omega] at this
  simpa using this
end
end Go.Proofs.Ytbbkgibopicaeaa
