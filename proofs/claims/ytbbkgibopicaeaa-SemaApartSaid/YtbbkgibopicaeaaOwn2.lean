/- Rows that a call makes itself: where an append's row lies. Over whatever program. -/
import Derived.Test.YtbbkgibopicaeaaOwn
import Derived.Deep.AppendLies
namespace Go.Proofs.Ytbbkgibopicaeaa
set_option linter.unusedVariables false
set_option linter.unusedSimpArgs false
open Go.RowKit

section
variable {P : Program} {w : World} {ops : Array Oper} {rest : List Oper} {o : Oper} {a : Act} {Q : Exit → Act → World → Prop}

/-- An append's row is the one it was, or new. -/
theorem append_where (base : Nat) (t ty e : TypeId) (i : TypeInfo) (z : Value) (size bytes : Nat) (ht : P.underlying t = some (.slice e)) (hi : P.info? e = some i) (hz : i.zero = some z)
    (hsize : i.size = size) (hby : i.bytes = bytes) (hsz : 0 < size)
    (v : Value) (n : Nat) (xs : List Value) (hown : w.ownsRow base e size v n xs)
    (ad : Addr) (m c : Nat) (news : List Value) (hl : news.length = m * size) (hnews : ∀ j u, news[j]? = some u → w.cell? (ad.add j) = some u) (h1 : ∀ u ∈ news, u.oneCell' = true) (hm : 0 < m)
    (h63 : n + m ≤ maxLen) (hbytes : (n + m) * bytes ≤ 140737488355328) (v' : Value) (w' : World) (hr : (Builtin.append_ #[t, t] ty #[v, .slice (some ad) m c]).run P w = .ok v' w') :
    ∀ g, v'.ownBlock = some g → v.ownBlock = some g ∨ w.heap.size ≤ g := by
  subst hsize
  subst hby
  have hsmall : n + m ≤ 9223372036854775807 := by simp only [maxLen] at h63; omega
  rcases hown.2 with ⟨rfl, rfl⟩ | ⟨g, cap, cur, rfl, hbg, hg, hnc, hcm, hcs, htake⟩
  · have hr' := run_append_nil (P := P) w t ty e i z ht hi hz ad m c news hl hnews hm (by omega) (by have hb := hbytes; simp only [Nat.zero_add] at hb; omega)
    rw [hr] at hr'
    injection hr' with e1 e2
    subst e1
    intro k hk
    simp [Value.ownBlock] at hk
    omega
  · by_cases hroom : n + m ≤ cap
    · have hfit : n * i.size + news.length ≤ cur.size := by rw [hl, hcs, ← Nat.add_mul]; exact Nat.mul_le_mul_right _ hroom
      have hr' := run_append_room (P := P) w t ty e i ht hi g n cap cur hg ad m c news hl hnews h1 hroom hfit
      rw [hr] at hr'
      injection hr' with e1 e2
      subst e1
      intro k hk
      exact .inl hk
    · have holds : ∀ j u, xs[j]? = some u → w.cell? ((⟨g, 0, none⟩ : Addr).add j) = some u := hown.cells (g := g) rfl
      have hr' := run_append_grow (P := P) w t ty e i z ht hi hz ⟨g, 0, none⟩ n cap xs hown.1 holds ad m c news hl hnews (by omega) (by omega) (growslice_fits (by omega) hbytes)
      rw [hr] at hr'
      injection hr' with e1 e2
      subst e1
      intro k hk
      simp [Value.ownBlock] at hk
      omega

theorem wpList_app1w {α : Type} (E : En α) (t e : TypeId) (z : Value) (bytes : Nat) (ht : P.underlying t = some (.slice e)) (hinfo : (P.info? e).map (fun i => (i.zero, i.size, i.bytes)) = some (some z, E.k, bytes)) (hz : z.cells.size = E.k) (hk : 0 < E.k)
    (s y : Operand) (base : Nat) (l : List α) (x : α) (l' : List α) (n' : Nat) (hl' : l ++ [x] = l') (hn' : l.length + 1 = n') (v : Value) (hown : Own E e w base v l) (hs : a.eval s = v) (ad : Addr) (c : Nat) (hy : a.eval y = .slice (some ad) 1 c)
    (cs : List Value) (hok : E.ok w base x cs) (hcs : ∀ j u, cs[j]? = some u → w.cell? (ad.add j) = some u)
    (hg : o.guard = none) (ho : o.op = .call { callee := .builtin .append, args := #[s, y], argTypes := #[t, t] })
    (hb : (l.length + 1) * bytes ≤ 140737488355328) (hm : l.length + 1 ≤ 9223372036854775807) (hbase : base ≤ w.heap.size)
    (h : ∀ A c w', Own E e w' base (.slice A n' c) l' → Below base w w' → n' ≤ c → c ≤ 9223372036854775807 → (∀ b, b < w.heap.size → v.ownBlock ≠ some b → w'.heap[b]? = w.heap[b]?) → (∀ g, (Value.slice A n' c).ownBlock = some g → v.ownBlock = some g ∨ w.heap.size ≤ g) → wpList P ops Q rest (a.put o.dst (.slice A n' c)) w') :
    wpList P ops Q (o :: rest) a w := by
  obtain ⟨i, hi, i1, i2, i3⟩ := info_parts hinfo
  obtain ⟨css, h1, h2, h3⟩ := hown
  refine wpList_plain hg fun K hK => ?_
  have hnl : cs.length = 1 * E.k := by rw [E.len hok, Nat.one_mul]
  obtain ⟨v', w', hr, r1, r2, r3⟩ := run_append_own (P := P) w base t o.type e i z E.k bytes ht hi i1 i2 i3 hz hk v l.length css.flatten h3 ad 1 c cs hnl hcs (E.one hok) hm hb hbase
  have r4 := append_where base t o.type e i z E.k bytes ht hi i1 i2 i3 hk v l.length css.flatten h3 ad 1 c cs hnl hcs (E.one hok) (by omega) hm hb v' w' hr
  unfold Oper.wp execOp
  simp only [ho, resolve, invoke, builtin, Sem.run_bind, Sem.run_pure, Result.andThen_ok, List.map_toArray, List.map_cons, List.map_nil, hs, hy, hr]
  refine hK _ _ ?_
  subst hl' hn'
  have hb' := below_grown h3 r2 hbase
  obtain ⟨A, c', rfl, hc1, hc2⟩ := ownsRow_slice r1
  refine h A c' w' ⟨css ++ [cs], by simp [h1], fun j y cs' hy hc => ?_, ?_⟩ hb' hc1 hc2 (fun b hb1 hb2 => r2.block b hb1 (fun e => hb2 e.symm)) r4
  · by_cases hj : j < l.length
    · rw [List.getElem?_append_left hj] at hy
      rw [List.getElem?_append_left (by omega)] at hc
      exact E.keep (h2 j y cs' hy hc) hb' (Nat.le_refl _)
    · have hjl := (List.getElem?_eq_some_iff.1 hy).1
      rw [List.length_append, List.length_singleton] at hjl
      obtain rfl : j = l.length := by omega
      rw [List.getElem?_append_right (Nat.le_refl _), Nat.sub_self] at hy
      rw [List.getElem?_append_right (by omega), h1, Nat.sub_self] at hc
      simp at hy hc
      subst hy hc
      exact E.keep hok hb' (Nat.le_refl _)
  · rw [List.length_append, List.length_singleton, List.flatten_append]
    simpa using r1

/-- 'append(out, x)' at a step of a region that draws its order. -/
theorem step_app1 {α : Type} (E : En α) (t e : TypeId) (z : Value) (bytes : Nat) (ht : P.underlying t = some (.slice e)) (hinfo : (P.info? e).map (fun i => (i.zero, i.size, i.bytes)) = some (some z, E.k, bytes)) (hz : z.cells.size = E.k) (hk : 0 < E.k)
    {K : Act → World → Prop} {X : Prop} (hgd : o.guard = none) (s y : Operand) (ho : o.op = .call { callee := .builtin .append, args := #[s, y], argTypes := #[t, t] })
    (base : Nat) (l : List α) (x : α) (l' : List α) (n' : Nat) (hl' : l ++ [x] = l') (hn' : l.length + 1 = n') (v : Value) (hs : a.eval s = v) (hown : Own E e w base v l) (ad : Addr) (c : Nat) (hy : a.eval y = .slice (some ad) 1 c)
    (cs : List Value) (hok : E.ok w base x cs) (hcs : ∀ j u, cs[j]? = some u → w.cell? (ad.add j) = some u)
    (hb : (l.length + 1) * bytes ≤ 140737488355328) (hm : l.length + 1 ≤ maxLen) (hbase : base ≤ w.heap.size) (H : Nat) (hH : w.heap.size = H)
    (h : ∀ g c w', Own E e w' base (.slice (some ⟨g, 0, none⟩) n' c) l' → Below base w w' → (∀ b, b < w.heap.size → v.ownBlock ≠ some b → w'.heap[b]? = w.heap[b]?) → (v.ownBlock = some g ∨ g = H) → g < w'.heap.size → K (a.put o.dst (.slice (some ⟨g, 0, none⟩) n' c)) w') :
    if Region.wanted o (yielded ops a.tmps) = true then Oper.wp P o a w K Q else X := by
  obtain ⟨i, hi, i1, i2, i3⟩ := info_parts hinfo
  obtain ⟨css, h1, h2, h3⟩ := hown
  have hnl : cs.length = 1 * E.k := by rw [E.len hok, Nat.one_mul]
  refine step_append_lies w hgd s y t ho base e i z E.k bytes ht hi i1 i2 i3 hz hk v l.length css.flatten hs h3 ad 1 c cs hy hnl hcs (E.one hok) (by omega) hm hb hbase H hH ?_
  intro g cap w' r1 r2 r3 r4
  subst hl' hn'
  have hb' := below_grown h3 r2 hbase
  refine h g cap w' ⟨css ++ [cs], by simp [h1], fun j y cs' hy hc => ?_, ?_⟩ hb' (fun b hb1 hb2 => r2.block b hb1 (fun e => hb2 e.symm)) r3 r4
  · by_cases hj : j < l.length
    · rw [List.getElem?_append_left hj] at hy
      rw [List.getElem?_append_left (by omega)] at hc
      exact E.keep (h2 j y cs' hy hc) hb' (Nat.le_refl _)
    · have hjl := (List.getElem?_eq_some_iff.1 hy).1
      rw [List.length_append, List.length_singleton] at hjl
      obtain rfl : j = l.length := by omega
      rw [List.getElem?_append_right (Nat.le_refl _), Nat.sub_self] at hy
      rw [List.getElem?_append_right (by omega), h1, Nat.sub_self] at hc
      simp at hy hc
      subst hy hc
      exact E.keep hok hb' (Nat.le_refl _)
  · rw [List.length_append, List.length_singleton, List.flatten_append]
    simpa using r1

/-- What is owned lives on where its block does. -/
theorem Own.stay {α : Type} {E : En α} {e : TypeId} {w w' : World} {base : Nat} {v : Value} {l : List α} (h : Own E e w base v l) (hb : Below base w w') (hg : ∀ g, v.ownBlock = some g → w'.heap[g]? = w.heap[g]?) : Own E e w' base v l := by
  obtain ⟨css, h1, h2, h3, h4⟩ := h
  refine ⟨css, h1, fun i x cs hx hc => E.keep (h2 i x cs hx hc) hb (Nat.le_refl _), h3, ?_⟩
  rcases h4 with h4 | ⟨g, cap, cur, rfl, hbg, hgg, rest⟩
  · exact .inl h4
  · exact .inr ⟨g, cap, cur, rfl, hbg, (hg g rfl).trans hgg, rest⟩

/-- Where the elements tell no more than numbers. -/
theorem Own.stay' {α : Type} {E : En α} {e : TypeId} {w w' : World} {base : Nat} {v : Value} {l : List α} (h : Own E e w base v l) (hg : ∀ g, v.ownBlock = some g → w'.heap[g]? = w.heap[g]?) (hE : ∀ w w' B x cs, E.ok w B x cs → E.ok w' B x cs) : Own E e w' base v l := by
  obtain ⟨css, h1, h2, h3, h4⟩ := h
  refine ⟨css, h1, fun i x cs hx hc => hE _ _ _ _ _ (h2 i x cs hx hc), h3, ?_⟩
  rcases h4 with h4 | ⟨g, cap, cur, rfl, hbg, hgg, rest⟩
  · exact .inl h4
  · exact .inr ⟨g, cap, cur, rfl, hbg, (hg g rfl).trans hgg, rest⟩

/-- Of what was there at a, b changed S alone; c changed more, but of what is new alone. -/
theorem But.trans' {S S' : Nat → Prop} {a b c : World} (h : But S a b) (k : But S' b c) (hs : ∀ i, i < a.heap.size → S' i → S i) : But S a c :=
  ⟨k.os.trans h.os, k.tape.trans h.tape, k.output.trans h.output, Nat.le_trans h.size k.size, fun i hi hn => (k.block i (Nat.lt_of_lt_of_le hi h.size) (fun e => hn (hs i hi e))).trans (h.block i hi hn)⟩
end
end Go.Proofs.Ytbbkgibopicaeaa
