/- A slice that came in is appended to a row of the call's own. -/
import Derived.Test.YtapeoeakiphfpaaMorf
import Derived.Test.YtapeoeakiphfpaaWipe
namespace Go.Proofs.Ytapeoeakiphfpaa
open Go.RowKit
set_option linter.unusedVariables false
set_option linter.unusedSimpArgs false

theorem rd_news {w : World} {b o sz : Nat} {s : Option Nat} {css : List (List Value)} (hz : 0 < sz) (hcs : ∀ c ∈ css, c.length = sz)
    (h : ∀ i c j u, css[i]? = some c → c[j]? = some u → s = none ∧ w.cell? ⟨b, o + (i * sz + j), none⟩ = some u) : ∀ j u, css.flatten[j]? = some u → w.cell? ((⟨b, o, s⟩ : Addr).add j) = some u := by
  intro j u hu
  have hl : css.flatten.length = css.length * sz := by
    clear h hu
    induction css with
    | nil => simp
    | cons c t ih => rw [List.flatten_cons, List.length_append, ih (fun c hc => hcs c (.tail _ hc)), hcs c (.head _), List.length_cons, Nat.add_mul]; omega
  have hj : j < css.length * sz := by have := (List.getElem?_eq_some_iff.1 hu).1; omega
  have hi : j / sz < css.length := (Nat.div_lt_iff_lt_mul hz).2 hj
  have hr : j % sz < sz := Nat.mod_lt _ hz
  have hc : css[j / sz]? = some css[j / sz] := List.getElem?_eq_getElem hi
  have hlc : (css[j / sz]).length = sz := hcs _ (List.getElem_mem hi)
  have hu' : (css[j / sz])[j % sz]? = some (css[j / sz])[j % sz] := List.getElem?_eq_getElem (by omega)
  have hf := flatten_at sz css (j / sz) (j % sz) _ _ hcs hc hu'
  have e : j / sz * sz + j % sz = j := by rw [Nat.mul_comm]; exact Nat.div_add_mod j sz
  rw [e, hu] at hf
  obtain ⟨rfl, hcell⟩ := h _ _ _ _ hc hu'
  rw [e] at hcell
  have hadd : (⟨b, o, none⟩ : Addr).add j = ⟨b, o + j, none⟩ := by unfold Addr.add; split <;> simp_all
  rw [hadd, hcell, Option.some.inj hf]

theorem wpList_append_in {P : Program} (W : World) {w : World} {ops : Array Oper} {rest : List Oper} {o : Oper} {a : Act} {Q : Exit → Act → World → Prop} {t e : TypeId} {z : Value} {size bytes : Nat} (el : ElemAt P t e z size bytes)
    (hgd : o.guard = none) (s x : Operand) (ho : o.op = .call { callee := .builtin .append, args := #[s, x], argTypes := #[t, t] })
    (v : Value) (n : Nat) (xs : List Value) (hs : a.eval s = v) (hown : w.ownsRow W.heap.size e size v n xs) (hW : Ext W w)
    (v2 : Value) (css : List (List Value)) (hx : a.eval x = v2) (hrd : SlRd w v2 size css) (hcs : ∀ c ∈ css, c.length = size) (h1 : css.flatten.all Value.oneCell' = true) (hn : n + css.length ≤ 1000000)
    (h : ∀ v' x', Hid ((more W x').ownsRow W.heap.size e size v' (n + css.length) (xs ++ css.flatten)) → (∀ k ob, w.heap[k]? = some ob → v.ownBlock ≠ some k → (more W x').heap[k]? = some ob) → wpList P ops Q rest (a.put o.dst v') (more W x')) : wpList P ops Q (o :: rest) a w := by
  obtain ⟨i, hi, hz, h3, h4⟩ := info_parts el.info
  rcases hrd with ⟨rfl, rfl⟩ | ⟨b, of, s', cap, rfl, g1, g2, g3⟩
  · obtain ⟨x', rfl⟩ := hW
    refine wpList_append_own_none hgd s x t ho W.heap.size e i size el.sl hi v n xs hs hown hx ?_
    exact h v x' (show World.ownsRow _ _ _ _ _ _ _ by simpa using hown) (fun k ob hk _ => hk)
  · have hb : (n + css.length) * bytes ≤ 1000000 * 1000 := Nat.mul_le_mul hn el.small
    have hl : css.flatten.length = css.length * size := by
      clear h hx g1 g3 hn hb h1
      induction css with
      | nil => simp
      | cons c t ih => rw [List.flatten_cons, List.length_append, ih (fun c hc => hcs c (.tail _ hc)), hcs c (.head _), List.length_cons, Nat.add_mul]; omega
    refine wpList_append_own w hgd s x t ho W.heap.size e i z size bytes el.sl hi hz h3 h4 el.zs el.pos v n xs hs hown ⟨b, of, s'⟩ css.length cap css.flatten hx hl
      (rd_news el.pos hcs g3) (by intro u hu; exact List.all_eq_true.1 h1 u hu) (by unfold maxLen; omega) (by omega) hW.size ?_
    intro v' w' ho' hg' _
    obtain ⟨x', rfl⟩ := more_of_grow (grow_row hW.grow hown hg')
    exact h v' x' ho' fun k ob hk hne => (hg'.block k (Array.getElem?_eq_some_iff.1 hk).1 (fun e => hne e.symm)).trans hk
theorem ints_flat (l : List Int) : (l.map intCells).flatten.all Value.oneCell' = true := all_flat intCells _ (fun a => rfl) l
theorem ints_one (l : List Int) : ∀ c ∈ l.map intCells, c.length = 1 := by
  intro c hc
  obtain ⟨x, _, rfl⟩ := List.mem_map.1 hc
  rfl

end Go.Proofs.Ytapeoeakiphfpaa
