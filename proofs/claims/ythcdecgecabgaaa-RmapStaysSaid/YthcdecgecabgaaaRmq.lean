/- The reverse map: how it lies in memory; the contracts of rmap.New, frame, Frame, Add, Remove. -/
import Derived.Test.YthcdecgecabgaaaRmp
import Derived.Test.YthcdecgecabgaaaKez
import Derived.StillTailTactics
import Derived.Deep.RegionWith
namespace Go.Proofs.Ythcdecgecabgaaa
open Go.RowKit
open Go.ChangeMaps (setBlock)
set_option linter.unusedVariables false
set_option linter.unusedSimpArgs false
attribute [local go_sem] setCell_drewN alloc_drewN lt_moreE le_moreE lt_moreK le_moreK cell_more frozen_more set_more drew_more drewN_more

theorem where_check (w : World) (em : Bool) (a b : Int) : (Instr.checkKey em 10000 57 (key2 a b)).run Try.prog w = .ok () w := by
  show (Instr.checkKey em (9998 + 1 + 1) 57 (key2 a b)).run Try.prog w = .ok () w
  have h1 : ∀ x : Int, (Instr.checkKey em (9998 + 1) 3 (.int .i64 x)).run Try.prog w = .ok () w := fun x => by
    unfold Instr.checkKey
    simp [run_underlying Try.underlying3]
  unfold Instr.checkKey
  simp only [Sem.run_bind, run_underlying Try.underlying57, Result.andThen_ok]
  rw [← Array.forIn_toList]
  simp only [List.forIn_cons, List.forIn_nil, Sem.run_bind]
  simp [part_int, h1]
theorem where_eq (w : World) (a b c d : Int) : (Op.equal 57 (key2 a b) (key2 c d)).run Try.prog w = .ok (a == c && b == d) w := by
  have h := run_equalIn_agg (P := Try.prog) w 9999 57 #[.int .i64 a, .int .i64 b] #[.int .i64 c, .int .i64 d] (by kernel_rfl) (by kernel_rfl)
  show (Op.equalIn (9999 + 1) 57 (key2 a b) (key2 c d)).run Try.prog w = _
  rw [h]
  go_simp
  by_cases h1 : a = c <;> by_cases h2 : b = d <;> simp [h1, h2]
theorem whereK : Key2 Try.prog 57 := ⟨where_check, where_eq, ⟨_, Try.underlying57⟩⟩
theorem zero_int (w : World) : (zeroValue 3).run Try.prog w = .ok (.int .i64 0) w := by
  have h : (Try.prog.info? 3).map (·.zero) = some (some (.int .i64 0)) := by kernel_rfl
  obtain ⟨i, hi, hz⟩ := Option.map_eq_some_iff.1 h
  simp [zeroValue, typeInfo, hi, hz]
section
variable {P : Program} {w : World} {ops : Array Oper} {rest : List Oper} {o : Oper} {a : Act} {Q : Exit → Act → World → Prop}
/-- delete(m, key), keyed by a struct of two numbers. -/
theorem wpList_delete3 (hg : o.guard = none) (m x : Operand) (t k e : TypeId) (hop : o.op = Op.call { callee := Callee.builtin Builtin.delete, args := #[m, x], argTypes := #[t, k] }) (K : Key2 P k) (ht : P.underlying t = some (.map k e)) (mb : Nat) (l : List KE) (clock : Nat) (p q : Int) (hm : a.eval m = .map (some mb)) (hx : a.eval x = key2 p q) (hb : w.heap[mb]? = some (.map (entsK l) clock))
    (h : wpList P ops Q rest (a.put o.dst (.tuple #[])) (setBlock w mb (.map (entsK (delK p q l)) clock))) : wpList P ops Q (o :: rest) a w := by
  refine wpList_plain hg fun K' hK' => ?_
  unfold Oper.wp
  simp [execOp, hop, resolve, invoke, builtin, hm, hx, run_delete2 w mb l clock K ht hb p q o.type, Result.andThen]
  exact hK' _ _ h
end
theorem cells2c {w : World} {n : Nat} {T : TypeId} {a0 a1 : Value} (h : w.heap[n]? = some (.cells #[a0, a1] T (0, 0))) :
    w.cell? ⟨n, 0, none⟩ = some a0 ∧ w.cell? ⟨n, 1, none⟩ = some a1 ∧ ∀ i, w.frozen? ⟨n, i, none⟩ = false := by
  refine ⟨?_, ?_, fun i => frozen_of_row _ _ _ _ _ h⟩ <;> (rw [cell_of_row _ _ _ _ _ _ h]; rfl)

theorem boxEx {w w' : World} {n : Nat} {o : Obj} (h : w.heap[n]? = some o) (hE : Ext w w') : w'.heap[n]? = some o := by
  obtain ⟨x, rfl⟩ := hE
  exact box_more h x
/-- A map of the call's own (behind block B): its header at hb, its entries at mb. -/
structure RmAt (w : World) (B hb mb : Nat) (es : List RE) (clock : Nat) : Prop where
  hdr : w.heap[hb]? = some (.cells #[.map (some mb)] 165 (0, 0))
  map : w.heap[mb]? = some (.map (entsK (es.map RE.ke)) clock)
  borns : (es.map RE.born).Nodup
  old : ∀ e ∈ es, e.born < clock
  hB : B ≤ hb
  mB : B ≤ mb
/-- It tells these rows. -/
def RmOn (w : World) (B hb mb : Nat) (rs : List Rw) : Prop := ∃ es clock, RmAt w B hb mb es clock ∧ MapOf es rs
theorem RmAt.ne {w : World} {B hb mb clock : Nat} {es : List RE} (h : RmAt w B hb mb es clock) : hb ≠ mb := by
  intro e
  have := h.hdr
  rw [e, h.map] at this
  cases this
theorem RmAt.kept {w w' : World} {B hb mb clock : Nat} {es : List RE} (h : RmAt w B hb mb es clock) (k : ∀ (q : Nat) (ob : Obj), w.heap[q]? = some ob → q = hb ∨ q = mb → w'.heap[q]? = some ob) : RmAt w' B hb mb es clock :=
  { h with hdr := k _ _ h.hdr (.inl rfl), map := k _ _ h.map (.inr rfl) }
theorem RmAt.ext {w w' : World} {B hb mb clock : Nat} {es : List RE} (h : RmAt w B hb mb es clock) (k : Ext w w') : RmAt w' B hb mb es clock :=
  h.kept fun q ob hq _ => (k.grow.block q (Array.getElem?_eq_some_iff.1 hq).1 (by simp)).trans hq
theorem RmOn.ext {w w' : World} {B hb mb : Nat} {rs : List Rw} (h : RmOn w B hb mb rs) (k : Ext w w') : RmOn w' B hb mb rs := by
  obtain ⟨es, clock, h1, h2⟩ := h
  exact ⟨es, clock, h1.ext k, h2⟩
theorem RmOn.ne {w : World} {B hb mb : Nat} {rs : List Rw} (h : RmOn w B hb mb rs) : hb ≠ mb := by
  obtain ⟨es, clock, h1, _⟩ := h
  exact h1.ne
theorem RmOn.asc {w : World} {B hb mb : Nat} {rs : List Rw} (h : RmOn w B hb mb rs) : Asc rs := by
  obtain ⟨es, clock, _, h2⟩ := h
  exact h2.2
theorem RmOn.mB {w : World} {B hb mb : Nat} {rs : List Rw} (h : RmOn w B hb mb rs) : B ≤ mb := by
  obtain ⟨es, clock, h1, _⟩ := h
  exact h1.mB
/-- It stays where another block turns. -/
theorem RmOn.kept {w w' : World} {B hb mb q : Nat} {rs : List Rw} (h : RmOn w B hb mb rs) (k : w.grownBy w' (some q)) (h1 : hb ≠ q) (h2 : mb ≠ q) : RmOn w' B hb mb rs := by
  obtain ⟨es, clock, h3, h4⟩ := h
  refine ⟨es, clock, h3.kept fun i ob hi hc => (k.block i (Array.getElem?_eq_some_iff.1 hi).1 ?_).trans hi, h4⟩
  rcases hc with rfl | rfl
  · simpa using h1
  · simpa using h2
/-- An owned row of numbers or structs stays where a map turns. -/
theorem own_keepR {w w' : World} {B sz n mb clock : Nat} {es : List RE} {hb B' : Nat} {T : TypeId} {v : Value} {xs : List Value} (hr : RmAt w B' hb mb es clock) (k : w.grownBy w' (some mb)) (h : w.ownsRow B T sz v n xs) : w'.ownsRow B T sz v n xs := by
  refine ⟨h.1, h.2.imp id fun ⟨g, cap, cur, a, b, c, d⟩ => ⟨g, cap, cur, a, b, (k.block g (Array.getElem?_eq_some_iff.1 c).1 ?_).trans c, d⟩⟩
  intro e
  injection e with e
  subst e
  rw [hr.map] at c
  cases c
theorem own_keepO {w w' : World} {B sz n mb : Nat} {hb B' : Nat} {rs : List Rw} {T : TypeId} {v : Value} {xs : List Value} (hr : RmOn w B' hb mb rs) (k : w.grownBy w' (some mb)) (h : w.ownsRow B T sz v n xs) : w'.ownsRow B T sz v n xs := by
  obtain ⟨es, clock, h1, _⟩ := hr
  exact own_keepR h1 k h

set_option maxRecDepth 100000 in
theorem rmap_New (W w : World) (hE : Ext W w) : Calls Try.prog 36 #[] w fun e w' => Ext w w' ∧ ∃ hb mb, e = .returned (.pointer (some ⟨hb, 0, none⟩)) ∧ RmOn w' W.heap.size hb mb [] := by
  have HE := Lib.hid hE.size
  clear hE
  have hmk : (Instr.makeMap 163 none).run Try.prog w = .ok (.map (some w.heap.size)) (w.alloc (.map #[] 0)) := by
    simp [Instr.makeMap]
  go_enter Try.func36, Try.ntmps36
  go_wp2_with fail
  go_ret
  refine ⟨(by repeat (first | exact Ext.refl _ | apply Ext.more | apply Ext.alloc | apply Ext.drew | apply Ext.drewN)), _, w.heap.size, rfl, [], 0, { hdr := ?_, map := ?_, borns := by simp, old := by simp, hB := ?_, mB := HE.out }, MapOf.nil⟩
  · exact heap_alloc_at _ _ (by simp)
  · exact box_alloc (heap_alloc_new _ _) _
  · have := HE.out; simp; omega
def frameB (n : Int) : Bool := decide (0 ≤ n ∧ n < 512)
set_option maxRecDepth 100000 in
theorem rmap_frame (w : World) (n : Int) (b : Bool) (hb : frameB n = b) : Calls Try.prog 81 #[.int .i64 n] w fun e w' => e = .returned (.bool b) ∧ w' = w := by
  by_cases h0 : 0 ≤ n
  · by_cases h1 : n < 512
    · have : b = true := by rw [← hb]; exact decide_eq_true ⟨h0, h1⟩
      subst this
      clear hb
      go_enter Try.func81, Try.ntmps81
      go_wp2_with fail
      go_ret
      exact ⟨rfl, rfl⟩
    · have : b = false := by rw [← hb]; exact decide_eq_false fun h => h1 h.2
      subst this
      clear hb
      go_enter Try.func81, Try.ntmps81
      go_wp2_with fail
      go_ret
      exact ⟨rfl, rfl⟩
  · have : b = false := by rw [← hb]; exact decide_eq_false fun h => h0 h.1
    subst this
    clear hb
    go_enter Try.func81, Try.ntmps81
    go_wp2_with fail
    go_ret
    exact ⟨rfl, rfl⟩
/-- What Frame and Remove tell. -/
def frameV : Option Int → Value
  | some f => .tuple #[.int .i64 f, .nilIface]
  | none => .tuple #[.int .i64 0, errW 3]
theorem RmOn.look {w : World} {B hb mb : Nat} {rs : List Rw} (h : RmOn w B hb mb rs) (s p : Int) : (Instr.lookup 163 (.map (some mb)) (.agg #[.int .i64 s, .int .i64 p]) true).run Try.prog w = .ok (.tuple #[.int .i64 ((frameAt rs s p).getD 0), .bool (frameAt rs s p).isSome]) w := by
  obtain ⟨es, clock, h1, h2⟩ := h
  have := run_lookup2 w mb (es.map RE.ke) clock whereK Try.underlying163 h1.map _ (zero_int w) s p
  rw [h2.get] at this
  rw [show (Value.agg #[.int .i64 s, .int .i64 p]) = key2 s p from rfl, this]
  cases frameAt rs s p <;> rfl
theorem RmOn.hcell {w : World} {B hb mb : Nat} {rs : List Rw} (h : RmOn w B hb mb rs) : w.cell? ⟨hb, 0, none⟩ = some (.map (some mb)) ∧ hb < w.heap.size := by
  obtain ⟨es, clock, h1, h2⟩ := h
  exact ⟨by rw [cell_of_row _ _ _ _ _ _ h1.hdr]; rfl, (Array.getElem?_eq_some_iff.1 h1.hdr).1⟩

set_option maxRecDepth 100000 in
theorem rmap_Frame (w : World) {B hb mb : Nat} {rs : List Rw} (h : RmOn w B hb mb rs) (s p : Int) (o : Option Int) (ho : frameAt rs s p = o) :
    Calls Try.prog 51 #[.pointer (some ⟨hb, 0, none⟩), .agg #[.int .i64 s, .int .i64 p]] w fun e w' => Ext w w' ∧ e = .returned (frameV o) := by
  have hE : Ext w (w.alloc (.cells #[.int .i64 s, .int .i64 p] 57)).drew := (by repeat (first | exact Ext.refl _ | apply Ext.more | apply Ext.alloc | apply Ext.drew | apply Ext.drewN))
  have e1 := (h.ext hE).look s p
  rw [ho] at e1
  obtain ⟨y0, hl⟩ := h.hcell
  obtain ⟨l1, l2, l3⟩ := lt_facts hl
  clear h ho hE
  cases o with
  | none =>
    dsimp only [Option.getD, Option.isSome] at e1
    go_enter Try.func51, Try.ntmps51
    go_wp2_with fail
    go_region
    all_goals
      go_wp2_with fail
      go_ret2
      exact ⟨(by repeat (first | exact Ext.refl _ | apply Ext.more | apply Ext.alloc | apply Ext.drew | apply Ext.drewN)), rfl⟩
  | some f =>
    dsimp only [Option.getD, Option.isSome] at e1
    go_enter Try.func51, Try.ntmps51
    go_wp2_with fail
    go_region
    all_goals
      go_wp2_with fail
      go_ret2
      exact ⟨(by repeat (first | exact Ext.refl _ | apply Ext.more | apply Ext.alloc | apply Ext.drew | apply Ext.drewN)), rfl⟩

def addC (n s p : Int) (rs : List Rw) : Option Int := if 0 ≤ n ∧ n < 512 ∧ 1 ≤ s ∧ s ≤ 255 ∧ 0 ≤ p ∧ p < 4096 then (if frameAt rs s p = none then none else some 4) else some 1
def errO : Option Int → Value
  | some k => errW k
  | none => .nilIface
def addR (n s p : Int) (rs : List Rw) : List Rw := if addC n s p rs = none then putR ⟨s, p, n⟩ rs else rs
theorem RmOn.put {w : World} {B hb mb : Nat} {rs : List Rw} (h : RmOn w B hb mb rs) {s p : Int} (hn : frameAt rs s p = none) (f : Int) :
    ∃ (es' : List RE) (clock' : Nat), (Instr.mapUpdate 163 (.map (some mb)) (.agg #[.int .i64 s, .int .i64 p]) (.int .i64 f)).run Try.prog w = .ok () (setBlock w mb (.map (entsK (es'.map RE.ke)) clock')) ∧ RmAt (setBlock w mb (.map (entsK (es'.map RE.ke)) clock')) B hb mb es' clock' ∧ MapOf es' (putR ⟨s, p, f⟩ rs) := by
  obtain ⟨es, clock, h1, h2⟩ := h
  obtain ⟨p1, p2, p3⟩ := h2.put hn f clock
  refine ⟨_, clock + 1, ?_, ?_, p1⟩
  · have := run_update2 w mb (es.map RE.ke) clock whereK Try.underlying163 h1.map s p (.int .i64 f)
    rw [p2, p3] at this
    exact this
  · have hml := (Array.getElem?_eq_some_iff.1 h1.map).1
    refine { hdr := ?_, map := ?_, borns := ?_, old := ?_, hB := h1.hB, mB := h1.mB }
    · rw [heap_setBlock, if_neg (fun hh => h1.ne hh.1)]
      exact h1.hdr
    · rw [heap_setBlock, if_pos ⟨rfl, hml⟩]
    · rw [List.map_append, List.nodup_append]
      refine ⟨h1.borns, by simp, fun a ha b hb => ?_⟩
      obtain ⟨e, he, rfl⟩ := List.mem_map.1 ha
      have := h1.old e he
      rw [List.mem_map] at hb
      obtain ⟨e', he', rfl⟩ := hb
      rw [List.mem_singleton.1 he']
      show e.born ≠ clock
      omega
    · intro e he
      rcases List.mem_append.1 he with he | he
      · have := h1.old e he; omega
      · rw [List.mem_singleton.1 he]; show clock < clock + 1; omega
theorem RmOn.del {w : World} {B hb mb : Nat} {rs : List Rw} (h : RmOn w B hb mb rs) (s p : Int) :
    ∃ (es : List RE) (clock : Nat), w.heap[mb]? = some (.map (entsK (es.map RE.ke)) clock) ∧ ∃ es' : List RE, delK s p (es.map RE.ke) = es'.map RE.ke ∧ RmAt (setBlock w mb (.map (entsK (es'.map RE.ke)) clock)) B hb mb es' clock ∧ MapOf es' (outR s p rs) := by
  obtain ⟨es, clock, h1, h2⟩ := h
  obtain ⟨p1, p2⟩ := h2.out s p
  have hml := (Array.getElem?_eq_some_iff.1 h1.map).1
  refine ⟨es, clock, h1.map, _, p2, { hdr := ?_, map := ?_, borns := ?_, old := ?_, hB := h1.hB, mB := h1.mB }, p1⟩
  · rw [heap_setBlock, if_neg (fun hh => h1.ne hh.1)]
    exact h1.hdr
  · rw [heap_setBlock, if_pos ⟨rfl, hml⟩]
  · exact h1.borns.sublist (List.filter_sublist.map _)
  · exact fun e he => h1.old e (List.mem_filter.1 he).1
/-- A page that has a frame has another one. -/
theorem RmOn.set {w : World} {B hb mb : Nat} {rs : List Rw} (h : RmOn w B hb mb rs) {s p f : Int} (hn : frameAt rs s p = some f) (t : Int) :
    ∃ (es' : List RE) (clock' : Nat), (Instr.mapUpdate 163 (.map (some mb)) (.agg #[.int .i64 s, .int .i64 p]) (.int .i64 t)).run Try.prog w = .ok () (setBlock w mb (.map (entsK (es'.map RE.ke)) clock')) ∧ RmAt (setBlock w mb (.map (entsK (es'.map RE.ke)) clock')) B hb mb es' clock' ∧ MapOf es' (rs.map (setR s p t)) := by
  obtain ⟨es, clock, h1, h2⟩ := h
  obtain ⟨p1, p2, p3⟩ := h2.set hn t clock
  refine ⟨_, clock, ?_, ?_, p1⟩
  · have := run_update2 w mb (es.map RE.ke) clock whereK Try.underlying163 h1.map s p (.int .i64 t)
    rw [p2, p3] at this
    exact this
  · have hml := (Array.getElem?_eq_some_iff.1 h1.map).1
    refine { hdr := ?_, map := ?_, borns := ?_, old := ?_, hB := h1.hB, mB := h1.mB }
    · rw [heap_setBlock, if_neg (fun hh => h1.ne hh.1)]
      exact h1.hdr
    · rw [heap_setBlock, if_pos ⟨rfl, hml⟩]
    · rw [List.map_map]; exact h1.borns
    · intro e he
      obtain ⟨e', he', rfl⟩ := List.mem_map.1 he
      exact h1.old e' he'

set_option maxRecDepth 100000 in
theorem rmap_Add (w : World) {B hb mb : Nat} {rs : List Rw} (h : RmOn w B hb mb rs) (n s p : Int) (o : Option Int) (ho : addC n s p rs = o) (rs' : List Rw) (hr : addR n s p rs = rs') :
    Calls Try.prog 37 #[.pointer (some ⟨hb, 0, none⟩), .int .i64 n, .agg #[.int .i64 s, .int .i64 p]] w fun e w' => (e = .returned (errO o) ∧ RmOn w' B hb mb rs') ∧ w.grownBy w' (some mb) := by
  have HF := Lib.hid (fun w' => rmap_frame w' n _ rfl)
  by_cases hc : 0 ≤ n ∧ n < 512 ∧ 1 ≤ s ∧ s ≤ 255 ∧ 0 ≤ p ∧ p < 4096
  · have hfr : frameB n = true := decide_eq_true ⟨hc.1, hc.2.1⟩
    rw [hfr] at HF
    have hE : Ext w (w.alloc (.cells #[.int .i64 s, .int .i64 p] 57)).drew := (by repeat (first | exact Ext.refl _ | apply Ext.more | apply Ext.alloc | apply Ext.drew | apply Ext.drewN))
    have hE2 : Ext w (w.alloc (.cells #[.int .i64 s, .int .i64 p] 57)).drew.drew := (by repeat (first | exact Ext.refl _ | apply Ext.more | apply Ext.alloc | apply Ext.drew | apply Ext.drewN))
    have e1 := (h.ext hE).look s p
    have H2 := h.ext hE2
    have HG2 := Lib.hid (grow_of_none (row := some mb) hE2.grow)
    have HG1 := Lib.hid (grow_of_none (row := some mb) hE.grow)
    have H1 := Lib.hid (h.ext hE)
    obtain ⟨y0, hl⟩ := h.hcell
    obtain ⟨l1, l2, l3⟩ := lt_facts hl
    have hA : addC n s p rs = if frameAt rs s p = none then none else some 4 := by unfold addC; rw [if_pos hc]
    obtain ⟨_, _, c2, c3, c4, c5⟩ := hc
    unfold addR at hr
    rw [hA] at ho hr
    clear hA
    cases hf : frameAt rs s p with
    | some f =>
      rw [hf] at ho hr e1
      dsimp only [Option.getD, Option.isSome] at e1
      obtain rfl : some 4 = o := by simpa using ho
      obtain rfl : rs = rs' := by simpa using hr
      clear h ho hr H2 hfr hf hE hE2
      go_enter Try.func37, Try.ntmps37
      go_wp2_with (go_at_call 81; refine (HF.out _).mono ?_; rintro e w' ⟨rfl, hww⟩; subst w')
      go_region
      all_goals
        go_wp2_with fail
        go_ret
        exact ⟨⟨rfl, H1.out⟩, HG1.out⟩
    | none =>
      rw [hf] at ho hr e1
      dsimp only [Option.getD, Option.isSome] at e1
      obtain rfl : none = o := by simpa using ho
      obtain rfl : putR ⟨s, p, n⟩ rs = rs' := by simpa using hr
      obtain ⟨es', clock', hup, hat, hof⟩ := H2.put hf n
      have HAt := Lib.hid (And.intro hat hof)
      have HGs := Lib.hid (grow_trans HG2.out (grow_setBlock _ mb (.map (entsK (es'.map RE.ke)) clock')))
      clear h ho hr H2 hfr hf hE hE2 hat hof
      go_enter Try.func37, Try.ntmps37
      go_wp2_with (go_at_call 81; refine (HF.out _).mono ?_; rintro e w' ⟨rfl, hww⟩; subst w')
      go_region
      all_goals
        go_wp2_with fail
        go_region
        all_goals
          go_wp2_with fail
          go_ret
          exact ⟨⟨rfl, es', clock', HAt.out.1, HAt.out.2⟩, HGs.out⟩
  · obtain rfl : some 1 = o := by rw [← ho]; unfold addC; rw [if_neg hc]
    obtain rfl : rs = rs' := by rw [← hr]; unfold addR addC; rw [if_neg hc]; rfl
    have hE : Ext w (w.alloc (.cells #[.int .i64 s, .int .i64 p] 57)) := (by repeat (first | exact Ext.refl _ | apply Ext.more | apply Ext.alloc | apply Ext.drew | apply Ext.drewN))
    have HG1 := Lib.hid (grow_of_none (row := some mb) hE.grow)
    have H1 := Lib.hid (h.ext hE)
    have hcs : frameB n = false ∨ (frameB n = true ∧ (s < 1 ∨ (1 ≤ s ∧ 255 < s) ∨ (1 ≤ s ∧ s ≤ 255 ∧ p < 0) ∨ (1 ≤ s ∧ s ≤ 255 ∧ 0 ≤ p ∧ 4096 ≤ p))) := by
      by_cases hn : 0 ≤ n ∧ n < 512
      · exact .inr ⟨decide_eq_true hn, by omega⟩
      · exact .inl (decide_eq_false hn)
    clear h ho hr hc hE
    rcases hcs with hb | ⟨hb, hcs⟩
    · rw [hb] at HF
      clear hb
      go_enter Try.func37, Try.ntmps37
      go_wp2_with (go_at_call 81; refine (HF.out _).mono ?_; rintro e w' ⟨rfl, hww⟩; subst w')
      go_ret
      exact ⟨⟨rfl, H1.out⟩, HG1.out⟩
    · rw [hb] at HF
      clear hb
      rcases hcs with h1 | ⟨h1, h2⟩ | ⟨h1, h2, h3⟩ | ⟨h1, h2, h3, h4⟩
      all_goals
        go_enter Try.func37, Try.ntmps37
        go_wp2_with (go_at_call 81; refine (HF.out _).mono ?_; rintro e w' ⟨rfl, hww⟩; subst w')
        go_ret
        exact ⟨⟨rfl, H1.out⟩, HG1.out⟩

set_option maxRecDepth 100000 in
theorem rmap_Remove (w : World) {B hb mb : Nat} {rs : List Rw} (h : RmOn w B hb mb rs) (s p : Int) (o : Option Int) (ho : frameAt rs s p = o) :
    Calls Try.prog 44 #[.pointer (some ⟨hb, 0, none⟩), .agg #[.int .i64 s, .int .i64 p]] w fun e w' => (e = .returned (frameV o) ∧ RmOn w' B hb mb (outR s p rs)) ∧ w.grownBy w' (some mb) := by
  have HFr := Lib.hid (fun (w' : World) (h' : RmOn w' B hb mb rs) => rmap_Frame w' h' s p o ho)
  have HO := Lib.hid h
  clear h ho
  cases o with
  | none =>
    dsimp only [frameV] at HFr ⊢
    go_enter Try.func44, Try.ntmps44
    go_wp2_with fail
    refine (HFr.out _ (HO.out.ext (by repeat (first | exact Ext.refl _ | apply Ext.more | apply Ext.alloc | apply Ext.drew | apply Ext.drewN)))).mono ?_
    rintro e w' ⟨hE, rfl⟩
    have HB := Lib.hid (boxEx (heap_alloc_new w (.cells #[.int .i64 s, .int .i64 p] 57)) hE)
    have HE := Lib.hid (show Ext w w' from Ext.trans (by repeat (first | exact Ext.refl _ | apply Ext.more | apply Ext.alloc | apply Ext.drew | apply Ext.drewN)) hE)
    have HW := Lib.hid (HO.out.ext HE.out)
    clear hE
    generalize w.heap.size = xb at *
    go_wp2_with fail
    obtain ⟨y0, hl⟩ := HW.out.hcell
    obtain ⟨c0, c1, cf⟩ := cells2c HB.out
    have hxl : xb < w'.heap.size := (Array.getElem?_eq_some_iff.1 HB.out).1
    refine wp_region_still_tail 5 (by kernel_rfl) (by kernel_rfl) ?_
    simp only [List.take_succ_cons, List.take_zero, List.drop_succ_cons, List.drop_zero]
    repeat still_step
    refine wpStill_nil ?_
    obtain ⟨es, clock, hmp, es', hdel, hat, hof⟩ := (HW.out.ext ((Ext.refl w').drew)).del s p
    refine wpList_delete3 rfl _ _ 163 57 3 rfl whereK Try.underlying163 mb (es.map RE.ke) clock s p rfl rfl hmp ?_
    rw [hdel]
    have HGs := Lib.hid (grow_trans (grow_of_none (row := some mb) (HE.out.drew).grow) (grow_setBlock w'.drew mb (.map (entsK (es'.map RE.ke)) clock)))
    have HAt := Lib.hid (And.intro hat hof)
    clear hat hof hdel hmp y0 c0 c1 cf
    go_wp2_with fail
    go_ret2
    exact ⟨⟨rfl, es', clock, HAt.out.1, HAt.out.2⟩, HGs.out⟩
  | some f =>
    dsimp only [frameV] at HFr ⊢
    go_enter Try.func44, Try.ntmps44
    go_wp2_with fail
    refine (HFr.out _ (HO.out.ext (by repeat (first | exact Ext.refl _ | apply Ext.more | apply Ext.alloc | apply Ext.drew | apply Ext.drewN)))).mono ?_
    rintro e w' ⟨hE, rfl⟩
    have HB := Lib.hid (boxEx (heap_alloc_new w (.cells #[.int .i64 s, .int .i64 p] 57)) hE)
    have HE := Lib.hid (show Ext w w' from Ext.trans (by repeat (first | exact Ext.refl _ | apply Ext.more | apply Ext.alloc | apply Ext.drew | apply Ext.drewN)) hE)
    have HW := Lib.hid (HO.out.ext HE.out)
    clear hE
    generalize w.heap.size = xb at *
    go_wp2_with fail
    obtain ⟨y0, hl⟩ := HW.out.hcell
    obtain ⟨c0, c1, cf⟩ := cells2c HB.out
    have hxl : xb < w'.heap.size := (Array.getElem?_eq_some_iff.1 HB.out).1
    refine wp_region_still_tail 5 (by kernel_rfl) (by kernel_rfl) ?_
    simp only [List.take_succ_cons, List.take_zero, List.drop_succ_cons, List.drop_zero]
    repeat still_step
    refine wpStill_nil ?_
    obtain ⟨es, clock, hmp, es', hdel, hat, hof⟩ := (HW.out.ext ((Ext.refl w').drew)).del s p
    refine wpList_delete3 rfl _ _ 163 57 3 rfl whereK Try.underlying163 mb (es.map RE.ke) clock s p rfl rfl hmp ?_
    rw [hdel]
    have HGs := Lib.hid (grow_trans (grow_of_none (row := some mb) (HE.out.drew).grow) (grow_setBlock w'.drew mb (.map (entsK (es'.map RE.ke)) clock)))
    have HAt := Lib.hid (And.intro hat hof)
    clear hat hof hdel hmp y0 c0 c1 cf
    go_wp2_with fail
    go_ret2
    exact ⟨⟨rfl, es', clock, HAt.out.1, HAt.out.2⟩, HGs.out⟩

end Go.Proofs.Ythcdecgecabgaaa
