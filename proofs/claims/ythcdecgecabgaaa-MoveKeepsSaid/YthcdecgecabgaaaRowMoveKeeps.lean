import Derived.Test.YthcdecgecabgaaaMovk
import Derived.Test.YthcdecgecabgaaaOpen
/- For every input the law paviorlaw18.MoveKeeps returns true, and its arguments read as before. No condition. -/
namespace Go.Proofs.Ythcdecgecabgaaa.moveKeeps
open Go.ChangeShapes Go.WideShapes Go.ChangeAt Go.RowKit Go.Deep
theorem own : ownKnob Try.prog.godebug = none := by kernel_rfl
theorem laidOut : laidOutB Try.prog = true := by kernel_rfl
set_option maxRecDepth 100000 in
theorem lifted (os : Os) (started : os.Started) (H : Type) (enc : TypeId × Value → H) :
    ReturnsInHanded {} Try.checked os 3 .any (Rows.moveKeepsSpec.pre6 enc Try.prog Try.f3 Rows.moveKeepsRow.domain false) (Rows.moveKeepsSpec.post enc Try.prog Try.f3 false true false false) := by
  refine returnsInHanded_of_change (C := Try.checked) own started (by kernel_rfl) Try.func3
    (ChangeSpec.witness6 (enc := enc) (C := Try.checked) false ⟨#[], #[.int .i64 0, .slice none 0 0, .slice none 0 0, .slice none 0 0, .int .i64 0, .int .i64 0], []⟩ 8 (by kernel_rfl) (by kernel_rfl) (by kernel_rfl) (by kernel_rfl)) ?_
  intro W base args ds gs before hval0 hW hcnd _
  have hval : ∀ (j : Nat) t v, Try.f3.params[j]? = some t → args[j]? = some v → Value.okWide Try.prog W .any base t v := hval0
  have hW' := hW
  obtain ⟨p, q, hA0, hV, rfl, hfz, hnd⟩ := hW
  have hA : DataW.TrodAll enc Try.prog W 0 (fun _ => true) true Try.f3.params.toList args.toList ds p := hA0
  rw [Try.params3] at hA hval
  obtain ⟨v0, vs0, d0, ds0, p0, q0, hargs, rfl, rfl, h0, r0⟩ := trodAll_cons hA
  obtain ⟨v1, vs1, d1, ds1, p1, q1, rfl, rfl, rfl, h1, r1⟩ := trodAll_cons r0
  obtain ⟨v2, vs2, d2, ds2, p2, q2, rfl, rfl, rfl, h2, r2⟩ := trodAll_cons r1
  obtain ⟨v3, vs3, d3, ds3, p3, q3, rfl, rfl, rfl, h3, r3⟩ := trodAll_cons r2
  obtain ⟨v4, vs4, d4, ds4, p4, q4, rfl, rfl, rfl, h4, r4⟩ := trodAll_cons r3
  obtain ⟨v5, vs5, d5, ds5, p5, q5, rfl, rfl, rfl, h5, r5⟩ := trodAll_cons r4
  obtain ⟨rfl, rfl, rfl⟩ := trodAll_nil r5
  obtain rfl : args = #[v0, v1, v2, v3, v4, v5] := by cases args; simp_all
  obtain ⟨rfl, rfl⟩ := trodVars_none hV
  obtain ⟨a0, rfl, rfl, rfl, w0⟩ := open_int Try.underlying3 (hval 0 3 v0 rfl rfl) h0
  have k1 := h1
  have lt1 : ∀ x ∈ p1, x.block < W.heap.size := by obtain ⟨m, hm⟩ := k1; exact DataW.trod_lt m _ _ _ hm
  obtain ⟨c1, s1, f1⟩ := open_sl 3 Try.underlying22 (by kernel_rfl) (okWide_slice Try.underlying22 (hval 1 22 v1 rfl rfl)) h1
  obtain ⟨l1, rfl, w1⟩ := all_of (f := Laid.cells) (p := Laid.wf) (fun c hc => by obtain ⟨fuel, x, hx⟩ := f1 c hc; obtain ⟨d, hd, hw⟩ := open_Laid hx; exact ⟨d, hd, hw⟩)
  have k2 := h2
  have lt2 : ∀ x ∈ p2, x.block < W.heap.size := by obtain ⟨m, hm⟩ := k2; exact DataW.trod_lt m _ _ _ hm
  obtain ⟨c2, s2, f2⟩ := open_sl 2 Try.underlying23 (by kernel_rfl) (okWide_slice Try.underlying23 (hval 2 23 v2 rfl rfl)) h2
  obtain ⟨l2, rfl, w2⟩ := all_of (f := Root.cells) (p := Root.wf) (fun c hc => by obtain ⟨fuel, x, hx⟩ := f2 c hc; obtain ⟨d, hd, hw⟩ := open_Root hx; exact ⟨d, hd, hw⟩)
  have k3 := h3
  have lt3 : ∀ x ∈ p3, x.block < W.heap.size := by obtain ⟨m, hm⟩ := k3; exact DataW.trod_lt m _ _ _ hm
  obtain ⟨c3, s3, f3⟩ := open_sl 2 Try.underlying24 (by kernel_rfl) (okWide_slice Try.underlying24 (hval 3 24 v3 rfl rfl)) h3
  obtain ⟨l3, rfl, w3⟩ := all_of (f := Where.cells) (p := Where.wf) (fun c hc => by obtain ⟨fuel, x, hx⟩ := f3 c hc; obtain ⟨d, hd, hw⟩ := open_Where hx; exact ⟨d, hd, hw⟩)
  obtain ⟨a4, rfl, rfl, rfl, w4⟩ := open_int Try.underlying3 (hval 4 3 v4 rfl rfl) h4
  obtain ⟨a5, rfl, rfl, rfl, w5⟩ := open_int Try.underlying3 (hval 5 3 v5 rfl rfl) h5
  refine (law18_MoveKeeps W a0 w0 l1 w1 v1 s1 l2 w2 v2 s2 l3 w3 v3 s3 a4 w4 a5 w5).mono fun e W' ⟨he, hgr⟩ => ?_
  have bel : Below W.heap.size W W' := grow_below hgr (Nat.le_refl _) (by intro k hk; cases hk)
  subst he
  exact ⟨_, rfl, _, _, _, [], _, [], hW', trodAll_mk1 (shut_bool Try.underlying4 _), (trodAll_cons_mk (shut_int Try.underlying3 w0) (trodAll_cons_mk (Below.trod laidOut (by kernel_rfl) (of_decide_eq_true (by kernel_rfl)) k1 bel lt1) (trodAll_cons_mk (Below.trod laidOut (by kernel_rfl) (of_decide_eq_true (by kernel_rfl)) k2 bel lt2) (trodAll_cons_mk (Below.trod laidOut (by kernel_rfl) (of_decide_eq_true (by kernel_rfl)) k3 bel lt3) (trodAll_cons_mk (shut_int Try.underlying3 w4) (trodAll_cons_mk (shut_int Try.underlying3 w5) trodAll_mk0)))))), rfl, bel.frame _, fun h => by cases h⟩
theorem over : Rows.moveKeepsRow.holds Try.pinned (OpenSpec.ofChange Rows.moveKeepsSpec) :=
  OpenClaim.holds_of_wide 3 Try.f3 rfl rfl rfl rfl rfl rfl rfl ⟨rfl, rfl, rfl, rfl, rfl⟩ rfl rfl rfl rfl rfl (by kernel_rfl) Try.func3 (by kernel_rfl)
    (of_decide_eq_true (by kernel_rfl)) (by unfold Func.isWrapper; first | (rw [if_pos (by decide +kernel)]; kernel_rfl) | (rw [if_neg (by decide +kernel)]; exact ⟨rfl, rfl⟩))
    (fun os started H enc _ => lifted os started H enc)
end Go.Proofs.Ythcdecgecabgaaa.moveKeeps
namespace Go.Proofs.Ythcdecgecabgaaa
theorem moveKeeps_holds : Rows.MoveKeepsSaid := moveKeeps.over
#print axioms moveKeeps_holds
end Go.Proofs.Ythcdecgecabgaaa
