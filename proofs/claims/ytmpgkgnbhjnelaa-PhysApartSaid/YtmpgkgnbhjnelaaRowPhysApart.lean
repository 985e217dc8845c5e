/- For every input the law paviorlaw03.PhysApart returns true, and its arguments read as before. No condition. -/
import Derived.Test.YtmpgkgnbhjnelaaLawc
import Derived.Test.YtmpgkgnbhjnelaaOpen
namespace Go.Proofs.Ytmpgkgnbhjnelaa.physApart
open Go.ChangeShapes Go.WideShapes Go.ChangeAt Go.RowKit Go.Deep
theorem own : ownKnob Try.prog.godebug = none := by kernel_rfl
theorem laidOut : laidOutB Try.prog = true := by kernel_rfl
set_option maxRecDepth 100000 in
theorem lifted (os : Os) (started : os.Started) (H : Type) (enc : TypeId × Value → H) :
    ReturnsInHanded {} Try.checked os 5 .any (Rows.physApartSpec.pre6 enc Try.prog Try.f5 Rows.physApartRow.domain false) (Rows.physApartSpec.post enc Try.prog Try.f5 false true false false) := by
  refine returnsInHanded_of_change (C := Try.checked) own started (by kernel_rfl) Try.func5
    (ChangeSpec.witness6 (enc := enc) (C := Try.checked) false ⟨#[], #[.slice none 0 0, .agg #[.int .i64 0, .int .i64 0, .int .i64 0, .int .u64 0]], []⟩ 8 (by kernel_rfl) (by kernel_rfl) (by kernel_rfl) (by kernel_rfl)) ?_
  intro W base args ds gs before hval0 hW hcnd _
  have hval : ∀ (j : Nat) t v, Try.f5.params[j]? = some t → args[j]? = some v → Value.okWide Try.prog W .any base t v := hval0
  have hW' := hW
  obtain ⟨p, q, hA0, hV, rfl, hfz, hnd⟩ := hW
  have hA : DataW.TrodAll enc Try.prog W 0 (fun _ => true) true Try.f5.params.toList args.toList ds p := hA0
  rw [Try.params5] at hA hval
  obtain ⟨v0, vs0, d0, ds0, p0, q0, hargs, rfl, rfl, h0, r0⟩ := trodAll_cons hA
  obtain ⟨v1, vs1, d1, ds1, p1, q1, rfl, rfl, rfl, h1, r1⟩ := trodAll_cons r0
  obtain ⟨rfl, rfl, rfl⟩ := trodAll_nil r1
  obtain rfl : args = #[v0, v1] := by cases args; simp_all
  obtain ⟨rfl, rfl⟩ := trodVars_none hV
  have k0 := h0
  have lt0 : ∀ x ∈ p0, x.block < W.heap.size := by obtain ⟨m, hm⟩ := k0; exact DataW.trod_lt m _ _ _ hm
  obtain ⟨c0, s0, f0⟩ := open_sl 4 Try.underlying34 (by kernel_rfl) (okWide_slice Try.underlying34 (hval 0 34 v0 rfl rfl)) h0
  obtain ⟨l0, rfl, w0⟩ := all_of (f := Deed03.cells) (p := Deed03.wf) (fun c hc => by obtain ⟨fuel, x, hx⟩ := f0 c hc; obtain ⟨d, hd, hw⟩ := open_Deed03 hx; exact ⟨d, hd, hw⟩)
  have k1 := h1
  have lt1 : ∀ x ∈ p1, x.block < W.heap.size := by obtain ⟨m, hm⟩ := k1; exact DataW.trod_lt m _ _ _ hm
  obtain ⟨l1, w1, e1⟩ : ∃ d : Deed03, d.wf ∧ v1 = .agg d.cells.toArray := by
    obtain ⟨cs, rfl, _⟩ := okWide_struct Try.underlying40 (hval 1 40 v1 rfl rfl)
    obtain ⟨fuel, hf⟩ := h1
    obtain ⟨d, hd, hw⟩ := open_Deed03 hf
    exact ⟨d, hw, by rw [← hd]; simp [Value.cells]⟩
  subst e1
  refine (law03_PhysApart W l0 w0 v0 s0 l1 w1).mono fun e W' ⟨he, hgr⟩ => ?_
  have bel : Below W.heap.size W W' := grow_below hgr (Nat.le_refl _) (by intro k hk; cases hk)
  subst he
  exact ⟨_, rfl, _, _, _, [], _, [], hW', trodAll_mk1 (shut_bool Try.underlying4 _), (trodAll_cons_mk (Below.trod laidOut (by kernel_rfl) (of_decide_eq_true (by kernel_rfl)) k0 bel lt0) (trodAll_cons_mk (Below.trod laidOut (by kernel_rfl) (of_decide_eq_true (by kernel_rfl)) k1 bel lt1) trodAll_mk0)), rfl, bel.frame _, fun h => by cases h⟩
theorem over : Rows.physApartRow.holds Try.pinned (OpenSpec.ofChange Rows.physApartSpec) :=
  OpenClaim.holds_of_wide 5 Try.f5 rfl rfl rfl rfl rfl rfl rfl ⟨rfl, rfl, rfl, rfl, rfl⟩ rfl rfl rfl rfl rfl (by kernel_rfl) Try.func5 (by kernel_rfl)
    (of_decide_eq_true (by kernel_rfl)) (by unfold Func.isWrapper; first | (rw [if_pos (by decide +kernel)]; kernel_rfl) | (rw [if_neg (by decide +kernel)]; exact ⟨rfl, rfl⟩))
    (fun os started H enc _ => lifted os started H enc)
end Go.Proofs.Ytmpgkgnbhjnelaa.physApart
namespace Go.Proofs.Ytmpgkgnbhjnelaa
theorem physApart_holds : Rows.PhysApartSaid := physApart.over
#print axioms physApart_holds
end Go.Proofs.Ytmpgkgnbhjnelaa
