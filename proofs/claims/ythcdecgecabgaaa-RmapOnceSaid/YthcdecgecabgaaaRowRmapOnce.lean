/- For every input the law paviorlaw11.RmapOnce returns true, and its arguments read as before. No condition. -/
import Derived.Test.YthcdecgecabgaaaRmon
import Derived.Test.YthcdecgecabgaaaOpen
namespace Go.Proofs.Ythcdecgecabgaaa.rmapOnce
open Go.ChangeShapes Go.WideShapes Go.ChangeAt Go.RowKit Go.Deep
theorem own : ownKnob Try.prog.godebug = none := by kernel_rfl
theorem laidOut : laidOutB Try.prog = true := by kernel_rfl
set_option maxRecDepth 100000 in
theorem lifted (os : Os) (started : os.Started) (H : Type) (enc : TypeId × Value → H) :
    ReturnsInHanded {} Try.checked os 9 .any (Rows.rmapOnceSpec.pre6 enc Try.prog Try.f9 Rows.rmapOnceRow.domain false) (Rows.rmapOnceSpec.post enc Try.prog Try.f9 false true false false) := by
  refine returnsInHanded_of_change (C := Try.checked) own started (by kernel_rfl) Try.func9
    (ChangeSpec.witness6 (enc := enc) (C := Try.checked) false ⟨#[], #[.slice none 0 0, .int .i64 0], []⟩ 8 (by kernel_rfl) (by kernel_rfl) (by kernel_rfl) (by kernel_rfl)) ?_
  intro W base args ds gs before hval0 hW hcnd _
  have hval : ∀ (j : Nat) t v, Try.f9.params[j]? = some t → args[j]? = some v → Value.okWide Try.prog W .any base t v := hval0
  have hW' := hW
  obtain ⟨p, q, hA0, hV, rfl, hfz, hnd⟩ := hW
  have hA : DataW.TrodAll enc Try.prog W 0 (fun _ => true) true Try.f9.params.toList args.toList ds p := hA0
  rw [Try.params9] at hA hval
  obtain ⟨v0, vs0, d0, ds0, p0, q0, hargs, rfl, rfl, h0, r0⟩ := trodAll_cons hA
  obtain ⟨v1, vs1, d1, ds1, p1, q1, rfl, rfl, rfl, h1, r1⟩ := trodAll_cons r0
  obtain ⟨rfl, rfl, rfl⟩ := trodAll_nil r1
  obtain rfl : args = #[v0, v1] := by cases args; simp_all
  obtain ⟨rfl, rfl⟩ := trodVars_none hV
  have k0 := h0
  have lt0 : ∀ x ∈ p0, x.block < W.heap.size := by obtain ⟨m, hm⟩ := k0; exact DataW.trod_lt m _ _ _ hm
  obtain ⟨c0, s0, f0⟩ := open_sl 5 Try.underlying72 (by kernel_rfl) (okWide_slice Try.underlying72 (hval 0 72 v0 rfl rfl)) h0
  obtain ⟨l0, rfl, w0⟩ := all_of (f := Deed11.cells) (p := Deed11.wf) (fun c hc => by obtain ⟨fuel, x, hx⟩ := f0 c hc; obtain ⟨d, hd, hw⟩ := open_Deed11 hx; exact ⟨d, hd, hw⟩)
  obtain ⟨a1, rfl, rfl, rfl, w1⟩ := open_int Try.underlying3 (hval 1 3 v1 rfl rfl) h1
  refine (law11_RmapOnce W l0 w0 v0 s0 a1 w1).mono fun e W' ⟨he, hgr⟩ => ?_
  have bel : Below W.heap.size W W' := grow_below hgr (Nat.le_refl _) (by intro k hk; cases hk)
  subst he
  exact ⟨_, rfl, _, _, _, [], _, [], hW', trodAll_mk1 (shut_bool Try.underlying4 _), (trodAll_cons_mk (Below.trod laidOut (by kernel_rfl) (of_decide_eq_true (by kernel_rfl)) k0 bel lt0) (trodAll_cons_mk (shut_int Try.underlying3 w1) trodAll_mk0)), rfl, bel.frame _, fun h => by cases h⟩
theorem over : Rows.rmapOnceRow.holds Try.pinned (OpenSpec.ofChange Rows.rmapOnceSpec) :=
  OpenClaim.holds_of_wide 9 Try.f9 rfl rfl rfl rfl rfl rfl rfl ⟨rfl, rfl, rfl, rfl, rfl⟩ rfl rfl rfl rfl rfl (by kernel_rfl) Try.func9 (by kernel_rfl)
    (of_decide_eq_true (by kernel_rfl)) (by unfold Func.isWrapper; first | (rw [if_pos (by decide +kernel)]; kernel_rfl) | (rw [if_neg (by decide +kernel)]; exact ⟨rfl, rfl⟩))
    (fun os started H enc _ => lifted os started H enc)
end Go.Proofs.Ythcdecgecabgaaa.rmapOnce
namespace Go.Proofs.Ythcdecgecabgaaa
theorem rmapOnce_holds : Rows.RmapOnceSaid := rmapOnce.over
#print axioms rmapOnce_holds
end Go.Proofs.Ythcdecgecabgaaa
