/- Proved: for every geometry and every three numbers, the law MirrorTrims answers true, and its arguments read behind the call as they read before. No condition. -/
import Derived.Test.YtoijkpgcaokhlaaGreatPart32
import Derived.Test.YtoijkpgcaokhlaaGreatPart21
import Derived.Test.YtoijkpgcaokhlaaGreatRows
set_option linter.unusedVariables false
set_option linter.unusedSimpArgs false
namespace Go.Proofs.YtoijkpgcaokhlaaGreat
open Go Go.RowKit Go.ChangeShapes Go.WideShapes Go.ChangeAt Go.Rv

theorem laidOut : laidOutB Tryz.prog = true := by kernel_rfl
theorem ownK : ownKnob Tryz.prog.godebug = none := by kernel_rfl
theorem lawCells : Tryz.prog.cellsOf 3 = 1 ∧ Tryz.prog.cellsOf 23 = 6 := by constructor <;> kernel_rfl
theorem lawReads : ∀ t ∈ Tryz.f6.params.toList, Tryz.prog.readableRec t = true ∧ t < Tryz.prog.types.size := by
  rw [Tryz.params6]
  intro t ht
  simp only [List.mem_cons, List.mem_nil_iff, or_false] at ht
  rcases ht with rfl | rfl | rfl | rfl
  · exact ⟨by kernel_rfl, of_decide_eq_true (by kernel_rfl)⟩
  · exact ⟨by kernel_rfl, of_decide_eq_true (by kernel_rfl)⟩
  · exact ⟨by kernel_rfl, of_decide_eq_true (by kernel_rfl)⟩
  · exact ⟨by kernel_rfl, of_decide_eq_true (by kernel_rfl)⟩

theorem law_calls (g : GeomS) (i1 : Int) (i2 : Int) (i3 : Int) (w : World)  : Calls Tryz.prog 6 #[geomV g, .int .i64 i1, .int .i64 i2, .int .i64 i3] w fun e w' => e = .returned (.bool true) ∧ Keeps (fun _ => False) w w' := by
  by_cases h1 : g.right = false ∨ 64 < g.all
  · exact trims_no g i1 i2 i3 w h1
  · have h2 : g.right = true := by
      cases h : g.right
      · exact absurd (.inl h) h1
      · rfl
    exact trims_yes g i1 i2 i3 w h2 (by refine Decidable.byContradiction fun c => h1 (.inr (by omega)))

set_option maxRecDepth 100000 in
theorem lawLifted (os : Os) (started : os.Started) (H : Type) (enc : TypeId × Value → H) :
    ReturnsInHanded {} Tryz.checked os 6 .any (Rows.mirrorTrimsSpec.pre6 enc Tryz.prog Tryz.f6 Rows.mirrorTrimsRow.domain false) (Rows.mirrorTrimsSpec.post enc Tryz.prog Tryz.f6 false true false false) := by
  refine returnsInHanded_of_change (C := Tryz.checked) ownK started (by kernel_rfl) Tryz.func6
    (ChangeSpec.witness6 (enc := enc) (C := Tryz.checked) false ⟨#[], #[.agg #[.int .i64 0, .int .i64 0, .int .i64 0, .int .i64 0, .int .i64 0, .int .i64 0], .int .i64 0, .int .i64 0, .int .i64 0], []⟩ 8 (by kernel_rfl) (by kernel_rfl) (by kernel_rfl) (by kernel_rfl)) ?_
  intro W base args ds gs before hval0 hW hcnd _
  have hval : ∀ (j : Nat) t v, Tryz.f6.params[j]? = some t → args[j]? = some v → Value.okWide Tryz.prog W .any base t v := hval0
  have hW' := hW
  obtain ⟨p, q, hA0, hV, rfl, -, -⟩ := hW
  have hA : DataW.TrodAll enc Tryz.prog W 0 (fun _ => true) true Tryz.f6.params.toList args.toList ds p := hA0
  have hAk := hA
  rw [Tryz.params6] at hA hval
  obtain ⟨v0, vs0, d0, ds0, p0, q0, hargs, rfl, rfl, h0, r0⟩ := trodAll_cons hA
  obtain ⟨v1, vs1, d1, ds1, p1, q1, rfl, rfl, rfl, h1, r1⟩ := trodAll_cons r0
  obtain ⟨v2, vs2, d2, ds2, p2, q2, rfl, rfl, rfl, h2, r2⟩ := trodAll_cons r1
  obtain ⟨v3, vs3, d3, ds3, p3, q3, rfl, rfl, rfl, h3, r3⟩ := trodAll_cons r2
  obtain ⟨rfl, rfl, rfl⟩ := trodAll_nil r3
  obtain rfl : args = #[v0, v1, v2, v3] := by cases args; simp_all
  obtain ⟨rfl, rfl⟩ := trodVars_none hV
  obtain ⟨a0, a1, a2, a3, a4, a5, rfl⟩ := open_six Tryz.underlying23 Tryz.underlying3 lawCells.1 lawCells.2 ⟨rfl, rfl⟩ ⟨rfl, rfl⟩ ⟨rfl, rfl⟩ ⟨rfl, rfl⟩ ⟨rfl, rfl⟩ ⟨rfl, rfl⟩ (hval 0 23 v0 rfl rfl) h0
  obtain ⟨i1, rfl, -, -, -⟩ := open_int Tryz.underlying3 (hval 1 3 v1 rfl rfl) h1
  obtain ⟨i2, rfl, -, -, -⟩ := open_int Tryz.underlying3 (hval 2 3 v2 rfl rfl) h2
  obtain ⟨i3, rfl, -, -, -⟩ := open_int Tryz.underlying3 (hval 3 3 v3 rfl rfl) h3
  clear hA0 hval0
  simp only [List.append_nil] at hW' hAk
  refine (law_calls ⟨a0, a1, a2, a3, a4, a5⟩ i1 i2 i3 W ).mono fun e W' ⟨he, hk⟩ => ?_
  subst he
  exact ⟨_, rfl, post_true laidOut hk lawReads rfl (by kernel_rfl) Tryz.underlying4 hW' hAk rfl⟩

theorem lawOver : Rows.mirrorTrimsRow.holds Tryz.pinned (OpenSpec.ofChange Rows.mirrorTrimsSpec) :=
  OpenClaim.holds_of_wide 6 Tryz.f6 rfl rfl rfl rfl rfl rfl rfl ⟨rfl, rfl, rfl, rfl, rfl⟩ rfl rfl rfl rfl rfl (by kernel_rfl) Tryz.func6 (by kernel_rfl)
    (of_decide_eq_true (by kernel_rfl)) (by unfold Func.isWrapper; first | (rw [if_pos (by decide +kernel)]; kernel_rfl) | (rw [if_neg (by decide +kernel)]; exact ⟨rfl, rfl⟩))
    (fun os started H enc _ => lawLifted os started H enc)

/-- THE STATEMENT. -/
theorem mirrorTrims_holds : Rows.MirrorTrimsSaid := lawOver

#print axioms mirrorTrims_holds
end Go.Proofs.YtoijkpgcaokhlaaGreat
