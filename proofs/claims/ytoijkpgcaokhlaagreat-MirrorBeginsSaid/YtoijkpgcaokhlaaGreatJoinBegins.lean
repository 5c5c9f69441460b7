/- Proved: for every geometry, every number of zones and every size, the law MirrorBegins answers true, and its arguments read behind the call as they read before. No condition. -/
import Derived.Test.YtoijkpgcaokhlaaGreatPart31
import Derived.Test.YtoijkpgcaokhlaaGreatPart21
import Derived.Test.YtoijkpgcaokhlaaGreatRows
set_option linter.unusedVariables false
set_option linter.unusedSimpArgs false
namespace Go.Proofs.YtoijkpgcaokhlaaGreat
open Go Go.RowKit Go.ChangeShapes Go.WideShapes Go.ChangeAt Go.Rv

theorem laidOut : laidOutB Tryz.prog = true := by kernel_rfl
theorem ownK : ownKnob Tryz.prog.godebug = none := by kernel_rfl
theorem beginsCells : Tryz.prog.cellsOf 3 = 1 ∧ Tryz.prog.cellsOf 23 = 6 := by constructor <;> kernel_rfl
theorem beginsReads : ∀ t ∈ Tryz.f5.params.toList, Tryz.prog.readableRec t = true ∧ t < Tryz.prog.types.size := by
  rw [Tryz.params5]
  intro t ht
  simp only [List.mem_cons, List.mem_nil_iff, or_false] at ht
  rcases ht with rfl | rfl | rfl
  · exact ⟨by kernel_rfl, of_decide_eq_true (by kernel_rfl)⟩
  · exact ⟨by kernel_rfl, of_decide_eq_true (by kernel_rfl)⟩
  · exact ⟨by kernel_rfl, of_decide_eq_true (by kernel_rfl)⟩

theorem begins_calls (g : GeomS) (zones size : Int) (w : World) : Calls Tryz.prog 5 #[geomV g, .int .i64 zones, .int .i64 size] w fun e w' => e = .returned (.bool true) ∧ Keeps (fun _ => False) w w' := by
  by_cases h1 : 64 < zones
  · exact begins_far g zones size w h1
  · by_cases h2 : zones < 1 ∨ ¬ (1 ≤ size ∧ size ≤ 64)
    · exact begins_bad g zones size w (by omega) h2
    · obtain ⟨k, rfl⟩ : ∃ k : Nat, zones = k := ⟨zones.toNat, by omega⟩
      exact begins_in g k size w (by omega) (by omega)

set_option maxRecDepth 100000 in
theorem beginsLifted (os : Os) (started : os.Started) (H : Type) (enc : TypeId × Value → H) :
    ReturnsInHanded {} Tryz.checked os 5 .any (Rows.mirrorBeginsSpec.pre6 enc Tryz.prog Tryz.f5 Rows.mirrorBeginsRow.domain false) (Rows.mirrorBeginsSpec.post enc Tryz.prog Tryz.f5 false true false false) := by
  refine returnsInHanded_of_change (C := Tryz.checked) ownK started (by kernel_rfl) Tryz.func5
    (ChangeSpec.witness6 (enc := enc) (C := Tryz.checked) false ⟨#[], #[.agg #[.int .i64 0, .int .i64 0, .int .i64 0, .int .i64 0, .int .i64 0, .int .i64 0], .int .i64 0, .int .i64 0], []⟩ 8 (by kernel_rfl) (by kernel_rfl) (by kernel_rfl) (by kernel_rfl)) ?_
  intro W base args ds gs before hval0 hW hcnd _
  have hval : ∀ (j : Nat) t v, Tryz.f5.params[j]? = some t → args[j]? = some v → Value.okWide Tryz.prog W .any base t v := hval0
  have hW' := hW
  obtain ⟨p, q, hA0, hV, rfl, -, -⟩ := hW
  have hA : DataW.TrodAll enc Tryz.prog W 0 (fun _ => true) true Tryz.f5.params.toList args.toList ds p := hA0
  have hAk := hA
  rw [Tryz.params5] at hA hval
  obtain ⟨v0, vs0, d0, ds0, p0, q0, hargs, rfl, rfl, h0, r0⟩ := trodAll_cons hA
  obtain ⟨v1, vs1, d1, ds1, p1, q1, rfl, rfl, rfl, h1, r1⟩ := trodAll_cons r0
  obtain ⟨v2, vs2, d2, ds2, p2, q2, rfl, rfl, rfl, h2, r2⟩ := trodAll_cons r1
  obtain ⟨rfl, rfl, rfl⟩ := trodAll_nil r2
  obtain rfl : args = #[v0, v1, v2] := by cases args; simp_all
  obtain ⟨rfl, rfl⟩ := trodVars_none hV
  obtain ⟨a0, a1, a2, a3, a4, a5, rfl⟩ := open_six Tryz.underlying23 Tryz.underlying3 beginsCells.1 beginsCells.2 ⟨rfl, rfl⟩ ⟨rfl, rfl⟩ ⟨rfl, rfl⟩ ⟨rfl, rfl⟩ ⟨rfl, rfl⟩ ⟨rfl, rfl⟩ (hval 0 23 v0 rfl rfl) h0
  obtain ⟨n, rfl, -, -, -⟩ := open_int Tryz.underlying3 (hval 1 3 v1 rfl rfl) h1
  obtain ⟨m, rfl, -, -, -⟩ := open_int Tryz.underlying3 (hval 2 3 v2 rfl rfl) h2
  clear hA0 hval0
  simp only [List.append_nil] at hW' hAk
  refine (begins_calls ⟨a0, a1, a2, a3, a4, a5⟩ n m W).mono fun e W' ⟨he, hk⟩ => ?_
  subst he
  exact ⟨_, rfl, post_true laidOut hk beginsReads rfl (by kernel_rfl) Tryz.underlying4 hW' hAk rfl⟩

theorem beginsOver : Rows.mirrorBeginsRow.holds Tryz.pinned (OpenSpec.ofChange Rows.mirrorBeginsSpec) :=
  OpenClaim.holds_of_wide 5 Tryz.f5 rfl rfl rfl rfl rfl rfl rfl ⟨rfl, rfl, rfl, rfl, rfl⟩ rfl rfl rfl rfl rfl (by kernel_rfl) Tryz.func5 (by kernel_rfl)
    (of_decide_eq_true (by kernel_rfl)) (by unfold Func.isWrapper; first | (rw [if_pos (by decide +kernel)]; kernel_rfl) | (rw [if_neg (by decide +kernel)]; exact ⟨rfl, rfl⟩))
    (fun os started H enc _ => beginsLifted os started H enc)

/-- THE STATEMENT. -/
theorem mirrorBegins_holds : Rows.MirrorBeginsSaid := beginsOver

#print axioms mirrorBegins_holds
end Go.Proofs.YtoijkpgcaokhlaaGreat
