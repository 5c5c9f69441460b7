/- Proved: for every geometry and every number of rounds, the law AreaTurns answers true, and its arguments read behind the call as they read before. No condition. -/
import Derived.Test.YtoijkpgcaokhlaaGreatPart20
import Derived.Test.YtoijkpgcaokhlaaGreatPart21
import Derived.Test.YtoijkpgcaokhlaaGreatRows
set_option linter.unusedVariables false
set_option linter.unusedSimpArgs false
namespace Go.Proofs.YtoijkpgcaokhlaaGreat
open Go Go.RowKit Go.ChangeShapes Go.WideShapes Go.ChangeAt Go.Rv

theorem laidOut : laidOutB Tryz.prog = true := by kernel_rfl
theorem ownK : ownKnob Tryz.prog.godebug = none := by kernel_rfl
theorem turnsCells : Tryz.prog.cellsOf 3 = 1 ∧ Tryz.prog.cellsOf 23 = 6 := by constructor <;> kernel_rfl
theorem turnsReads : ∀ t ∈ Tryz.f3.params.toList, Tryz.prog.readableRec t = true ∧ t < Tryz.prog.types.size := by
  rw [Tryz.params3]
  intro t ht
  simp only [List.mem_cons, List.mem_nil_iff, or_false] at ht
  rcases ht with rfl | rfl
  · exact ⟨by kernel_rfl, of_decide_eq_true (by kernel_rfl)⟩
  · exact ⟨by kernel_rfl, of_decide_eq_true (by kernel_rfl)⟩

theorem turns_calls (g : GeomS) (n : Int) (w : World) : Calls Tryz.prog 3 #[geomV g, .int .i64 n] w fun e w' => e = .returned (.bool true) ∧ Keeps (fun _ => False) w w' := by
  by_cases h1 : g.right = false ∨ 64 < g.all
  · exact turns_no g n w h1
  · have h2 : g.right = true := by
      cases h : g.right
      · exact absurd (.inl h) h1
      · rfl
    have h3 : g.all ≤ 64 := by
      refine Decidable.byContradiction fun c => h1 (.inr (by omega))
    by_cases h4 : n < 0 ∨ 12 < n
    · exact turns_out g n w h2 h3 h4
    · obtain ⟨k, rfl⟩ : ∃ k : Nat, n = k := ⟨n.toNat, by omega⟩
      exact turns_in g k w h2 h3 (by omega)

set_option maxRecDepth 100000 in
theorem turnsLifted (os : Os) (started : os.Started) (H : Type) (enc : TypeId × Value → H) :
    ReturnsInHanded {} Tryz.checked os 3 .any (Rows.areaTurnsSpec.pre6 enc Tryz.prog Tryz.f3 Rows.areaTurnsRow.domain false) (Rows.areaTurnsSpec.post enc Tryz.prog Tryz.f3 false true false false) := by
  refine returnsInHanded_of_change (C := Tryz.checked) ownK started (by kernel_rfl) Tryz.func3
    (ChangeSpec.witness6 (enc := enc) (C := Tryz.checked) false ⟨#[], #[.agg #[.int .i64 0, .int .i64 0, .int .i64 0, .int .i64 0, .int .i64 0, .int .i64 0], .int .i64 0], []⟩ 8 (by kernel_rfl) (by kernel_rfl) (by kernel_rfl) (by kernel_rfl)) ?_
  intro W base args ds gs before hval0 hW hcnd _
  have hval : ∀ (j : Nat) t v, Tryz.f3.params[j]? = some t → args[j]? = some v → Value.okWide Tryz.prog W .any base t v := hval0
  have hW' := hW
  obtain ⟨p, q, hA0, hV, rfl, -, -⟩ := hW
  have hA : DataW.TrodAll enc Tryz.prog W 0 (fun _ => true) true Tryz.f3.params.toList args.toList ds p := hA0
  have hAk := hA
  rw [Tryz.params3] at hA hval
  obtain ⟨v0, vs0, d0, ds0, p0, q0, hargs, rfl, rfl, h0, r0⟩ := trodAll_cons hA
  obtain ⟨v1, vs1, d1, ds1, p1, q1, rfl, rfl, rfl, h1, r1⟩ := trodAll_cons r0
  obtain ⟨rfl, rfl, rfl⟩ := trodAll_nil r1
  obtain rfl : args = #[v0, v1] := by cases args; simp_all
  obtain ⟨rfl, rfl⟩ := trodVars_none hV
  obtain ⟨a0, a1, a2, a3, a4, a5, rfl⟩ := open_six Tryz.underlying23 Tryz.underlying3 turnsCells.1 turnsCells.2 ⟨rfl, rfl⟩ ⟨rfl, rfl⟩ ⟨rfl, rfl⟩ ⟨rfl, rfl⟩ ⟨rfl, rfl⟩ ⟨rfl, rfl⟩ (hval 0 23 v0 rfl rfl) h0
  obtain ⟨n, rfl, -, -, -⟩ := open_int Tryz.underlying3 (hval 1 3 v1 rfl rfl) h1
  clear hA0 hval0
  simp only [List.append_nil] at hW' hAk
  refine (turns_calls ⟨a0, a1, a2, a3, a4, a5⟩ n W).mono fun e W' ⟨he, hk⟩ => ?_
  subst he
  exact ⟨_, rfl, post_true laidOut hk turnsReads rfl (by kernel_rfl) Tryz.underlying4 hW' hAk rfl⟩

theorem turnsOver : Rows.areaTurnsRow.holds Tryz.pinned (OpenSpec.ofChange Rows.areaTurnsSpec) :=
  OpenClaim.holds_of_wide 3 Tryz.f3 rfl rfl rfl rfl rfl rfl rfl ⟨rfl, rfl, rfl, rfl, rfl⟩ rfl rfl rfl rfl rfl (by kernel_rfl) Tryz.func3 (by kernel_rfl)
    (of_decide_eq_true (by kernel_rfl)) (by unfold Func.isWrapper; first | (rw [if_pos (by decide +kernel)]; kernel_rfl) | (rw [if_neg (by decide +kernel)]; exact ⟨rfl, rfl⟩))
    (fun os started H enc _ => turnsLifted os started H enc)

/-- THE STATEMENT. -/
theorem areaTurns_holds : Rows.AreaTurnsSaid := turnsOver

#print axioms areaTurns_holds
end Go.Proofs.YtoijkpgcaokhlaaGreat
