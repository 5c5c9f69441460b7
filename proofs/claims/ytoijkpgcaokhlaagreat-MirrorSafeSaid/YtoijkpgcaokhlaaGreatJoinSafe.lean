/- Proved: for every geometry, any two slices of numbers and every number, the law MirrorSafe answers true, and its arguments read behind the call as they read before. No condition. -/
import Derived.Test.YtoijkpgcaokhlaaGreatPart34
import Derived.Test.YtoijkpgcaokhlaaGreatPart21
import Derived.Test.YtoijkpgcaokhlaaGreatRows
set_option linter.unusedVariables false
set_option linter.unusedSimpArgs false
namespace Go.Proofs.YtoijkpgcaokhlaaGreat
open Go Go.RowKit Go.ChangeShapes Go.WideShapes Go.ChangeAt Go.Rv

theorem laidOut : laidOutB Tryz.prog = true := by kernel_rfl
theorem ownK : ownKnob Tryz.prog.godebug = none := by kernel_rfl
theorem lawCells : Tryz.prog.cellsOf 3 = 1 ∧ Tryz.prog.cellsOf 23 = 6 := by constructor <;> kernel_rfl
theorem lawReads : ∀ t ∈ Tryz.f7.params.toList, Tryz.prog.readableRec t = true ∧ t < Tryz.prog.types.size := by
  rw [Tryz.params7]
  intro t ht
  simp only [List.mem_cons, List.mem_nil_iff, or_false] at ht
  rcases ht with rfl | rfl | rfl | rfl
  · exact ⟨by kernel_rfl, of_decide_eq_true (by kernel_rfl)⟩
  · exact ⟨by kernel_rfl, of_decide_eq_true (by kernel_rfl)⟩
  · exact ⟨by kernel_rfl, of_decide_eq_true (by kernel_rfl)⟩
  · exact ⟨by kernel_rfl, of_decide_eq_true (by kernel_rfl)⟩

theorem law_calls (g : GeomS) (o1 : Option Addr) (xs1 : List Int) (c1 : Nat) (i1 : Int) (o2 : Option Addr) (xs2 : List Int) (c2 : Nat) (w : World) (hx1 : IntsAt w o1 xs1) (hx2 : IntsAt w o2 xs2) : Calls Tryz.prog 7 #[geomV g, .slice o1 xs1.length c1, .int .i64 i1, .slice o2 xs2.length c2] w fun e w' => e = .returned (.bool true) ∧ Keeps (fun _ => False) w w' := by
  by_cases h1 : g.right = false ∨ 64 < g.all
  · exact safe_no g o1 o2 xs1 xs2 i1 c1 c2 w h1
  · have h2 : g.right = true := by
      cases h : g.right
      · exact absurd (.inl h) h1
      · rfl
    have h3 : g.all ≤ 64 := by refine Decidable.byContradiction fun c => h1 (.inr (by omega))
    by_cases h4 : 64 < xs1.length ∨ i1 < 0 ∨ 100 < i1
    · exact safe_out g o1 o2 xs1 xs2 i1 c1 c2 w h2 h3 h4
    · obtain ⟨k, rfl⟩ : ∃ k : Nat, i1 = k := ⟨i1.toNat, by omega⟩
      exact safe_in g o1 o2 xs1 xs2 k c1 c2 w h2 h3 (by omega) (by omega) hx1 hx2

theorem openNums {H : Type} {enc : TypeId × Value → H} {P : Program} {W : World} {base : Nat} {held : Bool} {t e : TypeId} {v : Value} {d : DataW H} {ps : List MemPlace} {r : Reach} {b0 : Nat}
    (ht : P.underlying t = some (.slice e)) (he : P.underlying e = some (.int .i64)) (hc : P.cellsOf e = 1) (hval : Value.okWide P W r b0 t v) (h : DataW.Trod enc P W base (fun _ => true) held t v d ps) : ∃ o xs c, v = .slice o xs.length c ∧ IntsAt W o xs := by
  obtain ⟨a, len, cap, rfl⟩ := okWide_slice ht hval
  obtain ⟨fuel, hf⟩ := h
  rcases open_ints ht he hc hf with ⟨h1, -⟩ | ⟨a', len', cap', zs, h1, -, hle, -, hz, -, hcell, -⟩
  · have e1 : Value.slice a len cap = .slice none 0 0 := by simpa [Value.cells] using h1
    rw [e1]
    exact ⟨none, [], 0, rfl, ⟨fun i x hx => by simp at hx⟩⟩
  · have e1 : Value.slice a len cap = .slice (some a') len' cap' := by simpa [Value.cells] using h1
    rw [e1]
    simp only [if_true] at hz
    refine ⟨some a', zs.take len', cap', by rw [List.length_take, Nat.min_eq_left (by omega)], ⟨fun i x hx => ?_⟩⟩
    obtain ⟨hi, hxe⟩ := List.getElem?_eq_some_iff.1 hx
    rw [List.length_take] at hi
    obtain ⟨b, off, rfl, hc2⟩ := ints_at hcell (by omega)
    refine ⟨b, off, rfl, ?_⟩
    rw [hc2 i (by omega), ← hxe, List.getElem_take, List.getD_eq_getElem?_getD, List.getElem?_eq_getElem (by omega)]
    rfl

set_option maxRecDepth 100000 in
theorem lawLifted (os : Os) (started : os.Started) (H : Type) (enc : TypeId × Value → H) :
    ReturnsInHanded {} Tryz.checked os 7 .any (Rows.mirrorSafeSpec.pre6 enc Tryz.prog Tryz.f7 Rows.mirrorSafeRow.domain false) (Rows.mirrorSafeSpec.post enc Tryz.prog Tryz.f7 false true false false) := by
  refine returnsInHanded_of_change (C := Tryz.checked) ownK started (by kernel_rfl) Tryz.func7
    (ChangeSpec.witness6 (enc := enc) (C := Tryz.checked) false ⟨#[], #[.agg #[.int .i64 0, .int .i64 0, .int .i64 0, .int .i64 0, .int .i64 0, .int .i64 0], .slice none 0 0, .int .i64 0, .slice none 0 0], []⟩ 8 (by kernel_rfl) (by kernel_rfl) (by kernel_rfl) (by kernel_rfl)) ?_
  intro W base args ds gs before hval0 hW hcnd _
  have hval : ∀ (j : Nat) t v, Tryz.f7.params[j]? = some t → args[j]? = some v → Value.okWide Tryz.prog W .any base t v := hval0
  have hW' := hW
  obtain ⟨p, q, hA0, hV, rfl, -, -⟩ := hW
  have hA : DataW.TrodAll enc Tryz.prog W 0 (fun _ => true) true Tryz.f7.params.toList args.toList ds p := hA0
  have hAk := hA
  rw [Tryz.params7] at hA hval
  obtain ⟨v0, vs0, d0, ds0, p0, q0, hargs, rfl, rfl, h0, r0⟩ := trodAll_cons hA
  obtain ⟨v1, vs1, d1, ds1, p1, q1, rfl, rfl, rfl, h1, r1⟩ := trodAll_cons r0
  obtain ⟨v2, vs2, d2, ds2, p2, q2, rfl, rfl, rfl, h2, r2⟩ := trodAll_cons r1
  obtain ⟨v3, vs3, d3, ds3, p3, q3, rfl, rfl, rfl, h3, r3⟩ := trodAll_cons r2
  obtain ⟨rfl, rfl, rfl⟩ := trodAll_nil r3
  obtain rfl : args = #[v0, v1, v2, v3] := by cases args; simp_all
  obtain ⟨rfl, rfl⟩ := trodVars_none hV
  obtain ⟨a0, a1, a2, a3, a4, a5, rfl⟩ := open_six Tryz.underlying23 Tryz.underlying3 lawCells.1 lawCells.2 ⟨rfl, rfl⟩ ⟨rfl, rfl⟩ ⟨rfl, rfl⟩ ⟨rfl, rfl⟩ ⟨rfl, rfl⟩ ⟨rfl, rfl⟩ (hval 0 23 v0 rfl rfl) h0
  obtain ⟨o1, xs1, c1, rfl, hx1⟩ := openNums Tryz.underlying38 Tryz.underlying3 lawCells.1 (hval 1 38 v1 rfl rfl) h1
  obtain ⟨i1, rfl, -, -, -⟩ := open_int Tryz.underlying3 (hval 2 3 v2 rfl rfl) h2
  obtain ⟨o2, xs2, c2, rfl, hx2⟩ := openNums Tryz.underlying38 Tryz.underlying3 lawCells.1 (hval 3 38 v3 rfl rfl) h3
  clear hA0 hval0
  simp only [List.append_nil] at hW' hAk
  refine (law_calls ⟨a0, a1, a2, a3, a4, a5⟩ o1 xs1 c1 i1 o2 xs2 c2 W hx1 hx2).mono fun e W' ⟨he, hk⟩ => ?_
  subst he
  exact ⟨_, rfl, post_true laidOut hk lawReads rfl (by kernel_rfl) Tryz.underlying4 hW' hAk rfl⟩

theorem lawOver : Rows.mirrorSafeRow.holds Tryz.pinned (OpenSpec.ofChange Rows.mirrorSafeSpec) :=
  OpenClaim.holds_of_wide 7 Tryz.f7 rfl rfl rfl rfl rfl rfl rfl ⟨rfl, rfl, rfl, rfl, rfl⟩ rfl rfl rfl rfl rfl (by kernel_rfl) Tryz.func7 (by kernel_rfl)
    (of_decide_eq_true (by kernel_rfl)) (by unfold Func.isWrapper; first | (rw [if_pos (by decide +kernel)]; kernel_rfl) | (rw [if_neg (by decide +kernel)]; exact ⟨rfl, rfl⟩))
    (fun os started H enc _ => lawLifted os started H enc)

/-- THE STATEMENT. -/
theorem mirrorSafe_holds : Rows.MirrorSafeSaid := lawOver

#print axioms mirrorSafe_holds
end Go.Proofs.YtoijkpgcaokhlaaGreat
