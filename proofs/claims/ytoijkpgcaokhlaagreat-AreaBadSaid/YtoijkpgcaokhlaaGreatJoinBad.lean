/- Proved: for every geometry and any two slices of numbers, the law AreaBad answers true, and its arguments read behind the call as they read before. No condition. -/
import Derived.Test.YtoijkpgcaokhlaaGreatPart23
import Derived.Test.YtoijkpgcaokhlaaGreatPart21
import Derived.Test.YtoijkpgcaokhlaaGreatRows
set_option linter.unusedVariables false
set_option linter.unusedSimpArgs false
namespace Go.Proofs.YtoijkpgcaokhlaaGreat
open Go Go.RowKit Go.ChangeShapes Go.WideShapes Go.ChangeAt Go.Rv

theorem laidOut : laidOutB Tryz.prog = true := by kernel_rfl
theorem ownK : ownKnob Tryz.prog.godebug = none := by kernel_rfl
theorem badCells : Tryz.prog.cellsOf 3 = 1 ∧ Tryz.prog.cellsOf 23 = 6 := by constructor <;> kernel_rfl
theorem badReads : ∀ t ∈ Tryz.f4.params.toList, Tryz.prog.readableRec t = true ∧ t < Tryz.prog.types.size := by
  rw [Tryz.params4]
  intro t ht
  simp only [List.mem_cons, List.mem_nil_iff, or_false] at ht
  rcases ht with rfl | rfl | rfl
  · exact ⟨by kernel_rfl, of_decide_eq_true (by kernel_rfl)⟩
  · exact ⟨by kernel_rfl, of_decide_eq_true (by kernel_rfl)⟩
  · exact ⟨by kernel_rfl, of_decide_eq_true (by kernel_rfl)⟩

theorem bad_calls (g : GeomS) (o1 o2 : Option Addr) (xs ys : List Int) (c1 c2 : Nat) (w : World) (hx : IntsAt w o1 xs) (hy : IntsAt w o2 ys) : Calls Tryz.prog 4 #[geomV g, .slice o1 xs.length c1, .slice o2 ys.length c2] w fun e w' => e = .returned (.bool true) ∧ Keeps (fun _ => False) w w' := by
  by_cases h1 : g.right = false ∨ 64 < g.all
  · exact bad_no g o1 o2 xs ys c1 c2 w h1
  · have h2 : g.right = true := by
      cases h : g.right
      · exact absurd (.inl h) h1
      · rfl
    have h3 : g.all ≤ 64 := by
      refine Decidable.byContradiction fun c => h1 (.inr (by omega))
    by_cases h4 : 64 < xs.length ∨ 64 < ys.length
    · exact bad_out g o1 o2 xs ys c1 c2 w h2 h3 h4
    · exact bad_in g o1 o2 xs ys c1 c2 w h2 h3 (by omega) hx hy

theorem openNums {H : Type} {enc : TypeId × Value → H} {P : Program} {W : World} {base : Nat} {held : Bool} {t e : TypeId} {v : Value} {d : DataW H} {ps : List MemPlace} {r : Reach} {b0 : Nat}
    (ht : P.underlying t = some (.slice e)) (he : P.underlying e = some (.int .i64)) (hc : P.cellsOf e = 1) (hval : Value.okWide P W r b0 t v) (h : DataW.Trod enc P W base (fun _ => true) held t v d ps) : ∃ o xs c, v = .slice o xs.length c ∧ IntsAt W o xs := by
  obtain ⟨a, len, cap, rfl⟩ := okWide_slice ht hval
  obtain ⟨fuel, hf⟩ := h
  rcases open_ints ht he hc hf with ⟨h1, -⟩ | ⟨a', len', cap', zs, h1, -, hle, -, hz, -, hcell, -⟩
  · have e1 : Value.slice a len cap = .slice none 0 0 := by simpa [Value.cells] using h1
    rw [e1]
    exact ⟨none, [], 0, rfl, ⟨fun i x hx => by simp at hx⟩⟩
  · have e1 : Value.slice a len cap = .slice (some a') len' cap' := by simpa [Value.cells] using h1
    rw [e1]
    simp only [if_true] at hz
    refine ⟨some a', zs.take len', cap', by rw [List.length_take, Nat.min_eq_left (by omega)], ⟨fun i x hx => ?_⟩⟩
    obtain ⟨hi, hxe⟩ := List.getElem?_eq_some_iff.1 hx
    rw [List.length_take] at hi
    obtain ⟨b, off, rfl, hc2⟩ := ints_at hcell (by omega)
    refine ⟨b, off, rfl, ?_⟩
    rw [hc2 i (by omega), ← hxe, List.getElem_take, List.getD_eq_getElem?_getD, List.getElem?_eq_getElem (by omega)]
    rfl

set_option maxRecDepth 100000 in
theorem badLifted (os : Os) (started : os.Started) (H : Type) (enc : TypeId × Value → H) :
    ReturnsInHanded {} Tryz.checked os 4 .any (Rows.areaBadSpec.pre6 enc Tryz.prog Tryz.f4 Rows.areaBadRow.domain false) (Rows.areaBadSpec.post enc Tryz.prog Tryz.f4 false true false false) := by
  refine returnsInHanded_of_change (C := Tryz.checked) ownK started (by kernel_rfl) Tryz.func4
    (ChangeSpec.witness6 (enc := enc) (C := Tryz.checked) false ⟨#[], #[.agg #[.int .i64 0, .int .i64 0, .int .i64 0, .int .i64 0, .int .i64 0, .int .i64 0], .slice none 0 0, .slice none 0 0], []⟩ 8 (by kernel_rfl) (by kernel_rfl) (by kernel_rfl) (by kernel_rfl)) ?_
  intro W base args ds gs before hval0 hW hcnd _
  have hval : ∀ (j : Nat) t v, Tryz.f4.params[j]? = some t → args[j]? = some v → Value.okWide Tryz.prog W .any base t v := hval0
  have hW' := hW
  obtain ⟨p, q, hA0, hV, rfl, -, -⟩ := hW
  have hA : DataW.TrodAll enc Tryz.prog W 0 (fun _ => true) true Tryz.f4.params.toList args.toList ds p := hA0
  have hAk := hA
  rw [Tryz.params4] at hA hval
  obtain ⟨v0, vs0, d0, ds0, p0, q0, hargs, rfl, rfl, h0, r0⟩ := trodAll_cons hA
  obtain ⟨v1, vs1, d1, ds1, p1, q1, rfl, rfl, rfl, h1, r1⟩ := trodAll_cons r0
  obtain ⟨v2, vs2, d2, ds2, p2, q2, rfl, rfl, rfl, h2, r2⟩ := trodAll_cons r1
  obtain ⟨rfl, rfl, rfl⟩ := trodAll_nil r2
  obtain rfl : args = #[v0, v1, v2] := by cases args; simp_all
  obtain ⟨rfl, rfl⟩ := trodVars_none hV
  obtain ⟨a0, a1, a2, a3, a4, a5, rfl⟩ := open_six Tryz.underlying23 Tryz.underlying3 badCells.1 badCells.2 ⟨rfl, rfl⟩ ⟨rfl, rfl⟩ ⟨rfl, rfl⟩ ⟨rfl, rfl⟩ ⟨rfl, rfl⟩ ⟨rfl, rfl⟩ (hval 0 23 v0 rfl rfl) h0
  obtain ⟨o1, xs, c1, rfl, hx⟩ := openNums Tryz.underlying38 Tryz.underlying3 badCells.1 (hval 1 38 v1 rfl rfl) h1
  obtain ⟨o2, ys, c2, rfl, hy⟩ := openNums Tryz.underlying38 Tryz.underlying3 badCells.1 (hval 2 38 v2 rfl rfl) h2
  clear hA0 hval0
  simp only [List.append_nil] at hW' hAk
  refine (bad_calls ⟨a0, a1, a2, a3, a4, a5⟩ o1 o2 xs ys c1 c2 W hx hy).mono fun e W' ⟨he, hk⟩ => ?_
  subst he
  exact ⟨_, rfl, post_true laidOut hk badReads rfl (by kernel_rfl) Tryz.underlying4 hW' hAk rfl⟩

theorem badOver : Rows.areaBadRow.holds Tryz.pinned (OpenSpec.ofChange Rows.areaBadSpec) :=
  OpenClaim.holds_of_wide 4 Tryz.f4 rfl rfl rfl rfl rfl rfl rfl ⟨rfl, rfl, rfl, rfl, rfl⟩ rfl rfl rfl rfl rfl (by kernel_rfl) Tryz.func4 (by kernel_rfl)
    (of_decide_eq_true (by kernel_rfl)) (by unfold Func.isWrapper; first | (rw [if_pos (by decide +kernel)]; kernel_rfl) | (rw [if_neg (by decide +kernel)]; exact ⟨rfl, rfl⟩))
    (fun os started H enc _ => badLifted os started H enc)

/-- THE STATEMENT. -/
theorem areaBad_holds : Rows.AreaBadSaid := badOver

#print axioms areaBad_holds
end Go.Proofs.YtoijkpgcaokhlaaGreat
