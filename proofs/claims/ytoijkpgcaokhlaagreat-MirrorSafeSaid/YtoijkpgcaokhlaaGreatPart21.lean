/- A law that answers true and turns nothing old is its row's law: no program in sight. -/
import Derived.Test.YtoijkpgcaokhlaaGreatPart01
import Derived.WalkKit
import Derived.ProofKit
import Derived.OpenShut
import Derived.Carry
import Derived.JoinedOf
set_option linter.unusedVariables false
set_option linter.unusedSimpArgs false
namespace Go.Rv
open Go Go.RowKit Go.ChangeShapes Go.WideShapes Go.ChangeAt

theorem trodAll_below {H : Type} {enc : TypeId × Value → H} {P : Program} (hl : laidOutB P = true) {W W' : World} (hb : Below W.heap.size W W') : ∀ {ts : List TypeId} {vs : List Value} {ds : List (DataW H)} {ps : List MemPlace}, (∀ t ∈ ts, P.readableRec t = true ∧ t < P.types.size) →
    DataW.TrodAll enc P W 0 (fun _ => true) true ts vs ds ps → (∀ x ∈ ps, x.block < W.heap.size) → DataW.TrodAll enc P W' 0 (fun b => decide (b < W.heap.size)) true ts vs ds ps
  | [], [], [], _, _, h, _ => h
  | _ :: _, _ :: _, _ :: _, _, hT, ⟨p, q, h1, h2, e⟩, hs =>
    ⟨p, q, Below.trod hl (hT _ (List.mem_cons.2 (Or.inl rfl))).1 (hT _ (List.mem_cons.2 (Or.inl rfl))).2 h1 hb (fun x hx => hs x (by rw [e]; exact List.mem_append_left _ hx)),
      trodAll_below hl hb (fun t ht => hT t (List.mem_cons.2 (Or.inr ht))) h2 (fun x hx => hs x (by rw [e]; exact List.mem_append_right _ hx)), e⟩

/-- the row's post, of a law that answers true. -/
theorem post_true {H : Type} {enc : TypeId × Value → H} {P : Program} {f : Func} {s : ChangeSpec} {apart : Bool} {W W' : World} {args : Array Value} {ds : List (DataW H)} {p : List MemPlace} {tb : TypeId}
    (hl : laidOutB P = true) (hk : Keeps (fun _ => False) W W') (hT : ∀ t ∈ f.params.toList, P.readableRec t = true ∧ t < P.types.size) (hv : s.vars = []) (hr : f.resultTypes = #[tb]) (hb : P.underlying tb = some .bool)
    (hW : DataW.Whole enc P f.params.toList s.vars apart W args.toList ds [] p) (hA : DataW.TrodAll enc P W 0 (fun _ => true) true f.params.toList args.toList ds p)
    (hfn : s.fn H ds = { results := [.lit (.bool true)], args := ds }) : s.post enc P f apart true false false W args (.bool true) W' := by
  have hB : Below W.heap.size W W' := hk.below (Nat.le_refl _) fun _ _ => id
  refine ⟨ds, [], p, [], p, [], hW, ?_, ?_, ?_, hB.frame _, fun h => by cases h⟩
  · rw [List.append_nil, hfn, hr]
    exact trodAll_mk1 (shut_bool hb _)
  · rw [List.append_nil, hfn]
    exact trodAll_below hl hB hT hA fun x hx => by simpa using hW.lt x hx
  · rw [List.append_nil, hfn, hv]
    exact rfl

/-- a struct of six numbers. -/
theorem open_six {H : Type} {enc : TypeId × Value → H} {P : Program} {W : World} {base : Nat} {sp : Nat → Bool} {held : Bool} {t ti : TypeId} {n0 n1 n2 n3 n4 n5 : Field} {v : Value} {d : DataW H} {ps : List MemPlace} {r : Reach} {b0 : Nat}
    (ht : P.underlying t = some (.struct #[n0, n1, n2, n3, n4, n5])) (hi : P.underlying ti = some (.int .i64)) (hc : P.cellsOf ti = 1) (hct : P.cellsOf t = 6)
    (h0 : n0.type = ti ∧ n0.offset = 0) (h1 : n1.type = ti ∧ n1.offset = 1) (h2 : n2.type = ti ∧ n2.offset = 2) (h3 : n3.type = ti ∧ n3.offset = 3) (h4 : n4.type = ti ∧ n4.offset = 4) (h5 : n5.type = ti ∧ n5.offset = 5)
    (hval : Value.okWide P W r b0 t v) (h : DataW.Trod enc P W base sp held t v d ps) : ∃ a0 a1 a2 a3 a4 a5 : Int, v = .agg #[.int .i64 a0, .int .i64 a1, .int .i64 a2, .int .i64 a3, .int .i64 a4, .int .i64 a5] := by
  obtain ⟨cs, rfl, hsz⟩ := okWide_struct ht hval
  rw [hct] at hsz
  obtain ⟨l⟩ := cs
  match l, hsz with
  | [c0, c1, c2, c3, c4, c5], _ =>
  obtain ⟨fuel, hf⟩ := h
  obtain ⟨xs, n, -, -, -, hlen, hx⟩ := DataW.trod_struct ht hf
  have key : ∀ (i : Nat) (fd : Field) (c : Value), (#[n0, n1, n2, n3, n4, n5] : Array Field)[i]? = some fd → fd.type = ti → fd.offset = i → ([c0, c1, c2, c3, c4, c5] : List Value)[i]? = some c → ∃ a : Int, c = .int .i64 a := by
    intro i fd c hfd e1 e2 hci
    have hlt : i < 6 := by
      have := (Array.getElem?_eq_some_iff.1 hfd).1
      simpa using this
    have hh := hx i fd hfd
    obtain ⟨y, hy⟩ : ∃ y, xs[i]? = some y := ⟨_, List.getElem?_eq_getElem (by rw [hlen]; simpa using hlt)⟩
    rw [hy, e1, e2, hc] at hh
    have he : (((Value.agg #[c0, c1, c2, c3, c4, c5]).cells.toList.drop i).take 1) = [c] := by
      have : i = 0 ∨ i = 1 ∨ i = 2 ∨ i = 3 ∨ i = 4 ∨ i = 5 := by omega
      rcases this with rfl | rfl | rfl | rfl | rfl | rfl <;> simp_all [Value.cells]
    rw [he] at hh
    obtain ⟨a, e, -, -⟩ := DataW.trod_int hi hh
    exact ⟨a, by simpa using e⟩
  obtain ⟨a0, rfl⟩ := key 0 n0 c0 rfl h0.1 h0.2 rfl
  obtain ⟨a1, rfl⟩ := key 1 n1 c1 rfl h1.1 h1.2 rfl
  obtain ⟨a2, rfl⟩ := key 2 n2 c2 rfl h2.1 h2.2 rfl
  obtain ⟨a3, rfl⟩ := key 3 n3 c3 rfl h3.1 h3.2 rfl
  obtain ⟨a4, rfl⟩ := key 4 n4 c4 rfl h4.1 h4.2 rfl
  obtain ⟨a5, rfl⟩ := key 5 n5 c5 rfl h5.1 h5.2 rfl
  exact ⟨a0, a1, a2, a3, a4, a5, rfl⟩
end Go.Rv
