/- Areas at their beginnings: there is such a geometry. -/
import Derived.Test.YtoijkpgcaokhlaaGreatPart18
import Derived.IntWalk
set_option linter.unusedVariables false
set_option linter.unusedSimpArgs false
namespace Go.Rv
open Go Go.RowKit Go.Proofs
attribute [local irreducible] wpQuiet tab0 tabV
attribute [local go_sem ↓] ld_M14 st_M14 al_M14
attribute [local go_sem] cellsAt_new0 cellsAt_lt cellsAt_drew size_bytesV

/-- two new blocks are told. -/
def own2 (own : Nat → Nat) (a ta b tb : Nat) : Nat → Nat := fun k => if k = a then ta else if k = b then tb else own k
theorem Step.two {own : Nat → Nat} {w w' : World} (hk : Keeps (fun _ => False) w w') (hs : Settled own w) {a ta b tb : Nat} (ha : w.heap.size ≤ a ∧ a < w'.heap.size) (hb : w.heap.size ≤ b ∧ b < w'.heap.size) : Step (fun t => t = ta ∨ t = tb) w own w' (own2 own a ta b tb) ∧ Settled (own2 own a ta b tb) w' := by
  refine ⟨⟨hk.mono fun _ _ h => h.elim, fun k h => ?_, fun k h => ?_⟩, fun k h => ?_⟩
  · unfold own2; rw [if_neg (by omega), if_neg (by omega)]
  · unfold own2; split
    · exact .inr (.inl rfl)
    · split
      · exact .inr (.inr rfl)
      · exact .inl (hs k h)
  · unfold own2; rw [if_neg (by omega), if_neg (by omega)]
    exact hs k (Nat.le_trans hk.size h)
attribute [local go_sem] cellsFree_new0 size_z_M14
theorem geom_six {w : World} {b : Nat} {e : TypeId} {g : GeomS} (h : w.heap[b]? = some (.cells #[.int .i64 g.domains, .int .i64 g.zones, .int .i64 g.size, .int .i64 g.blocks, .int .i64 g.spare, .int .i64 g.opn] e (0, 0))) : w.cell? ⟨b, 0, none⟩ = some (.int .i64 g.domains) ∧ w.cell? ⟨b, 1, none⟩ = some (.int .i64 g.zones) ∧ w.cell? ⟨b, 2, none⟩ = some (.int .i64 g.size) ∧ w.cell? ⟨b, 3, none⟩ = some (.int .i64 g.blocks) ∧ w.cell? ⟨b, 4, none⟩ = some (.int .i64 g.spare) ∧ w.cell? ⟨b, 5, none⟩ = some (.int .i64 g.opn) :=
  ⟨cell_of h 0, cell_of h 1, cell_of h 2, cell_of h 3, cell_of h 4, cell_of h 5⟩

def play34 (mb ab : Nat) (sv : Value) (size opn : Int) (g : GeomS) : Array Value := #[.int .i64 g.domains, .int .i64 g.zones, .int .i64 g.size, .int .i64 g.blocks, .int .i64 g.spare, .int .i64 g.opn, .pointer (some ⟨mb, 0, none⟩), .pointer (some ⟨ab, 0, none⟩), sv, .int .i64 size, .int .i64 opn, .int .i64 0, .bool false, .slice none 0 0, .slice none 0 0, .int .i64 g.domains, .int .i64 g.zones, .int .i64 g.size, .int .i64 g.blocks, .int .i64 g.spare, .int .i64 g.opn, .int .i64 g.domains, .int .i64 g.zones, .slice none 0 0, .slice none 0 0, .int .i64 (-1), .int .i64 (-1), .int .i64 0, .int .i64 (-1), .int .i64 (-1), .int .i64 (-1), .int .i64 (-1), .int .i64 (-1), .int .i64 (-1)]
theorem play34_eq (mb ab : Nat) (sv : Value) (size opn : Int) (g : GeomS) : play34 mb ab sv size opn g = #[.int .i64 g.domains, .int .i64 g.zones, .int .i64 g.size, .int .i64 g.blocks, .int .i64 g.spare, .int .i64 g.opn, .pointer (some ⟨mb, 0, none⟩), .pointer (some ⟨ab, 0, none⟩)] ++ a15V sv size opn g := by simp [play34, a15V]

set_option maxHeartbeats 500000 in
set_option maxRecDepth 100000 in
theorem started_yes (g : GeomS) (hg : g.right = true) (ha : g.all ≤ 64) (own : Nat → Nat) (w : World) (hset : Settled own w) : Calls Tryz.prog 12 #[geomV g] w fun e w' => ∃ py mb ab pb db plb own', e = .returned (.tuple #[.pointer (some ⟨py, 0, none⟩), .bool true]) ∧ PlayAt w' own' py mb ab g ∧ AreAt w' own' ab mb pb db plb (area0 g) ∧ Step anyTag w own w' own' ∧ Settled own' w' := by
  have hsm := g.right_small hg
  have hal := g.all_bd hsm
  obtain ⟨nz, hnz⟩ : ∃ nz : Nat, g.domains * g.zones = nz := ⟨g.all.toNat, by have := hal.1; unfold GeomS.all at *; omega⟩
  have hnz1 : 1 ≤ nz ∧ nz ≤ 64 := by
    have h1 : (3 : Int) * 1 ≤ g.domains * g.zones := Int.mul_le_mul hsm.d.1 hsm.z.1 (by omega) (by have := hsm.d; omega)
    unfold GeomS.all at ha; omega
  have HG := hid (And.intro hg (And.intro hsm (And.intro hnz (And.intro hset (show g.all.toNat = nz by unfold GeomS.all; omega)))))
  have d1 : decide (64 < g.domains * g.zones) = false := by unfold GeomS.all at ha; simpa using ha
  have hd := hsm.d
  have hz := hsm.z
  have hal0 : 0 ≤ g.domains * g.zones := by omega
  have hal1 : g.domains * g.zones ≤ 512 := by omega
  clear hg ha hset hsm hal hnz
  unfold geomV
  go_enter Tryz.func12, Tryz.ntmps12
  go_wp2_with fail
  refine Calls.mono (refRight_calls g _) ?_
  rintro e w1 ⟨rfl, hk⟩
  rw [HG.out.1]
  have hk2 : Keeps (fun _ => False) w w1 := Keeps.trans (by repeat (first | exact Keeps.refl _ _ | refine Keeps.alloc ?_ _ | refine Keeps.drew ?_ | refine Keeps.drewN ?_ _ | refine Keeps.trans ?_ (by assumption))) hk
  have hb := hk.heap (heap_old _ _ (heap_new w _)) id
  have hx := hk.heap (heap_new (w.alloc _) _) id
  rw [World.size_alloc] at hx
  obtain ⟨c0, c1, c2, c3, c4, c5⟩ := geom_six hb
  have H1 := hid (And.intro hb (And.intro hx hk2))
  clear hk hk2 hb hx
  go_wp2_with fail
  rw [HG.out.2.2.1]
  refine Calls.mono (dr_new own nz g.size g.opn (by omega) (by have := HG.out.2.1.s; omega) (by have := HG.out.2.1.o; omega) _ (HG.out.2.2.2.1.keeps H1.out.2.2)) ?_
  rintro e w2 ⟨pb, db, ownB, rfl, hd2, hs2, hset2⟩
  have o0 : ∀ k, w.heap.size ≤ k → ¬ drvTag (own k) := fun k hk => by rw [HG.out.2.2.2.1 k hk]; unfold drvTag devTag; omega
  have hb2 := hs2.heap H1.out.1 (o0 _ (Nat.le_refl _))
  have hx2 := hs2.heap H1.out.2.1 (o0 _ (by omega))
  have hst2 : Step anyTag w own w2 ownB := (Step.kept (A := anyTag) (H1.out.2.2.mono fun _ _ h => h.elim) HG.out.2.2.2.1).1.trans (hs2.mono fun t h => by unfold anyTag drvTag devTag at *; omega)
  obtain ⟨c0, c1, c2, c3, c4, c5⟩ := geom_six hb2
  have ownB0 : ownB w.heap.size = 0 ∧ ownB (w.heap.size + 1) = 0 := ⟨(hs2.agree _ (lt_of H1.out.1)).trans (HG.out.2.2.2.1 _ (Nat.le_refl _)), (hs2.agree _ (lt_of H1.out.2.1)).trans (HG.out.2.2.2.1 _ (by omega))⟩
  have H2 := hid (And.intro hd2 (And.intro hst2 (And.intro hset2 (And.intro hb2 (And.intro hx2 ownB0)))))
  clear hd2 hst2 hset2 hb2 hx2 ownB0 hs2 o0
  have mn : ∀ X, Keeps (fun _ => False) w2 X → Calls Tryz.prog 25 #[.pointer (some ⟨pb, 0, none⟩), .agg #[.int .i64 g.domains, .int .i64 g.zones, .int .i64 g.size, .int .i64 g.blocks, .int .i64 g.spare, .int .i64 g.opn], .agg (tabV tab0)] X fun e w' => ∃ mb plb own', e = .returned (.tuple #[.pointer (some ⟨mb, 0, none⟩), .int .i64 0]) ∧
      (MirAt w' own' mb pb db plb (mir0 g) ∧ Step anyTag w own w' own' ∧ Settled own' w' ∧ w'.heap[w.heap.size]? = some (.cells #[.int .i64 g.domains, .int .i64 g.zones, .int .i64 g.size, .int .i64 g.blocks, .int .i64 g.spare, .int .i64 g.opn] 23 (0, 0)) ∧ w'.heap[w.heap.size + 1]? = some (.cells #[.int .i64 g.domains, .int .i64 g.zones, .int .i64 g.size, .int .i64 g.blocks, .int .i64 g.spare, .int .i64 g.opn] 37 (0, 0))) ∧
      (w'.cell? ⟨w.heap.size, 0, none⟩ = some (.int .i64 g.domains) ∧ w'.cell? ⟨w.heap.size, 1, none⟩ = some (.int .i64 g.zones) ∧ w'.cell? ⟨w.heap.size, 2, none⟩ = some (.int .i64 g.size) ∧ w'.cell? ⟨w.heap.size, 3, none⟩ = some (.int .i64 g.blocks) ∧ w'.cell? ⟨w.heap.size, 4, none⟩ = some (.int .i64 g.spare) ∧ w'.cell? ⟨w.heap.size, 5, none⟩ = some (.int .i64 g.opn)) := fun X hX => by
    have hdr : DriveAt X ownB pb db (drive0 g) := by
      have := H2.out.1.still hX
      unfold drive0
      rw [HG.out.2.2.2.2]; exact this
    refine (mirnew_good ownB pb db (drive0 g) g X hdr (H2.out.2.2.1.keeps hX) HG.out.1 (by show ((g.all.toNat : Nat) : Int) = g.all; have : g.all = g.domains * g.zones := rfl; omega) rfl).mono ?_
    rintro e w4 ⟨mb, plb, own4, rfl, hm4, hs4, hset4⟩
    have s0 : ¬ (ownB w.heap.size = 4 ∨ poolTag (ownB w.heap.size)) ∧ ¬ (ownB (w.heap.size + 1) = 4 ∨ poolTag (ownB (w.heap.size + 1))) := by
      rw [H2.out.2.2.2.2.2.1, H2.out.2.2.2.2.2.2]; unfold poolTag; omega
    have hb4 := hs4.heap (hX.heap H2.out.2.2.2.1 id) s0.1
    have hx4 := hs4.heap (hX.heap H2.out.2.2.2.2.1 id) s0.2
    exact ⟨mb, plb, own4, rfl, ⟨hm4, (H2.out.2.1.trans (Step.kept (hX.mono fun _ _ h => h.elim) H2.out.2.2.1).1).trans (hs4.mono fun t h => by unfold anyTag poolTag at *; omega), hset4, hb4, hx4⟩, geom_six hb4⟩
  have MN := hid mn
  clear mn
  go_wp2_with fail
  go_region_held3 (fun X => X.cell? ⟨w.heap.size, 0, none⟩ = some (.int .i64 g.domains) ∧ X.cell? ⟨w.heap.size, 1, none⟩ = some (.int .i64 g.zones) ∧ X.cell? ⟨w.heap.size, 2, none⟩ = some (.int .i64 g.size) ∧ X.cell? ⟨w.heap.size, 3, none⟩ = some (.int .i64 g.blocks) ∧ X.cell? ⟨w.heap.size, 4, none⟩ = some (.int .i64 g.spare) ∧ X.cell? ⟨w.heap.size, 5, none⟩ = some (.int .i64 g.opn))
    (repeat (first | assumption | exact ⟨c0, c1, c2, c3, c4, c5⟩))
    (first | (go_at_call 26; refine Calls.mono (cnew_calls _) ?_; rintro e w3 ⟨rfl, hk3⟩; have s6 := geom_six (hk3.heap (heap_d H2.out.2.2.2.1) id))
           | (go_at_call 25; refine Calls.mono (MN.out _ (Keeps.trans ((Keeps.refl _ _).drew) hk3)) ?_; rintro e w4 ⟨mb, plb, own4, rfl, hx4, s7⟩; have H4 := hid hx4; clear hx4))
  clear c0 c1 c2 c3 c4 c5
  have HS : Hid (∀ X, Keeps (fun _ => False) w4 X → (X.cell? ⟨w.heap.size, 0, none⟩ = some (.int .i64 g.domains) ∧ X.cell? ⟨w.heap.size, 1, none⟩ = some (.int .i64 g.zones) ∧ X.cell? ⟨w.heap.size, 2, none⟩ = some (.int .i64 g.size) ∧ X.cell? ⟨w.heap.size, 3, none⟩ = some (.int .i64 g.blocks) ∧ X.cell? ⟨w.heap.size, 4, none⟩ = some (.int .i64 g.spare) ∧ X.cell? ⟨w.heap.size, 5, none⟩ = some (.int .i64 g.opn)) ∧ X.cell? ⟨w.heap.size + 1, 0, none⟩ = some (.int .i64 g.domains) ∧ X.cell? ⟨w.heap.size + 1, 1, none⟩ = some (.int .i64 g.zones) ∧ X.cell? ⟨w.heap.size + 1, 2, none⟩ = some (.int .i64 g.size) ∧ X.cell? ⟨w.heap.size + 1, 3, none⟩ = some (.int .i64 g.blocks) ∧ X.cell? ⟨w.heap.size + 1, 4, none⟩ = some (.int .i64 g.spare) ∧ X.cell? ⟨w.heap.size + 1, 5, none⟩ = some (.int .i64 g.opn)) := hid fun X hX => ⟨geom_six (hX.heap H4.out.2.2.2.1 id), geom_six (hX.heap H4.out.2.2.2.2 id)⟩
  have hb4 := lt_of H4.out.2.2.2.2
  have hwr : IntKind.i64.wrap (g.domains * g.zones) = (nz : Int) := by rw [HG.out.2.2.1]; exact IntWalk.i64_in _ (by omega)
  clear s6 s7
  go_wp2_with fail
  go_region_held3 (fun X => (X.cell? ⟨w.heap.size, 0, none⟩ = some (.int .i64 g.domains) ∧ X.cell? ⟨w.heap.size, 1, none⟩ = some (.int .i64 g.zones) ∧ X.cell? ⟨w.heap.size, 2, none⟩ = some (.int .i64 g.size) ∧ X.cell? ⟨w.heap.size, 3, none⟩ = some (.int .i64 g.blocks) ∧ X.cell? ⟨w.heap.size, 4, none⟩ = some (.int .i64 g.spare) ∧ X.cell? ⟨w.heap.size, 5, none⟩ = some (.int .i64 g.opn)) ∧ X.cell? ⟨w.heap.size + 1, 0, none⟩ = some (.int .i64 g.domains) ∧ X.cell? ⟨w.heap.size + 1, 1, none⟩ = some (.int .i64 g.zones) ∧ X.cell? ⟨w.heap.size + 1, 2, none⟩ = some (.int .i64 g.size) ∧ X.cell? ⟨w.heap.size + 1, 3, none⟩ = some (.int .i64 g.blocks) ∧ X.cell? ⟨w.heap.size + 1, 4, none⟩ = some (.int .i64 g.spare) ∧ X.cell? ⟨w.heap.size + 1, 5, none⟩ = some (.int .i64 g.opn))
    (first | assumption | (refine HS.out _ ?_; repeat (first | assumption | exact Keeps.refl _ _ | refine Keeps.alloc ?_ _ | refine Keeps.drew ?_ | (refine keeps_put0 ?_ ?_ _; rotate_left; (focus (intro hx; omega))))))
    (first | (go_at_call 55; refine Calls.mono (new07_calls nz g.size g.opn (by omega) _) ?_; rintro e w5 ⟨a5, n5, cp5, rfl, hk5⟩; have hkw5 : Keeps (fun _ => False) w4 w5 := Keeps.trans (by repeat (first | exact Keeps.refl _ _ | refine Keeps.alloc ?_ _ | refine Keeps.drew ?_ | refine Keeps.drewN ?_ _ | refine Keeps.trans ?_ (by assumption))) hk5; have hz5 := hkw5.size; simp only [d07V])
           | (go_at_call 54; have h14 := fun X => new14_calls a5 n5 cp5 g.size g.opn g X; unfold d08V geomV at h14; refine Calls.mono (h14 _) ?_; clear h14; rintro e w6 ⟨rfl, hk6⟩; have hkw6 : Keeps (fun _ => False) w4 w6 := (by first | exact hkw5.trans hk6 | exact (hkw5.alloc _).trans hk6); have hz6 := hkw6.size; have h20 : (m14V (.slice a5 n5 cp5) g.size g.opn g).size = 20 := rfl; have h21 : allOne (m14V (.slice a5 n5 cp5) g.size g.opn g) = true := rfl; try (first | have hfr := cellsFree_full (n := 20) (hk6.heap (heap_new w5 _) id) rfl | have hfr := cellsFree_full (n := 20) (hk6.heap (hk5.heap (heap_d (heap_new w4 _)) id) id) rfl)))
  have hm := putCells_at (heap_new w6 (.cells z_M14 42)) (show z_M14.size = (m14V (.slice a5 n5 cp5) g.size g.opn g).size by rw [size_z_M14]; rfl)
  have hkw7 := keeps_put0 (M := fun _ => False) (a := w4) (b := w6.heap.size) (o := 0) (hkw6.alloc (.cells z_M14 42)) (fun h => by omega) (m14V (.slice a5 n5 cp5) g.size g.opn g)
  have H7 := hid (And.intro hm hkw7)
  clear hm hkw7 hk5 hk6 hkw5 hkw6
  try clear hfr
  generalize putCells (w6.alloc (.cells z_M14 42)) ⟨w6.heap.size, 0, none⟩ (m14V (.slice a5 n5 cp5) g.size g.opn g) = W7 at *
  generalize w6.heap.size = b9 at *
  rotate_left
  have hm := putCells_at (hk6.heap (heap_new w5 (.cells z_M14 42)) id) (show z_M14.size = (m14V (.slice a5 n5 cp5) g.size g.opn g).size by rw [size_z_M14]; rfl)
  have hkw7 := keeps_put0 (M := fun _ => False) (a := w4) (b := w5.heap.size) (o := 0) hkw6 (fun h => by omega) (m14V (.slice a5 n5 cp5) g.size g.opn g)
  have H7 := hid (And.intro hm hkw7)
  clear hm hkw7 hk5 hk6 hkw5 hkw6
  try clear hfr
  generalize putCells w6 ⟨w5.heap.size, 0, none⟩ (m14V (.slice a5 n5 cp5) g.size g.opn g) = W7 at *
  generalize w5.heap.size = b9 at *
  rotate_left
  have hm := putCells_at (hk6.heap (hk5.heap (heap_d (heap_new w4 (.cells z_M14 42))) id) id) (show z_M14.size = (m14V (.slice a5 n5 cp5) g.size g.opn g).size by rw [size_z_M14]; rfl)
  have hkw7 := keeps_put0 (M := fun _ => False) (a := w4) (b := w4.heap.size) (o := 0) hkw6 (fun h => by omega) (m14V (.slice a5 n5 cp5) g.size g.opn g)
  have H7 := hid (And.intro hm hkw7)
  clear hm hkw7 hk5 hk6 hkw5 hkw6
  try clear hfr
  generalize putCells w6 ⟨w4.heap.size, 0, none⟩ (m14V (.slice a5 n5 cp5) g.size g.opn g) = W7 at *
  generalize w4.heap.size = b9 at *
  rotate_left
  all_goals
    have H8 : Hid (∀ X, Keeps (fun _ => False) W7 X → (X.cell? ⟨w.heap.size, 0, none⟩ = some (.int .i64 g.domains) ∧ X.cell? ⟨w.heap.size, 1, none⟩ = some (.int .i64 g.zones) ∧ X.cell? ⟨w.heap.size, 2, none⟩ = some (.int .i64 g.size) ∧ X.cell? ⟨w.heap.size, 3, none⟩ = some (.int .i64 g.blocks) ∧ X.cell? ⟨w.heap.size, 4, none⟩ = some (.int .i64 g.spare) ∧ X.cell? ⟨w.heap.size, 5, none⟩ = some (.int .i64 g.opn)) ∧ cellsAt X ⟨b9, 0, none⟩ 20 = some (m14V (.slice a5 n5 cp5) g.size g.opn g)) := hid fun X hX => ⟨geom_six ((H7.out.2.trans hX).heap H4.out.2.2.2.1 id), cellsAt_full (hX.heap H7.out.1 id) rfl⟩
    clear hz5 hz6 h20 h21
    go_wp2_with fail
    go_region_held3 (fun X => (X.cell? ⟨w.heap.size, 0, none⟩ = some (.int .i64 g.domains) ∧ X.cell? ⟨w.heap.size, 1, none⟩ = some (.int .i64 g.zones) ∧ X.cell? ⟨w.heap.size, 2, none⟩ = some (.int .i64 g.size) ∧ X.cell? ⟨w.heap.size, 3, none⟩ = some (.int .i64 g.blocks) ∧ X.cell? ⟨w.heap.size, 4, none⟩ = some (.int .i64 g.spare) ∧ X.cell? ⟨w.heap.size, 5, none⟩ = some (.int .i64 g.opn)) ∧ cellsAt X ⟨b9, 0, none⟩ 20 = some (m14V (.slice a5 n5 cp5) g.size g.opn g))
      (first | assumption | (refine H8.out _ ?_; repeat (first | assumption | exact Keeps.refl _ _ | refine Keeps.alloc ?_ _ | refine Keeps.drew ?_)))
      (first | (go_at_call 56; refine Calls.mono (anew_calls mb _) ?_; rintro e w8 ⟨rfl, hh8, hk8⟩; first | have hkw8 := hkw9.trans hk8 | have hkw8 : Keeps (fun _ => False) W7 w8 := Keeps.trans (by repeat (first | exact Keeps.refl _ _ | refine Keeps.alloc ?_ _ | refine Keeps.drew ?_ | refine Keeps.drewN ?_ _ | refine Keeps.trans ?_ (by assumption))) hk8)
             | (go_at_call 57; refine Calls.mono (new15_calls a5 n5 cp5 g.size g.opn g _) ?_; rintro e w9 ⟨rfl, hk9⟩; (first | have hkw9 := hkw8.trans hk9 | have hkw9 : Keeps (fun _ => False) W7 w9 := Keeps.trans (by repeat (first | exact Keeps.refl _ _ | refine Keeps.alloc ?_ _ | refine Keeps.drew ?_ | refine Keeps.drewN ?_ _ | refine Keeps.trans ?_ (by assumption))) hk9); simp only [a15V]))
  all_goals
    have hh9 := hk9.heap hh8 id
    have hla := lt_of hh9
    have hza := lt_of hh8
    have H9 := hid (And.intro hh9 hkw9)
    have hz7 := H7.out.2.size
    have e7 : W7.drew.heap.size = W7.heap.size := rfl
    rw [e7] at hla
    clear hh8 hk8 hkw8 hk9 hkw9 hh9 hza e7
    go_wp2_with fail
    go_ret2
    obtain ⟨WF, hWF⟩ : ∃ WF, w9.alloc (.cells (play34 mb W7.heap.size (.slice a5 n5 cp5) g.size g.opn g) 47) = WF := ⟨_, rfl⟩
    have hkF : Keeps (fun _ => False) w4 WF := by rw [← hWF]; exact (H7.out.2.trans H9.out.2).alloc _
    have hsF : WF.heap.size = w9.heap.size + 1 := by rw [← hWF]; simp
    have hpF : WF.heap[w9.heap.size]? = some (.cells (play34 mb W7.heap.size (.slice a5 n5 cp5) g.size g.opn g) 47 (0, 0)) := by rw [← hWF]; exact heap_new _ _
    have haF : WF.heap[W7.heap.size]? = some (.cells (areC mb (fun _ => -1) (fun _ => -1)) 147 (0, 0)) := by rw [← hWF]; exact heap_old _ _ H9.out.1
    rw [play34_eq] at hpF
    unfold play34 at hWF
    try rw [hWF]
    obtain ⟨s1, s2⟩ := Step.two (ta := 7) (tb := 6) hkF H4.out.2.2.1 (a := w9.heap.size) (b := W7.heap.size) ⟨by omega, by omega⟩ ⟨by omega, by omega⟩
    refine ⟨w9.heap.size, mb, W7.heap.size, pb, db, plb, own2 own4 w9.heap.size 7 W7.heap.size 6, rfl, ⟨by simp [own2], a15V (.slice a5 n5 cp5) g.size g.opn g, rfl, hpF⟩, ⟨⟨?_, haF⟩, H4.out.1.kept s1 fun t ht e => ?_⟩, H4.out.2.1.trans (s1.mono fun t h => ?_), s2⟩
    · unfold own2; rw [if_neg (by omega), if_pos rfl]
    · have := mirTag_lt ht; unfold mirTag drvTag devTag poolTag at ht; omega
    · unfold anyTag; omega
end Go.Rv

/- Areas: the anchor. -/
namespace Go.Rv
open Go Go.RowKit Go.Proofs
attribute [local irreducible] wpQuiet tab0 tabV
attribute [local go_sem] cellsAt_new0 cellsAt_lt cellsAt_drew size_bytesV

theorem PlayAt.cells {w : World} {own : Nat → Nat} {py mb ab : Nat} {g : GeomS} (h : PlayAt w own py mb ab g) : w.cell? ⟨py, 6, none⟩ = some (.pointer (some ⟨mb, 0, none⟩)) ∧ w.cell? ⟨py, 7, none⟩ = some (.pointer (some ⟨ab, 0, none⟩)) := by
  obtain ⟨xs, -, hx⟩ := h.ex
  refine ⟨(cell_of hx 6).trans ?_, (cell_of hx 7).trans ?_⟩
  · rw [Array.getElem?_append_left (by simp)]; rfl
  · rw [Array.getElem?_append_left (by simp)]; rfl
theorem PlayAt.kept {w w' : World} {own own' : Nat → Nat} {py mb ab : Nat} {g : GeomS} {B : Nat → Prop} (h : PlayAt w own py mb ab g) (hs : Step B w own w' own') (hB : ¬ B 7) : PlayAt w' own' py mb ab g := by
  obtain ⟨xs, h1, h2⟩ := h.ex
  exact ⟨hs.own h2 h.mine, xs, h1, hs.heap h2 (by rw [h.mine]; exact hB)⟩
theorem PlayAt.still {w w' : World} {own : Nat → Nat} {py mb ab : Nat} {g : GeomS} (h : PlayAt w own py mb ab g) (hk : Keeps (fun _ => False) w w') : PlayAt w' own py mb ab g := by
  obtain ⟨xs, h1, h2⟩ := h.ex
  exact ⟨h.mine, xs, h1, hk.heap h2 id⟩

def gAnc : GeomS := ⟨3, 8, 8, 4, 0, 4⟩
theorem gAnc_right : gAnc.right = true := by decide
/-- the areas of the anchor, behind d steps. -/
def ancD (d : Nat) : AreaS := ⟨mir0 gAnc, fun k => if k < d then (za gAnc k : Int) else -1, fun k => if k < d then (zb gAnc k : Int) else -1⟩
theorem ancD_zero : ancD 0 = area0 gAnc := by simp [ancD, area0]
theorem ancD_set (d : Nat) : (⟨(ancD d).m, put1 (ancD d).cur d (za gAnc d), put1 (ancD d).old d (zb gAnc d)⟩ : AreaS) = ancD (d + 1) := by
  unfold ancD
  refine congr (congrArg (AreaS.mk _) (funext fun k => ?_)) (funext fun k => ?_)
  all_goals
    simp only [put1]
    by_cases c : k = d
    · rw [if_pos c, if_pos (by omega), c]
    · rw [if_neg c]
      by_cases c2 : k < d
      · rw [if_pos c2, if_pos (by omega)]
      · rw [if_neg c2, if_neg (by omega)]
theorem ancD_inv : (ancD 3).Inv gAnc :=
  ⟨gAnc_right, rfl, rfl, fun z => by simp [MirS.isBad, ancD, mir0], ⟨⟨rfl, rfl, by decide⟩, rfl, rfl, fun j _ => .inl rfl, fun j _ _ => rfl⟩, fun i hi => .inr (.inr (.inl ⟨by simp [ancD, hi], by simp [ancD, hi], rfl⟩))⟩
theorem wr_any {t : Nat} (h : wrTag t) : anyTag t := by unfold wrTag drvTag devTag poolTag anyTag at *; omega
theorem wr_seven : ¬ wrTag 7 := by unfold wrTag drvTag devTag poolTag; omega
theorem map0_fits (n : Nat) : (∀ e, e ∈ List.replicate n ent0 → e.Fits) ∧ ((List.replicate n ent0).all fun e => decide (e.seq < 1)) = true := by
  refine ⟨fun e he => ?_, List.all_eq_true.mpr fun e he => ?_⟩
  · rw [(List.mem_replicate.mp he).2]; exact ent0_fits
  · rw [(List.mem_replicate.mp he).2]; rfl

set_option maxHeartbeats 500000 in
set_option maxRecDepth 100000 in
theorem anchor15_calls (w : World) : Calls Tryz.prog 11 #[] w fun e w' => e = .returned (.bool true) ∧ Keeps (fun _ => False) w w' := by
  have hst := fun X => started_yes gAnc gAnc_right (by decide) (fun _ => 0) X (fun _ _ => rfl)
  have hmn := fun own X h => mapnew_good own 5 gAnc gAnc_right X h
  simp only [show geomV gAnc = .agg #[.int .i64 3, .int .i64 8, .int .i64 8, .int .i64 4, .int .i64 0, .int .i64 4] from rfl] at hst hmn
  have HMN := hid hmn
  clear hmn
  go_enter Tryz.func11, Tryz.ntmps11
  go_wp2_with fail
  refine Calls.mono (hst _) ?_
  rintro e w1 ⟨py, mb, ab, pb, db, plb, own1, rfl, hpl, har, hs, hset⟩
  clear hst
  have hb := hs.heap (heap_new w _) (by unfold anyTag; omega)
  have ho := hs.agree w.heap.size (by simp)
  have hs1 : Step anyTag w (fun _ => 0) w1 own1 := (Step.kept (A := anyTag) (w' := w.alloc _) (by repeat (first | exact Keeps.refl _ _ | refine Keeps.alloc ?_ _ | refine Keeps.drew ?_ | refine Keeps.drewN ?_ _ | refine Keeps.trans ?_ (by assumption))) (fun _ _ => rfl)).1.trans hs
  rw [← ancD_zero] at har
  have H1 := hid (And.intro hpl (And.intro har (And.intro hs1 (And.intro hset (And.intro hb ho)))))
  clear hpl har hs hset hb ho hs1
  go_wp2_with fail
  go_loopg [19] 3 (fun (gk : Nat) (x : Value) (wr : World) => ∃ d : Nat, d + gk = 3 ∧ x = .int .i64 d ∧ AreAt wr own1 ab mb pb db plb (ancD d) ∧ PlayAt wr own1 py mb ab gAnc ∧ Step anyTag w (fun _ => 0) wr own1 ∧ Settled own1 wr ∧ wr.heap[w.heap.size]? = some (.cells #[.int .i64 3, .int .i64 8, .int .i64 8, .int .i64 4, .int .i64 0, .int .i64 4] 23 (0, 0)))
  case atStart => exact ⟨0, by omega, rfl, H1.out.2.1, H1.out.1, H1.out.2.2.1, H1.out.2.2.2.1, H1.out.2.2.2.2.1⟩
  case round =>
    obtain ⟨d, hd, rfl, hA, hpl, hs, hset, hb⟩ := hrel
    obtain ⟨-, c7⟩ := hpl.cells
    by_cases c : d < 3
    · have dd : decide ((d : Int) < 3) = true := by simp; omega
      have zf := zab_facts gAnc_right c
      have ez : (gAnc.zones : Int) = 8 := rfl
      have z3 := zf.2.2.1
      have z4 := zf.2.2.2.1
      rw [ez] at z3 z4
      have ea : (za gAnc d : Int) = 8 * d := by omega
      have eb : (zb gAnc d : Int) = 8 * d + 1 := by omega
      clear z3 z4
      have w1' : IntKind.i64.wrap (8 * (d : Int)) = 8 * d := IntWalk.i64_in _ (by omega)
      have w2' : IntKind.i64.wrap (8 * (d : Int) + 1) = 8 * d + 1 := IntWalk.i64_in _ (by omega)
      have hse := aset_ok own1 ab mb pb db plb (ancD d) d c (za gAnc d) (zb gAnc d) wr hA hset (by simp [AreaS.fits, show (ancD d).m.g = gAnc from rfl, zf.2.2.2.2.1]) (by simp [AreaS.fits, show (ancD d).m.g = gAnc from rfl, zf.2.2.2.2.2.1]) (.inl (by omega))
      rw [ancD_set, ea, eb] at hse
      have HX := hid (And.intro hA (And.intro hpl (And.intro hs (And.intro hset hb))))
      have HSE := hid hse
      clear hA hpl hs hset hb hse zf ez ea eb
      go_wp2_with fail
      refine Calls.mono HSE.out ?_
      rintro e w5 ⟨rfl, hA5, hs5, hset5⟩
      have HY := hid (And.intro hA5 (And.intro hs5 hset5))
      clear hA5 hs5 hset5
      go_wp2_with fail
      go_roundg (gk - 1)
      case measure => omega
      case rel =>
        exact ⟨d + 1, by omega, by go_num, HY.out.1, HX.out.2.1.kept HY.out.2.1 (by omega), HX.out.2.2.1.trans (HY.out.2.1.mono fun t h => by unfold anyTag; omega), HY.out.2.2, HY.out.2.1.heap HX.out.2.2.2.2 (by rw [H1.out.2.2.2.2.2]; omega)⟩
    · have hd3 : d = 3 := by omega
      subst hd3
      obtain ⟨b0, b1, b2, b3, b4, b5⟩ := geom_six (g := gAnc) hb
      simp only [gAnc] at b0 b1 b2 b3 b4 b5
      have HX := hid (And.intro hA (And.intro hpl (And.intro hs (And.intro hset hb))))
      clear hA hpl hs hset hb
      go_wp2_with fail
      refine Calls.mono (HMN.out own1 _ HX.out.2.2.2.1) ?_
      rintro e w5 ⟨mpb, own5, rfl, hm5, hs5, hset5⟩
      have t5 : ∀ {t}, areTag t → ¬ t = 5 := fun {t} h => by unfold areTag mirTag drvTag devTag poolTag at h; omega
      have hA5 : AreAt w5 own5 ab mb pb db plb (ancD 3) := ⟨HX.out.1.head.kept hs5 (by omega), HX.out.1.mir.kept hs5 fun t ht => t5 (.inr ht)⟩
      have hp5 := HX.out.2.1.kept hs5 (by omega)
      have h5 := HX.out.2.2.1.trans (hs5.mono (B := anyTag) fun t h => by unfold anyTag; omega)
      obtain ⟨-, c7⟩ := hp5.cells
      obtain ⟨q1, q2, q3, q4, q5⟩ := AreaS.seq_turn ancD_inv (fun z => secsOf tab0 ⟨1, 1, 1, mpb⟩ ⟨gAnc, List.replicate gAnc.blocks.toNat ent0, List.replicate gAnc.all.toNat 0⟩ z gAnc.parts.toNat) (fun z => by simp [secsOf]) 3 (by omega)
      have hwr := aWrite_calls own5 ab mb pb db plb (ancD 3) 5 wrTag_five.1 ⟨1, 1, 1, mpb⟩ ⟨gAnc, List.replicate gAnc.blocks.toNat ent0, List.replicate gAnc.all.toNat 0⟩ w5 hA5 hset5 hm5 rfl (map0_fits _).2 (map0_fits _).1 rfl _ rfl q3 q2.flush.1
      rw [q1] at hwr
      obtain ⟨A6, hA6⟩ : ∃ A6, (AreaS.seq (ancD 3) (fun z => secsOf tab0 ⟨1, 1, 1, mpb⟩ ⟨gAnc, List.replicate gAnc.blocks.toNat ent0, List.replicate gAnc.all.toNat 0⟩ z gAnc.parts.toNat) 3).1 = A6 := ⟨_, rfl⟩
      rw [hA6] at hwr q2 q4
      clear hA6 q1 q3 q5
      have HY := hid (And.intro hwr (And.intro hp5 h5))
      have HQ := hid (And.intro q2 q4)
      clear hwr hm5 hs5 hset5 hA5 hp5 h5 q2 q4 t5
      simp only [snapC] at HY
      go_wp2_with fail
      refine Calls.mono HY.out.1 ?_
      rintro e w6 ⟨rfl, own6, hA6, hs6, hset6⟩
      have hp6 := HY.out.2.1.kept hs6 wr_seven
      have h6 := HY.out.2.2.trans (hs6.mono fun t => wr_any)
      obtain ⟨-, c7⟩ := hp6.cells
      have HZ := hid (And.intro hA6 h6)
      clear hA6 hs6 hset6 hp6 h6
      go_wp2_with fail
      refine Calls.mono (azones_calls own6 ab mb pb db plb _ 2 (by omega) w6 HZ.out.1) ?_
      rintro e w7 ⟨rfl, hk7⟩
      obtain ⟨u1, u2, u3, -⟩ := HQ.out.2 2 (by omega)
      have e1 : (ancD 3).cur 2 = 16 := rfl
      have e2 : (za gAnc 2 : Int) = 16 := rfl
      have e3 : (zb gAnc 2 : Int) = 17 := rfl
      rw [e1] at u1 u2
      rw [e2, e3] at u3
      have u4 : A6.cur 2 = 17 := by omega
      rw [u1, u4]
      clear u1 u2 u3 u4 e1 e2 e3
      have HK := hid hk7
      clear hk7
      go_wp2_with fail
      go_ret
      exact ⟨rfl, (HZ.out.2.keeps.mono fun k _ h => absurd rfl h).trans HK.out⟩
end Go.Rv

/- Areas take turns. -/
namespace Go.Rv
open Go Go.RowKit Go.Proofs
attribute [local irreducible] wpQuiet tab0 tabV
attribute [local go_sem] cellsAt_new0 cellsAt_lt cellsAt_drew size_bytesV

/-- what three zones were, behind d steps. -/
def wasC (A : AreaS) (d : Nat) : Array Value := #[.int .i64 (if 0 < d then A.cur 0 else 0), .int .i64 (if 1 < d then A.cur 1 else 0), .int .i64 (if 2 < d then A.cur 2 else 0)]
theorem wasC_set (A : AreaS) {d : Nat} (h : d < 3) : (wasC A d).setIfInBounds d (.int .i64 (A.cur d)) = wasC A (d + 1) := by
  have : d = 0 ∨ d = 1 ∨ d = 2 := by omega
  rcases this with rfl | rfl | rfl <;> simp [wasC]
theorem wasC_at (A : AreaS) {d : Nat} (h : d < 3) : (wasC A 3)[d]? = some (.int .i64 (A.cur d)) := by
  have : d = 0 ∨ d = 1 ∨ d = 2 := by omega
  rcases this with rfl | rfl | rfl <;> simp [wasC]
theorem areaD_step {g : GeomS} (d : Nat) : areaD g (d + 1) = ⟨{ (areaD g d).m with p := (areaD g (d + 1)).m.p }, put1 (areaD g d).cur d (-1), put1 (areaD g d).old d (za g d)⟩ := by
  rw [(areaD_set g d).1, (areaD_set g d).2]; rfl

set_option maxHeartbeats 500000 in
set_option maxRecDepth 100000 in
theorem turns_no (g : GeomS) (n : Int) (w : World) (hg : g.right = false ∨ 64 < g.all) : Calls Tryz.prog 3 #[geomV g, .int .i64 n] w fun e w' => e = .returned (.bool true) ∧ Keeps (fun _ => False) w w' := by
  have hst := fun X => started_no g hg X
  simp only [geomV] at hst ⊢
  go_enter Tryz.func3, Tryz.ntmps3
  go_wp2_with fail
  refine Calls.mono (anchor15_calls _) ?_
  rintro e w1 ⟨rfl, hk1⟩
  have hb := hk1.heap (heap_new w _) id
  obtain ⟨b0, b1, b2, b3, b4, b5⟩ := geom_six (g := g) hb
  have hk : Keeps (fun _ => False) w w1 := Keeps.trans (by repeat (first | exact Keeps.refl _ _ | refine Keeps.alloc ?_ _ | refine Keeps.drew ?_ | refine Keeps.drewN ?_ _ | refine Keeps.trans ?_ (by assumption))) hk1
  have H1 := hid hk
  clear hk hk1 hb
  go_wp2_with fail
  refine Calls.mono (hst _) ?_
  rintro e w2 ⟨rfl, hk2⟩
  have H2 := hid (H1.out.trans hk2)
  clear hk2
  go_wp2_with fail
  go_ret
  exact ⟨rfl, H2.out⟩

set_option maxHeartbeats 500000 in
set_option maxRecDepth 100000 in
theorem turns_out (g : GeomS) (n : Int) (w : World) (hg : g.right = true) (ha : g.all ≤ 64) (hn : n < 0 ∨ 12 < n) : Calls Tryz.prog 3 #[geomV g, .int .i64 n] w fun e w' => e = .returned (.bool true) ∧ Keeps (fun _ => False) w w' := by
  have hst := fun X => started_yes g hg ha (fun _ => 0) X (fun _ _ => rfl)
  simp only [geomV] at hst ⊢
  go_enter Tryz.func3, Tryz.ntmps3
  go_wp2_with fail
  refine Calls.mono (anchor15_calls _) ?_
  rintro e w1 ⟨rfl, hk1⟩
  have hb := hk1.heap (heap_new w _) id
  obtain ⟨b0, b1, b2, b3, b4, b5⟩ := geom_six (g := g) hb
  have hk : Keeps (fun _ => False) w w1 := Keeps.trans (by repeat (first | exact Keeps.refl _ _ | refine Keeps.alloc ?_ _ | refine Keeps.drew ?_ | refine Keeps.drewN ?_ _ | refine Keeps.trans ?_ (by assumption))) hk1
  have H1 := hid hk
  clear hk hk1 hb
  go_wp2_with fail
  refine Calls.mono (hst _) ?_
  rintro e w2 ⟨py, mb, ab, pb, db, plb, own2, rfl, -, -, hs, -⟩
  have H2 := hid (H1.out.trans (hs.keeps.mono fun k _ h => absurd rfl h))
  clear hs hst
  rcases hn with c | c
  · have d1 : decide (n < 0) = true := by simpa using c
    go_wp2_with fail
    go_ret
    exact ⟨rfl, H2.out⟩
  · have d1 : decide (n < 0) = false := by simp; omega
    have d2 : decide (12 < n) = true := by simpa using c
    go_wp2_with fail
    go_ret
    exact ⟨rfl, H2.out⟩
end Go.Rv
