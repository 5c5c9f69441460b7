/- Mirrors at their beginnings: the law's. -/
import Derived.Test.YtoijkpgcaokhlaaGreatPart19
import Derived.Test.YtoijkpgcaokhlaaGreatPart25
import Derived.Test.YtoijkpgcaokhlaaGreatPart29
import Derived.Test.YtoijkpgcaokhlaaGreatPart17
import Derived.Test.YtoijkpgcaokhlaaGreatPart18
import Derived.Test.YtoijkpgcaokhlaaGreatPart27
import Derived.Test.YtoijkpgcaokhlaaGreatPart15
set_option linter.unusedVariables false
set_option linter.unusedSimpArgs false
namespace Go.Rv
open Go Go.RowKit Go.Proofs
attribute [local irreducible] wpQuiet tab0 tabV
attribute [local go_sem ↓] ld_M14 st_M14 al_M14
attribute [local go_sem] cellsAt_new0 cellsAt_lt cellsAt_drew size_bytesV cellsFree_new0 size_z_M14

section
variable {P : Program} {fn : Func} {t u v : Tmp} {ty : TypeId} {n : Nat} {a : Addr} {cs : Array Value} {w : World}
theorem results_tct (h : fn.results = #[.tmp u, .cell t ty, .tmp v]) (hr : RowTy P ty n) (tmps : Array Value) (ha : tmps.getD t undef = .pointer (some a)) (hc : cellsAt w a n = some cs) :
    (results fn tmps).run P w = .ok (.tuple #[tmps.getD u undef, .agg cs, tmps.getD v undef]) w := by
  have ha' : tmps[t]?.getD undef = .pointer (some a) := by simpa using ha
  simp [results, h, asAddr, ha', run_loadVar_cells w a ty n hr hc]
end
theorem bd_M14_0 (w : World) : (Instr.build 42 #[]).run Tryz.prog w = .ok (.agg z_M14) w := by kernel_rfl
attribute [local go_sem] bd_M14_0

set_option maxHeartbeats 1000000 in
set_option maxRecDepth 100000 in
theorem started14_no (g : GeomS) (hg : g.right = false ∨ 64 < g.all) (w : World) : Calls Tryz.prog 33 #[geomV g] w fun e w' => e = .returned (.tuple #[.pointer none, .agg z_M14, .bool false]) ∧ Keeps (fun _ => False) w w' := by
  have ez : allOne z_M14 = true := rfl
  have hr1 : ((w.alloc (.cells #[.int .i64 g.domains, .int .i64 g.zones, .int .i64 g.size, .int .i64 g.blocks, .int .i64 g.spare, .int .i64 g.opn] 23)).alloc (.cells z_M14 42)).heap[w.heap.size + 1]? = some (.cells z_M14 42 (0, 0)) := by
    have := heap_new (w.alloc (.cells #[.int .i64 g.domains, .int .i64 g.zones, .int .i64 g.size, .int .i64 g.blocks, .int .i64 g.spare, .int .i64 g.opn] 23)) (.cells z_M14 42)
    rwa [World.size_alloc] at this
  cases hr : g.right with
  | false =>
    have HR := hid hr
    have HR1 := hid hr1
    clear hg hr hr1
    unfold geomV
    go_enter Tryz.func33, Tryz.ntmps33
    go_wp2_with fail
    refine Calls.mono (refRight_calls g _) ?_
    rintro e w1 ⟨rfl, hk⟩
    rw [HR.out]
    have hx := hk.heap (heap_old _ _ HR1.out) id
    have hfr := cellsFree_full (n := 20) hx size_z_M14
    have hkw : Keeps (fun _ => False) w w1 := Keeps.trans (by repeat (first | exact Keeps.refl _ _ | refine Keeps.alloc ?_ _ | refine Keeps.drew ?_ | refine Keeps.drewN ?_ _ | refine Keeps.trans ?_ (by assumption))) hk
    have HK := hid (And.intro hx hkw)
    clear hk hx hkw
    go_wp2_with fail
    refine bodyPost_ret (results_tct rfl row_M14 _ rfl (cellsAt_full (putCells_at HK.out.1 rfl) size_z_M14)) rfl ⟨rfl, ?_⟩
    exact keeps_put0 HK.out.2 (fun h => absurd h (by omega)) _
  | true =>
    have HR := hid hr
    have HR1 := hid hr1
    have ha : 64 < g.domains * g.zones := by rw [hr] at hg; exact hg.resolve_left (by decide)
    have d1 : decide (64 < g.domains * g.zones) = true := by simpa using ha
    have hsm := g.right_small hr
    have hd := hsm.d
    have hz := hsm.z
    have hal := g.all_bd hsm
    unfold GeomS.all at hal
    obtain ⟨hal0, hal1⟩ := hal
    clear hg hr hsm hr1
    unfold geomV
    go_enter Tryz.func33, Tryz.ntmps33
    go_wp2_with fail
    refine Calls.mono (refRight_calls g _) ?_
    rintro e w1 ⟨rfl, hk⟩
    rw [HR.out]
    have hx := hk.heap (heap_old _ _ HR1.out) id
    have hfr := cellsFree_full (n := 20) hx size_z_M14
    have hkw : Keeps (fun _ => False) w w1 := Keeps.trans (by repeat (first | exact Keeps.refl _ _ | refine Keeps.alloc ?_ _ | refine Keeps.drew ?_ | refine Keeps.drewN ?_ _ | refine Keeps.trans ?_ (by assumption))) hk
    have hb := hk.heap (heap_old _ _ (heap_old _ _ (heap_new w _))) id
    have c0 := cell_of hb 0
    have c1 := cell_of hb 1
    have HK := hid (And.intro hx hkw)
    clear hk hx hkw hb
    go_wp2_with fail
    refine bodyPost_ret (results_tct rfl row_M14 _ rfl (cellsAt_full (putCells_at HK.out.1 rfl) size_z_M14)) rfl ⟨rfl, ?_⟩
    exact keeps_put0 HK.out.2 (fun h => absurd h (by omega)) _
end Go.Rv

/- Mirrors at their beginnings: there is such a geometry. -/
namespace Go.Rv
open Go Go.RowKit Go.Proofs
attribute [local irreducible] wpQuiet tab0 tabV
attribute [local go_sem ↓] ld_M14 st_M14 al_M14
attribute [local go_sem] cellsAt_new0 cellsAt_lt cellsAt_drew size_bytesV cellsFree_new0 size_z_M14

set_option maxHeartbeats 500000 in
set_option maxRecDepth 100000 in
theorem started14_yes (g : GeomS) (hg : g.right = true) (ha : g.all ≤ 64) (own : Nat → Nat) (w : World) (hset : Settled own w) : Calls Tryz.prog 33 #[geomV g] w fun e w' => ∃ mb pb db plb own' ys, e = .returned (.tuple #[.pointer (some ⟨mb, 0, none⟩), .agg ys, .bool true]) ∧ ys.size = 20 ∧ allOne ys = true ∧ MirAt w' own' mb pb db plb (mir0 g) ∧ Step anyTag w own w' own' ∧ Settled own' w' := by
  have hsm := g.right_small hg
  have hal := g.all_bd hsm
  obtain ⟨nz, hnz⟩ : ∃ nz : Nat, g.domains * g.zones = nz := ⟨g.all.toNat, by have := hal.1; unfold GeomS.all at *; omega⟩
  have hnz1 : 1 ≤ nz ∧ nz ≤ 64 := by
    have h1 : (3 : Int) * 1 ≤ g.domains * g.zones := Int.mul_le_mul hsm.d.1 hsm.z.1 (by omega) (by have := hsm.d; omega)
    unfold GeomS.all at ha; omega
  have HG := hid (And.intro hg (And.intro hsm (And.intro hnz (And.intro hset (show g.all.toNat = nz by unfold GeomS.all; omega)))))
  have d1 : decide (64 < g.domains * g.zones) = false := by unfold GeomS.all at ha; simpa using ha
  have hd := hsm.d
  have hz := hsm.z
  have hal0 : 0 ≤ g.domains * g.zones := by omega
  have hal1 : g.domains * g.zones ≤ 512 := by omega
  have hr1 : ((w.alloc (.cells #[.int .i64 g.domains, .int .i64 g.zones, .int .i64 g.size, .int .i64 g.blocks, .int .i64 g.spare, .int .i64 g.opn] 23)).alloc (.cells z_M14 42)).heap[w.heap.size + 1]? = some (.cells z_M14 42 (0, 0)) := by
    have := heap_new (w.alloc (.cells #[.int .i64 g.domains, .int .i64 g.zones, .int .i64 g.size, .int .i64 g.blocks, .int .i64 g.spare, .int .i64 g.opn] 23)) (.cells z_M14 42)
    rwa [World.size_alloc] at this
  have HR1 := hid hr1
  clear hg ha hset hsm hal hnz hr1
  unfold geomV
  go_enter Tryz.func33, Tryz.ntmps33
  go_wp2_with fail
  refine Calls.mono (refRight_calls g _) ?_
  rintro e w1 ⟨rfl, hk⟩
  rw [HG.out.1]
  have hk2 : Keeps (fun _ => False) w w1 := Keeps.trans (by repeat (first | exact Keeps.refl _ _ | refine Keeps.alloc ?_ _ | refine Keeps.drew ?_ | refine Keeps.drewN ?_ _ | refine Keeps.trans ?_ (by assumption))) hk
  have hb := hk.heap (heap_old _ _ (heap_old _ _ (heap_new w _))) id
  have hr := hk.heap (heap_old _ _ HR1.out) id
  have hx := hk.heap (heap_new ((w.alloc _).alloc _) _) id
  rw [World.size_alloc, World.size_alloc] at hx
  obtain ⟨c0, c1, c2, c3, c4, c5⟩ := geom_six hb
  have H1 := hid (And.intro hb (And.intro hx (And.intro hr hk2)))
  clear hk hk2 hb hx hr
  go_wp2_with fail
  rw [HG.out.2.2.1]
  refine Calls.mono (dr_new own nz g.size g.opn (by omega) (by have := HG.out.2.1.s; omega) (by have := HG.out.2.1.o; omega) _ (HG.out.2.2.2.1.keeps H1.out.2.2.2)) ?_
  rintro e w2 ⟨pb, db, ownB, rfl, hd2, hs2, hset2⟩
  have o0 : ∀ k, w.heap.size ≤ k → ¬ drvTag (own k) := fun k hk => by rw [HG.out.2.2.2.1 k hk]; unfold drvTag devTag; omega
  have hb2 := hs2.heap H1.out.1 (o0 _ (Nat.le_refl _))
  have hx2 := hs2.heap H1.out.2.1 (o0 _ (by omega))
  have hr2 := hs2.heap H1.out.2.2.1 (o0 _ (by omega))
  have hst2 : Step anyTag w own w2 ownB := (Step.kept (A := anyTag) (H1.out.2.2.2.mono fun _ _ h => h.elim) HG.out.2.2.2.1).1.trans (hs2.mono fun t h => by unfold anyTag drvTag devTag at *; omega)
  obtain ⟨c0, c1, c2, c3, c4, c5⟩ := geom_six hb2
  have ownB0 : ownB w.heap.size = 0 ∧ ownB (w.heap.size + 1) = 0 ∧ ownB (w.heap.size + 2) = 0 := ⟨(hs2.agree _ (lt_of H1.out.1)).trans (HG.out.2.2.2.1 _ (Nat.le_refl _)), (hs2.agree _ (lt_of H1.out.2.2.1)).trans (HG.out.2.2.2.1 _ (by omega)), (hs2.agree _ (lt_of H1.out.2.1)).trans (HG.out.2.2.2.1 _ (by omega))⟩
  have H2 := hid (And.intro hd2 (And.intro hst2 (And.intro hset2 (And.intro hb2 (And.intro hx2 (And.intro hr2 ownB0))))))
  clear hd2 hst2 hset2 hb2 hx2 ownB0 hs2 o0 hr2
  have mn : ∀ X, Keeps (fun _ => False) w2 X → Calls Tryz.prog 25 #[.pointer (some ⟨pb, 0, none⟩), .agg #[.int .i64 g.domains, .int .i64 g.zones, .int .i64 g.size, .int .i64 g.blocks, .int .i64 g.spare, .int .i64 g.opn], .agg (tabV tab0)] X fun e w' => ∃ mb plb own', e = .returned (.tuple #[.pointer (some ⟨mb, 0, none⟩), .int .i64 0]) ∧
      (MirAt w' own' mb pb db plb (mir0 g) ∧ Step anyTag w own w' own' ∧ Settled own' w' ∧ w'.heap[w.heap.size]? = some (.cells #[.int .i64 g.domains, .int .i64 g.zones, .int .i64 g.size, .int .i64 g.blocks, .int .i64 g.spare, .int .i64 g.opn] 23 (0, 0)) ∧ w'.heap[w.heap.size + 2]? = some (.cells #[.int .i64 g.domains, .int .i64 g.zones, .int .i64 g.size, .int .i64 g.blocks, .int .i64 g.spare, .int .i64 g.opn] 37 (0, 0)) ∧ w'.heap[w.heap.size + 1]? = some (.cells z_M14 42 (0, 0)) ∧ own' (w.heap.size + 1) = 0) ∧
      (w'.cell? ⟨w.heap.size, 0, none⟩ = some (.int .i64 g.domains) ∧ w'.cell? ⟨w.heap.size, 1, none⟩ = some (.int .i64 g.zones) ∧ w'.cell? ⟨w.heap.size, 2, none⟩ = some (.int .i64 g.size) ∧ w'.cell? ⟨w.heap.size, 3, none⟩ = some (.int .i64 g.blocks) ∧ w'.cell? ⟨w.heap.size, 4, none⟩ = some (.int .i64 g.spare) ∧ w'.cell? ⟨w.heap.size, 5, none⟩ = some (.int .i64 g.opn)) := fun X hX => by
    have hdr : DriveAt X ownB pb db (drive0 g) := by
      have := H2.out.1.still hX
      unfold drive0
      rw [HG.out.2.2.2.2]; exact this
    refine (mirnew_good ownB pb db (drive0 g) g X hdr (H2.out.2.2.1.keeps hX) HG.out.1 (by show ((g.all.toNat : Nat) : Int) = g.all; have : g.all = g.domains * g.zones := rfl; omega) rfl).mono ?_
    rintro e w4 ⟨mb, plb, own4, rfl, hm4, hs4, hset4⟩
    have s0 : ¬ (ownB w.heap.size = 4 ∨ poolTag (ownB w.heap.size)) ∧ ¬ (ownB (w.heap.size + 1) = 4 ∨ poolTag (ownB (w.heap.size + 1))) ∧ ¬ (ownB (w.heap.size + 2) = 4 ∨ poolTag (ownB (w.heap.size + 2))) := by
      rw [H2.out.2.2.2.2.2.2.1, H2.out.2.2.2.2.2.2.2.1, H2.out.2.2.2.2.2.2.2.2]; unfold poolTag; omega
    have hb4 := hs4.heap (hX.heap H2.out.2.2.2.1 id) s0.1
    have hx4 := hs4.heap (hX.heap H2.out.2.2.2.2.1 id) s0.2.2
    have hr4 := hs4.heap (hX.heap H2.out.2.2.2.2.2.1 id) s0.2.1
    exact ⟨mb, plb, own4, rfl, ⟨hm4, (H2.out.2.1.trans (Step.kept (hX.mono fun _ _ h => h.elim) H2.out.2.2.1).1).trans (hs4.mono fun t h => by unfold anyTag poolTag at *; omega), hset4, hb4, hx4, hr4, (hs4.agree _ (lt_of (hX.heap H2.out.2.2.2.2.2.1 id))).trans H2.out.2.2.2.2.2.2.2.1⟩, geom_six hb4⟩
  have MN := hid mn
  clear mn
  go_wp2_with fail
  go_region_held3 (fun X => X.cell? ⟨w.heap.size, 0, none⟩ = some (.int .i64 g.domains) ∧ X.cell? ⟨w.heap.size, 1, none⟩ = some (.int .i64 g.zones) ∧ X.cell? ⟨w.heap.size, 2, none⟩ = some (.int .i64 g.size) ∧ X.cell? ⟨w.heap.size, 3, none⟩ = some (.int .i64 g.blocks) ∧ X.cell? ⟨w.heap.size, 4, none⟩ = some (.int .i64 g.spare) ∧ X.cell? ⟨w.heap.size, 5, none⟩ = some (.int .i64 g.opn))
    (repeat (first | assumption | exact ⟨c0, c1, c2, c3, c4, c5⟩))
    (first | (go_at_call 26; refine Calls.mono (cnew_calls _) ?_; rintro e w3 ⟨rfl, hk3⟩; have s6 := geom_six (hk3.heap (heap_d H2.out.2.2.2.1) id))
           | (go_at_call 25; refine Calls.mono (MN.out _ (Keeps.trans ((Keeps.refl _ _).drew) hk3)) ?_; rintro e w4 ⟨mb, plb, own4, rfl, hx4, s7⟩; have H4 := hid hx4; clear hx4))
  clear c0 c1 c2 c3 c4 c5
  have HS : Hid (∀ X, Keeps (fun k => k = w.heap.size + 1) w4 X → (X.cell? ⟨w.heap.size, 0, none⟩ = some (.int .i64 g.domains) ∧ X.cell? ⟨w.heap.size, 1, none⟩ = some (.int .i64 g.zones) ∧ X.cell? ⟨w.heap.size, 2, none⟩ = some (.int .i64 g.size) ∧ X.cell? ⟨w.heap.size, 3, none⟩ = some (.int .i64 g.blocks) ∧ X.cell? ⟨w.heap.size, 4, none⟩ = some (.int .i64 g.spare) ∧ X.cell? ⟨w.heap.size, 5, none⟩ = some (.int .i64 g.opn)) ∧ X.cell? ⟨(w.heap.size + 2), 0, none⟩ = some (.int .i64 g.domains) ∧ X.cell? ⟨(w.heap.size + 2), 1, none⟩ = some (.int .i64 g.zones) ∧ X.cell? ⟨(w.heap.size + 2), 2, none⟩ = some (.int .i64 g.size) ∧ X.cell? ⟨(w.heap.size + 2), 3, none⟩ = some (.int .i64 g.blocks) ∧ X.cell? ⟨(w.heap.size + 2), 4, none⟩ = some (.int .i64 g.spare) ∧ X.cell? ⟨(w.heap.size + 2), 5, none⟩ = some (.int .i64 g.opn)) := hid fun X hX => ⟨geom_six (hX.heap H4.out.2.2.2.1 (by omega)), geom_six (hX.heap H4.out.2.2.2.2.1 (by omega))⟩
  have hwr : IntKind.i64.wrap (g.domains * g.zones) = (nz : Int) := by rw [HG.out.2.2.1]; exact IntWalk.i64_in _ (by omega)
  have ts1 := HS.out w4 (Keeps.refl _ _)
  have ts2 := HS.out w4.drew (Keeps.refl _ _).drew
  clear s6 s7
  go_wp2_with fail
  go_region_held3 (fun X => (X.cell? ⟨w.heap.size, 0, none⟩ = some (.int .i64 g.domains) ∧ X.cell? ⟨w.heap.size, 1, none⟩ = some (.int .i64 g.zones) ∧ X.cell? ⟨w.heap.size, 2, none⟩ = some (.int .i64 g.size) ∧ X.cell? ⟨w.heap.size, 3, none⟩ = some (.int .i64 g.blocks) ∧ X.cell? ⟨w.heap.size, 4, none⟩ = some (.int .i64 g.spare) ∧ X.cell? ⟨w.heap.size, 5, none⟩ = some (.int .i64 g.opn)) ∧ X.cell? ⟨(w.heap.size + 2), 0, none⟩ = some (.int .i64 g.domains) ∧ X.cell? ⟨(w.heap.size + 2), 1, none⟩ = some (.int .i64 g.zones) ∧ X.cell? ⟨(w.heap.size + 2), 2, none⟩ = some (.int .i64 g.size) ∧ X.cell? ⟨(w.heap.size + 2), 3, none⟩ = some (.int .i64 g.blocks) ∧ X.cell? ⟨(w.heap.size + 2), 4, none⟩ = some (.int .i64 g.spare) ∧ X.cell? ⟨(w.heap.size + 2), 5, none⟩ = some (.int .i64 g.opn)) (assumption)
    (first | (go_at_call 55; refine Calls.mono (new07_calls nz g.size g.opn (by omega) _) ?_; rintro e w5 ⟨a5, n5, cp5, rfl, hk5⟩; have hkw5 : Keeps (fun _ => False) w4 w5 := Keeps.trans (by repeat (first | exact Keeps.refl _ _ | refine Keeps.alloc ?_ _ | refine Keeps.drew ?_ | refine Keeps.drewN ?_ _ | refine Keeps.trans ?_ (by assumption))) hk5; have ts3 := HS.out w5 (hkw5.mono fun _ _ h => h.elim); simp only [d07V])
           | (go_at_call 54; have h14 := fun X => new14_calls a5 n5 cp5 g.size g.opn g X; unfold d08V geomV at h14; refine Calls.mono (h14 _) ?_; clear h14; rintro e w6 ⟨rfl, hk6⟩; have hkw6 : Keeps (fun _ => False) w4 w6 := hkw5.trans hk6; have h20 : (m14V (.slice a5 n5 cp5) g.size g.opn g).size = 20 := rfl; have h21 : allOne (m14V (.slice a5 n5 cp5) g.size g.opn g) = true := rfl; have hfr := cellsFree_full (n := 20) (hkw6.heap H4.out.2.2.2.2.2.1 id) size_z_M14; have ts4 := HS.out w6 (hkw6.mono fun _ _ h => h.elim); have ts5 := HS.out (putCells w6 ⟨w.heap.size + 1, 0, none⟩ (m14V (.slice a5 n5 cp5) g.size g.opn g)) (keeps_put0 (M := fun k => k = w.heap.size + 1) (b := w.heap.size + 1) (o := 0) (hkw6.mono fun _ _ h => h.elim) (fun _ => rfl) (m14V (.slice a5 n5 cp5) g.size g.opn g))))
  have hh := hkw6.heap H4.out.2.2.2.2.2.1 id
  have H6 := hid (And.intro hkw6 (And.intro hh (And.intro h20 h21)))
  clear hk5 hk6 hkw5 hkw6 hh ts1 ts2 ts3 ts4 ts5 hfr
  go_wp2_with fail
  refine bodyPost_ret (results_tct rfl row_M14 _ rfl (cellsAt_full (putCells_at H6.out.2.1 (by rw [size_z_M14, h20])) h20)) rfl ?_
  have s6 := (Step.kept (A := anyTag) (H6.out.1.mono fun _ _ h => h.elim) H4.out.2.2.1).1
  obtain ⟨p1, p2, p3⟩ := Step.put0 (A := anyTag) (w4 := putCells w6 ⟨w.heap.size + 1, 0, none⟩ (m14V (.slice a5 n5 cp5) g.size g.opn g)) (H4.out.2.1.trans s6) (H4.out.2.2.1.keeps H6.out.1) (b := w.heap.size + 1) (by omega) H4.out.2.2.2.2.2.2 (keeps_put0 (M := fun k => k = w.heap.size + 1) (Keeps.refl _ _) (fun _ => rfl) _)
  exact ⟨mb, pb, db, plb, own4, m14V (.slice a5 n5 cp5) g.size g.opn g, rfl, h20, h21, (H4.out.1.still H6.out.1).kept p2 fun t ht e => mirTag_zero ht e, p1, p3⟩
end Go.Rv

/- Records: what is placed where nothing happens, and what is read of it: plain. -/
namespace Go.Rv
open Go Go.RowKit Go.Proofs

/-- the sector that a record has at a place. -/
def EnS.sec (e : EnS) (zone mate off epoch seq : Int) : List UInt8 := frmSec tab0 ((e.withMate mate).frame zone off epoch seq)
theorem inB_iff {n a b : Int} : inB n a b = true ↔ a ≤ n ∧ n ≤ b := by simp [inB]
theorem FrmS.right_iff (F : FrmS) : F.right = true ↔ (1 ≤ F.kind ∧ F.kind ≤ 5) ∧ (0 ≤ F.zone ∧ F.zone ≤ 65535) ∧ (0 ≤ F.off ∧ F.off ≤ 65535) ∧ (1 ≤ F.epoch ∧ F.epoch ≤ 4294967295) ∧ (0 ≤ F.seq ∧ F.seq ≤ 281474976710655) := by
  unfold FrmS.right
  simp only [Bool.and_eq_true, inB_iff, and_assoc]
theorem EnS.right_iff (e : EnS) : e.right = true ↔ (0 ≤ e.first ∧ e.first ≤ 281474976710655) ∧ (0 ≤ e.block ∧ e.block ≤ 255) ∧ (0 ≤ e.mate ∧ e.mate ≤ 65535) ∧ e.counts = true := by
  unfold EnS.right
  simp only [Bool.and_eq_true, inB_iff, and_assoc]
theorem EnS.frames_iff (e : EnS) (zone off epoch seq : Int) : e.frames zone off epoch seq = true ↔ e.right = true ∧ (e.frame zone off epoch seq).right = true ∧ e.first ≤ seq ∧ seq - e.count < e.first := by
  unfold EnS.frames
  simp only [Bool.and_eq_true, decide_eq_true_eq, and_assoc]
theorem EnS.frames_at {e : EnS} {z0 o0 epoch seq : Int} (h : e.frames z0 o0 epoch seq = true) {zone mate off : Int} (hz : 0 ≤ zone ∧ zone ≤ 65535) (hm : 0 ≤ mate ∧ mate ≤ 65535) (ho : 0 ≤ off ∧ off ≤ 65535) : (e.withMate mate).frames zone off epoch seq = true := by
  obtain ⟨h1, h2, h3⟩ := (EnS.frames_iff _ _ _ _ _).1 h
  obtain ⟨r1, r2, -, r4⟩ := (EnS.right_iff _).1 h1
  obtain ⟨f1, -, -, f4, f5⟩ := (FrmS.right_iff _).1 h2
  exact (EnS.frames_iff _ _ _ _ _).2 ⟨(EnS.right_iff _).2 ⟨r1, r2, hm, r4⟩, (FrmS.right_iff _).2 ⟨f1, hz, ho, f4, f5⟩, h3⟩
theorem EnS.frames_parts {e : EnS} {zone off epoch seq : Int} (h : e.frames zone off epoch seq = true) : e.right = true ∧ (e.frame zone off epoch seq).right = true ∧ (e.frameR zone off epoch seq) = (e.frame zone off epoch seq, 0) := by
  refine ⟨?_, ?_, by unfold EnS.frameR; rw [if_pos h]⟩
  · unfold EnS.frames at h; simp only [Bool.and_eq_true] at h; exact h.1.1.1
  · unfold EnS.frames at h; simp only [Bool.and_eq_true] at h; exact h.1.1.2
theorem EnS.sec_len (e : EnS) (he : e.bytes.length = 32) (zone mate off epoch seq : Int) : (e.sec zone mate off epoch seq).length = 64 := frmSec_len tab0 _ ((e.withMate mate).body_len he)

/-- a command is counted. -/
def DriveS.tick (D : DriveS) : DriveS := { D with d := { D.d with n := wrap64 (D.d.n + 1) } }
theorem DriveS.Calm.tick {D : DriveS} (h : D.Calm) : D.tick.Calm := ⟨h.coming, h.down, h.opn⟩
theorem DriveS.read_calm {D : DriveS} (h : D.Calm) {z o : Nat} (hz : z < D.d.nz) (hst : (D.d.z z).state ≠ 4) {s : List UInt8} (hs : (D.d.z z).l[o]? = some s) : D.read z o = (D.tick, s, 0) := by
  unfold DriveS.read
  rw [DriveS.begin_calm h.coming]
  unfold DevS.read
  rw [DevS.begin_up h.down hz]
  simp only [Int.toNat_natCast]
  have hl : o < (D.d.z z).l.length := (List.getElem?_eq_some_iff.1 hs).1
  rw [if_neg (by simp)]
  unfold ZoneS.read
  rw [if_neg hst, if_neg (by omega)]
  simp only [Int.toNat_natCast, List.getD_eq_getElem?_getD, hs, Option.getD_some]
  rfl

/-- what is placed is read. -/
theorem atR_sec {e : EnS} (he : e.bytes.length = 32) {zone mate off epoch seq : Int} (hf : (e.withMate mate).frames zone off epoch seq = true) : atR tab0 (e.sec zone mate off epoch seq) zone off = ((e.withMate mate).frame zone off epoch seq, 0) := by
  obtain ⟨-, h2, -⟩ := EnS.frames_parts hf
  have hd := decR_sec tab0 ((e.withMate mate).frame zone off epoch seq) ((e.withMate mate).body_len he) h2
  unfold atR EnS.sec
  rw [hd, if_neg (by simp), if_pos ⟨rfl, rfl⟩]
theorem readR_sec {e : EnS} (he : e.bytes.length = 32) {zone mate off epoch seq : Int} (hf : (e.withMate mate).frames zone off epoch seq = true) : readR ((e.withMate mate).frame zone off epoch seq) = (e.withMate mate, 0) := by
  obtain ⟨h1, h2, h3⟩ := EnS.frames_parts hf
  have ho : ofR ((e.withMate mate).frame zone off epoch seq).kind ((e.withMate mate).frame zone off epoch seq).body = (e.withMate mate, 0) := ofR_body (e.withMate mate) he h1
  unfold readR
  rw [ho, if_neg (by simp)]
  have h4 : ((e.withMate mate).frameR ((e.withMate mate).frame zone off epoch seq).zone ((e.withMate mate).frame zone off epoch seq).off ((e.withMate mate).frame zone off epoch seq).epoch ((e.withMate mate).frame zone off epoch seq).seq) = ((e.withMate mate).frame zone off epoch seq, 0) := h3
  rw [h4, if_neg (by simp)]
theorem cpOf_sec {e : EnS} (he : e.bytes.length = 32) {x : EntS} {zone mate epoch : Int} (hf : (e.withMate mate).frames zone x.off epoch x.seq = true) (hk : e.kind ≠ 2) (hm : x.sum = crcSum tab0 e.bytes) : cpOf x zone mate (e.sec zone mate x.off epoch x.seq) = (e.bytes, true) := by
  have h1 := atR_sec he hf
  have h2 := readR_sec he hf
  unfold cpOf
  rw [h1, h2, if_neg, if_neg]
  · rfl
  · rintro (h | h | h)
    · exact h rfl
    · exact h rfl
    · exact h hm.symm
  · rintro (h | h | h)
    · exact h rfl
    · exact hk h
    · exact h rfl
theorem cpOf_trim {e : EnS} (he : e.bytes.length = 32) {x : EntS} {zone mate epoch : Int} (hf : (e.withMate mate).frames zone x.off epoch x.seq = true) (hk : e.kind = 2) : cpOf x zone mate (e.sec zone mate x.off epoch x.seq) = (zero32, false) := by
  have h1 := atR_sec he hf
  unfold cpOf
  rw [h1, if_pos (.inr (.inl hk))]
theorem cp_calm {M : MirS} (hc : M.d.Calm) {x : EntS} {z o : Nat} (hz : z < M.d.d.nz) (hst : (M.d.d.z z).state ≠ 4) (ho : x.off = o) {s : List UInt8} (hs : (M.d.d.z z).l[o]? = some s) (mate : Int) : M.cp x z mate = ({ M with d := M.d.tick }, (cpOf x z mate s).1, (cpOf x z mate s).2, 0) := by
  unfold MirS.cp
  rw [ho, DriveS.read_calm hc hz hst hs, if_pos rfl]
/-- an entry's two sectors lie there. -/
structure RecAt (D : DriveS) (x : EntS) (e : EnS) (epoch : Int) (a b o : Nat) : Prop where
  za : x.zone = a
  zb : x.mate = b
  off : x.off = o
  la : a < D.d.nz
  lb : b < D.d.nz
  sa : (D.d.z a).state ≠ 4
  sb : (D.d.z b).state ≠ 4
  fa : (e.withMate x.mate).frames x.zone x.off epoch x.seq = true
  fb : (e.withMate x.zone).frames x.mate x.off epoch x.seq = true
  ia : (D.d.z a).l[o]? = some (e.sec x.zone x.mate x.off epoch x.seq)
  ib : (D.d.z b).l[o]? = some (e.sec x.mate x.zone x.off epoch x.seq)
  len : e.bytes.length = 32
  sum : x.sum = crcSum tab0 e.bytes
theorem RecAt.tick {D : DriveS} {x : EntS} {e : EnS} {epoch : Int} {a b o : Nat} (h : RecAt D x e epoch a b o) : RecAt D.tick x e epoch a b o :=
  ⟨h.za, h.zb, h.off, h.la, h.lb, h.sa, h.sb, h.fa, h.fb, h.ia, h.ib, h.len, h.sum⟩
theorem chk_good {M : MirS} (hc : M.d.Calm) {x : EntS} (hl : M.lives x = true) {e : EnS} {epoch : Int} {a b o : Nat} (h : RecAt M.d x e epoch a b o) (hk : e.kind ≠ 2) : M.chk x = ({ M with d := M.d.tick.tick }, e.bytes, (((if M.isBad a = false then 1 else 0) + (if M.isBad b = false then 1 else 0) : Nat) : Int), 0) := by
  have c1 : M.cp x x.zone x.mate = ({ M with d := M.d.tick }, e.bytes, true, 0) := by
    have := cp_calm (x := x) hc h.la h.sa h.off h.ia x.mate
    rw [← h.za] at this
    rw [this, cpOf_sec h.len h.fa hk h.sum]
  have c2 : ({ M with d := M.d.tick } : MirS).cp x x.mate x.zone = ({ M with d := M.d.tick.tick }, e.bytes, true, 0) := by
    have := cp_calm (M := { M with d := M.d.tick }) (x := x) hc.tick h.lb h.sb h.off h.ib x.zone
    rw [← h.zb] at this
    rw [this, cpOf_sec h.len h.fb hk h.sum]
  unfold MirS.chk
  rw [if_neg (by rw [hl]; decide), c1]
  simp only []
  rw [c2]
  have i1 : ({ M with d := M.d.tick } : MirS).isBad x.zone = M.isBad a := by rw [h.za]; rfl
  have i2 : ({ M with d := M.d.tick.tick } : MirS).isBad x.mate = M.isBad b := by rw [h.zb]; rfl
  have n1 : ckN ({ M with d := M.d.tick }, e.bytes, true, 0) x.zone = if M.isBad a = false then 1 else 0 := by
    unfold ckN; rw [i1]; simp
  have n2 : ckN ({ M with d := M.d.tick.tick }, e.bytes, true, 0) x.mate = if M.isBad b = false then 1 else 0 := by
    unfold ckN; rw [i2]; simp
  rw [n1, n2]
  simp [ckO, ckG]
theorem rd_good {M : MirS} (hc : M.d.Calm) {x : EntS} (hl : M.lives x = true) {e : EnS} {epoch : Int} {a b o : Nat} (h : RecAt M.d x e epoch a b o) (hk : e.kind ≠ 2) : M.rd x = ({ M with d := M.d.tick }, e.bytes, 0) := by
  have c1 : M.cp x x.zone x.mate = ({ M with d := M.d.tick }, e.bytes, true, 0) := by
    have := cp_calm (x := x) hc h.la h.sa h.off h.ia x.mate
    rw [← h.za] at this
    rw [this, cpOf_sec h.len h.fa hk h.sum]
  unfold MirS.rd
  rw [if_neg (by rw [hl]; decide), c1, if_pos (.inl rfl)]
theorem rd_trim {M : MirS} (hc : M.d.Calm) {x : EntS} (hl : M.lives x = true) {e : EnS} {epoch : Int} {a b o : Nat} (h : RecAt M.d x e epoch a b o) (hk : e.kind = 2) : M.rd x = ({ M with d := M.d.tick.tick }, zero32, 41) := by
  have c1 : M.cp x x.zone x.mate = ({ M with d := M.d.tick }, zero32, false, 0) := by
    have := cp_calm (x := x) hc h.la h.sa h.off h.ia x.mate
    rw [← h.za] at this
    rw [this, cpOf_trim h.len h.fa hk]
  have c2 : ({ M with d := M.d.tick } : MirS).cp x x.mate x.zone = ({ M with d := M.d.tick.tick }, zero32, false, 0) := by
    have := cp_calm (M := { M with d := M.d.tick }) (x := x) hc.tick h.lb h.sb h.off h.ib x.zone
    rw [← h.zb] at this
    rw [this, cpOf_trim h.len h.fb hk]
  unfold MirS.rd
  rw [if_neg (by rw [hl]; decide), c1]
  simp only []
  rw [c2, if_neg (by simp), if_neg (by simp)]
end Go.Rv

/- Records: placing where nothing happens: plain. -/
namespace Go.Rv
open Go Go.RowKit Go.Proofs

theorem filter_step (k : Nat) : ∀ L : List Nat, (L.filter fun j => decide (j < k)).length + (if k ∈ L then 1 else 0) ≤ (L.filter fun j => decide (j < k + 1)).length
  | [] => by simp
  | a :: L => by
    have ih := filter_step k L
    by_cases h1 : a < k
    · rw [List.filter_cons_of_pos (by simpa using h1), List.filter_cons_of_pos (by simp; omega)]
      have : (k ∈ a :: L) ↔ k ∈ L := by
        simp only [List.mem_cons]
        exact ⟨fun h => h.resolve_left (by omega), .inr⟩
      simp only [List.length_cons, this]
      omega
    · rw [List.filter_cons_of_neg (by simpa using h1)]
      by_cases h2 : a = k
      · subst h2
        rw [List.filter_cons_of_pos (by simp)]
        simp only [List.length_cons, List.mem_cons, true_or, if_true]
        have : 0 ≤ (if a ∈ L then 1 else 0 : Nat) := Nat.zero_le _
        omega
      · rw [List.filter_cons_of_neg (by simp; omega)]
        have : (k ∈ a :: L) ↔ k ∈ L := by
          simp only [List.mem_cons]
          exact ⟨fun h => h.resolve_left (by omega), .inr⟩
        simp only [this]
        exact ih
theorem DevS.openTo_filter {D : DevS} {L : List Nat} : ∀ k, (∀ j, j < k → (D.z j).state = 1 → j ∈ L) → D.openTo k ≤ (L.filter fun j => decide (j < k)).length
  | 0, _ => by simp [DevS.openTo]
  | k + 1, h => by
    rw [DevS.openTo_succ]
    have ih := DevS.openTo_filter (D := D) (L := L) k fun j hj => h j (by omega)
    have fs := filter_step k L
    split
    · rename_i h1
      rw [if_pos (h k (by omega) h1)] at fs
      omega
    · have : 0 ≤ (if k ∈ L then 1 else 0 : Nat) := Nat.zero_le _
      omega
theorem DevS.openTo_few {D : DevS} (L : List Nat) (k : Nat) (h : ∀ j, j < k → (D.z j).state = 1 → j ∈ L) : D.openTo k ≤ L.length := by
  have h1 := DevS.openTo_filter (D := D) (L := L) k h
  have h2 := List.length_filter_le (fun j => decide (j < k)) L
  omega

/-- a sector is put behind a zone's others. -/
def DriveS.app (D : DriveS) (z : Nat) (s : List UInt8) : DriveS :=
  { D with d := ({ D.d with n := wrap64 (D.d.n + 1) } : DevS).setz z { D.d.z z with l := (D.d.z z).l ++ [s], state := if ((D.d.z z).l.length : Int) + 1 = D.d.size then 2 else 1 } }
theorem DriveS.app_at (D : DriveS) (z : Nat) (s : List UInt8) : (D.app z s).d.z z = { D.d.z z with l := (D.d.z z).l ++ [s], state := if ((D.d.z z).l.length : Int) + 1 = D.d.size then 2 else 1 } := by simp [DriveS.app, DevS.setz]
theorem DriveS.app_ne (D : DriveS) {z j : Nat} (s : List UInt8) (h : j ≠ z) : (D.app z s).d.z j = D.d.z j := by simp [DriveS.app, DevS.setz, h]
theorem DriveS.app_like (D : DriveS) (z : Nat) (s : List UInt8) : D.like (D.app z s) := ⟨rfl, rfl, rfl⟩
theorem DriveS.Calm.app {D : DriveS} (h : D.Calm) (z : Nat) (s : List UInt8) : (D.app z s).Calm := ⟨h.coming, h.down, h.opn⟩
theorem DriveS.append_up {D : DriveS} (h : D.Calm) {z : Nat} (hz : z < D.d.nz) (s : List UInt8) (hst : (D.d.z z).state = 0 ∨ (D.d.z z).state = 1) (hop : (D.d.z z).state = 0 → (D.d.openTo D.d.nz : Int) < D.d.opn) :
    D.append z s = (D.app z s, ((D.d.z z).l.length : Int), 0) := by
  unfold DriveS.append
  rw [DriveS.begin_calm h.coming]
  unfold DevS.append
  rw [DevS.begin_up h.down hz]
  simp only [Int.toNat_natCast]
  rw [if_neg (by simp)]
  rw [if_neg (fun hh => by have := hop hh.1; omega)]
  unfold ZoneS.append
  rw [if_neg (by omega), if_neg (by omega), if_neg (by omega)]
  rfl

/-- the state of an open segment's zone that has u sectors of n. -/
def segSt (u : Nat) (n : Int) : Int := if (u : Int) = n then 2 else if u = 0 then 0 else 1
/-- the open segment: a and b, u sectors each; nothing else is open. -/
structure MirS.Seg (M : MirS) (a b u : Nat) : Prop where
  ea : M.a = a
  eb : M.b = b
  eu : M.used = u
  ne : a ≠ b
  la : a < M.d.d.nz
  lb : b < M.d.d.nz
  za : (M.d.d.z a).l.length = u
  zb : (M.d.d.z b).l.length = u
  sa : (M.d.d.z a).state = segSt u M.d.d.size
  sb : (M.d.d.z b).state = segSt u M.d.d.size
  far : ∀ j, j < M.d.d.nz → j ≠ a → j ≠ b → (M.d.d.z j).state ≠ 1
theorem put_up {M : MirS} (hc : M.d.Calm) {e : EnS} {z : Nat} (hz : z < M.d.d.nz) {u : Nat} (hu : M.used = u) (hl : (M.d.d.z z).l.length = u) (hst : (M.d.d.z z).state = 0 ∨ (M.d.d.z z).state = 1) (hop : (M.d.d.z z).state = 0 → (M.d.d.openTo M.d.d.nz : Int) < M.d.d.opn) {mate epoch seq : Int} (hf : (e.withMate mate).frames z u epoch seq = true) :
    M.put e z mate epoch seq = ({ M with d := M.d.app z (e.sec z mate u epoch seq) }, 0) := by
  obtain ⟨-, -, h3⟩ := EnS.frames_parts hf
  unfold MirS.put
  rw [hu, h3, if_neg (by simp)]
  have ha := DriveS.append_up hc hz (e.sec z mate u epoch seq) hst hop
  unfold EnS.sec at ha ⊢
  rw [ha, hl, if_neg (by simp)]

/-- behind an entry's placing. -/
def MirS.plc (M : MirS) (e : EnS) (epoch seq : Int) (a b u : Nat) : MirS := { M with d := (M.d.app a (e.sec a b u epoch seq)).app b (e.sec b a u epoch seq), used := ((u + 1 : Nat) : Int) }
theorem both_up {M : MirS} (hc : M.d.Calm) (ho : 3 ≤ M.d.d.opn) {a b u : Nat} (hs : M.Seg a b u) (hu : (u : Int) < M.d.d.size) {e : EnS} {epoch seq : Int} (hfa : (e.withMate b).frames a u epoch seq = true) (hfb : (e.withMate a).frames b u epoch seq = true) :
    M.both e epoch seq = ({ M with d := (M.d.app a (e.sec a b u epoch seq)).app b (e.sec b a u epoch seq) }, (b : Int), 0) := by
  have hst : segSt u M.d.d.size = 0 ∨ segSt u M.d.d.size = 1 := by unfold segSt; rw [if_neg (by omega)]; split <;> simp
  have h1 := put_up (M := M) hc (e := e) (z := a) hs.la hs.eu hs.za (by rw [hs.sa]; exact hst) (fun _ => by
    have := DevS.openTo_few (D := M.d.d) [a, b] M.d.d.nz (fun j hj h1 => by
      refine Decidable.byContradiction fun c => ?_
      simp at c
      exact hs.far j hj c.1 c.2 h1)
    simp at this; omega) hfa
  have e1 : ((M.d.app a (e.sec a b u epoch seq)).d.z b) = M.d.d.z b := DriveS.app_ne _ _ (Ne.symm hs.ne)
  have h2 := put_up (M := { M with d := M.d.app a (e.sec a b u epoch seq) }) (hc.app _ _) (e := e) (z := b) hs.lb hs.eu (by rw [e1]; exact hs.zb) (by rw [e1, hs.sb]; exact hst) (fun _ => by
    have := DevS.openTo_few (D := (M.d.app a (e.sec a b u epoch seq)).d) [a, b] M.d.d.nz (fun j hj h1 => by
      refine Decidable.byContradiction fun c => ?_
      simp at c
      rw [DriveS.app_ne _ _ c.1] at h1
      exact hs.far j hj c.1 c.2 h1)
    simp at this
    change (((M.d.app a (e.sec a b u epoch seq)).d.openTo M.d.d.nz : Nat) : Int) < M.d.d.opn
    omega) hfb
  have k1 : ∀ A B : Int, A = a → B = b → M.put e A B epoch seq = ({ M with d := M.d.app a (e.sec a b u epoch seq) }, 0) := by rintro _ _ rfl rfl; exact h1
  have k2 : ∀ A B : Int, A = a → B = b → ({ M with d := M.d.app a (e.sec a b u epoch seq) } : MirS).put e B A epoch seq = ({ M with d := (M.d.app a (e.sec a b u epoch seq)).app b (e.sec b a u epoch seq) }, 0) := by rintro _ _ rfl rfl; exact h2
  unfold MirS.both
  rw [k1 M.a M.b hs.ea hs.eb, if_neg (by simp)]
  simp only []
  rw [k2 M.a M.b hs.ea hs.eb, hs.eb]
theorem both_more {M : MirS} (hc : M.d.Calm) (ho : 3 ≤ M.d.d.opn) {a b u : Nat} (hs : M.Seg a b u) (hu : (u : Int) < M.d.d.size) (hz : M.d.d.size ≤ 64) {e : EnS} {epoch seq : Int} (hfa : (e.withMate b).frames a u epoch seq = true) (hfb : (e.withMate a).frames b u epoch seq = true) :
    (M.both e epoch seq).2.2 = 0 ∧ (M.both e epoch seq).1.more = M.plc e epoch seq a b u ∧ (M.both e epoch seq).1.placed e seq = ⟨1, a, b, u, seq, crcSum tab0 e.bytes⟩ := by
  rw [both_up hc ho hs hu hfa hfb]
  refine ⟨rfl, ?_, ?_⟩
  · unfold MirS.more MirS.plc
    simp only [hs.eu]
    have : wrap64 ((u : Int) + 1) = ((u + 1 : Nat) : Int) := by unfold wrap64; omega
    rw [this]
  · unfold MirS.placed
    simp only [hs.ea, hs.eb, hs.eu]
theorem plc_seg {M : MirS} {a b u : Nat} (hs : M.Seg a b u) (hu : (u : Int) < M.d.d.size) (e : EnS) (epoch seq : Int) : (M.plc e epoch seq a b u).Seg a b (u + 1) := by
  have e1 : ((M.d.app a (e.sec a b u epoch seq)).d.z b) = M.d.d.z b := DriveS.app_ne _ _ (Ne.symm hs.ne)
  have ea : ((M.plc e epoch seq a b u).d.d.z a) = { M.d.d.z a with l := (M.d.d.z a).l ++ [e.sec a b u epoch seq], state := if ((M.d.d.z a).l.length : Int) + 1 = M.d.d.size then 2 else 1 } := (DriveS.app_ne _ _ hs.ne).trans (DriveS.app_at _ _ _)
  have eb : ((M.plc e epoch seq a b u).d.d.z b) = { M.d.d.z b with l := (M.d.d.z b).l ++ [e.sec b a u epoch seq], state := if ((M.d.d.z b).l.length : Int) + 1 = M.d.d.size then 2 else 1 } := by
    refine (DriveS.app_at _ _ _).trans ?_
    rw [e1]; rfl
  have es : ∀ n : Nat, n = u → (if (n : Int) + 1 = M.d.d.size then 2 else 1 : Int) = segSt (u + 1) M.d.d.size := fun n hn => by
    subst hn; unfold segSt
    split
    · rename_i h; rw [if_pos (by omega)]
    · rename_i h; rw [if_neg (by omega), if_neg (by omega)]
  refine ⟨hs.ea, hs.eb, rfl, hs.ne, hs.la, hs.lb, by rw [ea]; simp [hs.za], by rw [eb]; simp [hs.zb], by rw [ea]; exact es _ hs.za, by rw [eb]; exact es _ hs.zb, fun j hj h1 h2 => ?_⟩
  have : (M.plc e epoch seq a b u).d.d.z j = M.d.d.z j := (DriveS.app_ne _ _ h2).trans (DriveS.app_ne _ _ h1)
  rw [this]; exact hs.far j hj h1 h2
/-- what was placed lies there. -/
theorem plc_rec {M : MirS} {a b u : Nat} (hs : M.Seg a b u) {e : EnS} (he : e.bytes.length = 32) {epoch seq : Int} (hfa : (e.withMate b).frames a u epoch seq = true) (hfb : (e.withMate a).frames b u epoch seq = true) : RecAt (M.plc e epoch seq a b u).d ⟨1, a, b, u, seq, crcSum tab0 e.bytes⟩ e epoch a b u := by
  have e1 : ((M.d.app a (e.sec a b u epoch seq)).d.z b) = M.d.d.z b := DriveS.app_ne _ _ (Ne.symm hs.ne)
  have ea : ((M.plc e epoch seq a b u).d.d.z a) = { M.d.d.z a with l := (M.d.d.z a).l ++ [e.sec a b u epoch seq], state := if ((M.d.d.z a).l.length : Int) + 1 = M.d.d.size then 2 else 1 } := (DriveS.app_ne _ _ hs.ne).trans (DriveS.app_at _ _ _)
  have eb : ((M.plc e epoch seq a b u).d.d.z b) = { M.d.d.z b with l := (M.d.d.z b).l ++ [e.sec b a u epoch seq], state := if ((M.d.d.z b).l.length : Int) + 1 = M.d.d.size then 2 else 1 } := by
    refine (DriveS.app_at _ _ _).trans ?_
    rw [e1]; rfl
  refine ⟨rfl, rfl, rfl, hs.la, hs.lb, ?_, ?_, hfa, hfb, ?_, ?_, he, rfl⟩
  · rw [ea]; simp only []; split <;> omega
  · rw [eb]; simp only []; split <;> omega
  · rw [ea]; simp only []; rw [List.getElem?_append_right (by rw [hs.za]; omega), hs.za]; simp
  · rw [eb]; simp only []; rw [List.getElem?_append_right (by rw [hs.zb]; omega), hs.zb]; simp
/-- what lay there lies there yet. -/
theorem RecAt.plc {M : MirS} {x : EntS} {e' : EnS} {ep : Int} {a' b' o : Nat} (h : RecAt M.d x e' ep a' b' o) {a b u : Nat} (hs : M.Seg a b u) (e : EnS) (epoch seq : Int) : RecAt (M.plc e epoch seq a b u).d x e' ep a' b' o := by
  have key : ∀ j, j < M.d.d.nz → (M.d.d.z j).state ≠ 4 → ((M.plc e epoch seq a b u).d.d.z j).state ≠ 4 ∧ ∀ s, (M.d.d.z j).l[o]? = some s → ((M.plc e epoch seq a b u).d.d.z j).l[o]? = some s := fun j hj h4 => by
    have e1 : ((M.d.app a (e.sec a b u epoch seq)).d.z b) = M.d.d.z b := DriveS.app_ne _ _ (Ne.symm hs.ne)
    by_cases hb : j = b
    · have eb : ((M.plc e epoch seq a b u).d.d.z b) = { M.d.d.z b with l := (M.d.d.z b).l ++ [e.sec b a u epoch seq], state := if ((M.d.d.z b).l.length : Int) + 1 = M.d.d.size then 2 else 1 } := by
        refine (DriveS.app_at _ _ _).trans ?_
        rw [e1]; rfl
      rw [hb, eb]
      refine ⟨by simp only []; split <;> omega, fun s hl => ?_⟩
      simp only []
      rw [List.getElem?_append_left (List.getElem?_eq_some_iff.1 hl).1]; exact hl
    · by_cases ha : j = a
      · have ea : ((M.plc e epoch seq a b u).d.d.z a) = { M.d.d.z a with l := (M.d.d.z a).l ++ [e.sec a b u epoch seq], state := if ((M.d.d.z a).l.length : Int) + 1 = M.d.d.size then 2 else 1 } := (DriveS.app_ne _ _ hs.ne).trans (DriveS.app_at _ _ _)
        rw [ha, ea]
        refine ⟨by simp only []; split <;> omega, fun s hl => ?_⟩
        simp only []
        rw [List.getElem?_append_left (List.getElem?_eq_some_iff.1 hl).1]; exact hl
      · have : (M.plc e epoch seq a b u).d.d.z j = M.d.d.z j := (DriveS.app_ne _ _ hb).trans (DriveS.app_ne _ _ ha)
        rw [this]
        exact ⟨h4, fun s hl => hl⟩
  obtain ⟨ka, la⟩ := key a' h.la h.sa
  obtain ⟨kb, lb⟩ := key b' h.lb h.sb
  exact ⟨h.za, h.zb, h.off, h.la, h.lb, ka, kb, h.fa, h.fb, la _ h.ia, lb _ h.ib, h.len, h.sum⟩
end Go.Rv

/- Records: a mirror's run where nothing happens: plain. -/
namespace Go.Rv
open Go Go.RowKit Go.Proofs

theorem pair_up {p : PoolS} (hok : p.Ok) (h : p.pairs ≠ 0) : ∃ (a b : Nat) (x y : Int) (l m : List Int), a < p.nd ∧ b < p.nd ∧ a ≠ b ∧ p.L a = x :: l ∧ p.L b = y :: m ∧ p.pair = ((p.set a l).set b m, x, y, 0) := by
  obtain ⟨a, b, x, y, l, m, ha, hb, han, hbn, hab, hla, hlb⟩ := PoolS.pair_ex hok h
  refine ⟨a, b, x, y, l, m, han, hbn, hab, hla, hlb, ?_⟩
  unfold PoolS.pair
  have e1 : (p.best (-1) p.nd).toNat = a := by omega
  have e2 : (p.best (p.best (-1) p.nd) p.nd).toNat = b := by rw [ha]; omega
  rw [if_neg h, e1, e2, hla, hlb]
theorem flush_up {D : DriveS} (h : D.Calm) : ∃ D', D.flush = (D', 0) ∧ D'.Calm ∧ D.like D' ∧ ∀ j, (D'.d.z j).l = (D.d.z j).l ∧ (D'.d.z j).state = (D.d.z j).state ∧ (j < D.d.nz → (D'.d.z j).safe = (D.d.z j).l.length) := by
  unfold DriveS.flush
  rw [DriveS.due_calm h.coming]
  unfold DevS.flush
  rw [h.down, if_neg (by decide)]
  refine ⟨_, rfl, ⟨h.coming, h.down, h.opn⟩, ⟨rfl, rfl, rfl⟩, fun j => ?_⟩
  simp only [DevS.flushTo]
  split
  · exact ⟨rfl, rfl, fun _ => rfl⟩
  · exact ⟨rfl, rfl, fun hj => by contradiction⟩

/-- a mirror to which nothing happens. -/
structure MirS.Run (g : GeomS) (M : MirS) : Prop where
  right : g.right = true
  mg : M.g = g
  calm : M.d.Calm
  nz : M.d.d.nz = g.all.toNat
  size : M.d.d.size = g.size
  opn : M.d.d.opn = g.opn
  pok : M.p.Ok
  pg : M.p.g = g
  free : ∀ d, d < M.p.nd → ∀ z, z ∈ M.p.L d → (M.d.d.z z.toNat).state = 0 ∧ (M.d.d.z z.toNat).l = []
  bad : ∀ z, M.isBad z = false
  safe : ∀ j, j < M.d.d.nz → M.a ≠ j → M.b ≠ j → (M.d.d.z j).safe = (M.d.d.z j).l.length
  seg : (M.a = -1 ∧ ∀ j, j < M.d.d.nz → (M.d.d.z j).state ≠ 1) ∨ ∃ a b u : Nat, M.Seg a b u ∧ (u : Int) ≤ g.size ∧ g.domain a ≠ g.domain b ∧ ∀ d, d < M.p.nd → ∀ z, z ∈ M.p.L d → z ≠ a ∧ z ≠ b

theorem MirS.Run.small {g : GeomS} {M : MirS} (h : M.Run g) : g.Small := g.right_small h.right
theorem MirS.Run.opn3 {g : GeomS} {M : MirS} (h : M.Run g) : 3 ≤ M.d.d.opn := by have := h.small.o; rw [h.opn]; omega
theorem MirS.Run.sz {g : GeomS} {M : MirS} (h : M.Run g) : M.d.d.size ≤ 64 := by have := h.small.s; rw [h.size]; omega
theorem GeomS.dom_nat {g : GeomS} {z : Int} {d : Nat} (h : g.domain z = d) : 0 ≤ z ∧ z.toNat < g.all.toNat := by
  have := GeomS.domain_in (g := g) (z := z) (by omega)
  omega

/-- there is an open segment with room, or one can be had. -/
theorem MirS.Run.ready {g : GeomS} {M : MirS} (h : M.Run g) (hp : (M.a ≠ -1 ∧ M.used < g.size) ∨ M.p.pairs ≠ 0) : ∃ (M' : MirS) (a b u : Nat), M.ready = (M', 0) ∧ M'.Run g ∧ M'.Seg a b u ∧ (u : Int) < g.size ∧ g.domain a ≠ g.domain b ∧ (∀ j, (M'.d.d.z j).l = (M.d.d.z j).l ∧ (M'.d.d.z j).state = (M.d.d.z j).state) ∧ ((M.a ≠ -1 ∧ M.used < g.size) → M' = M) ∧ (¬ (M.a ≠ -1 ∧ M.used < g.size) → (a : Int) = M.p.pair.2.1 ∧ (b : Int) = M.p.pair.2.2.1 ∧ u = 0 ∧ M'.p = M.p.pair.1) := by
  by_cases k : M.a ≠ -1 ∧ M.used < M.g.size
  · have hr : M.ready = (M, 0) := by unfold MirS.ready; rw [if_pos k]
    rcases h.seg with ⟨h1, -⟩ | ⟨a, b, u, hs, hu, hd, hn⟩
    · exact absurd h1 k.1
    · refine ⟨M, a, b, u, hr, h, hs, ?_, hd, fun _ => ⟨rfl, rfl⟩, fun _ => rfl, fun hk => absurd (by rw [← h.mg]; exact k) hk⟩
      have := k.2; rw [hs.eu, h.mg] at this; exact this
  · have hpr : M.p.pairs ≠ 0 := hp.resolve_left (by rw [← h.mg]; exact k)
    obtain ⟨da, db, x, y, l, m, hda, hdb, hab, hla, hlb, hpair⟩ := pair_up h.pok hpr
    obtain ⟨D', hf, hc', hl', hz'⟩ := flush_up h.calm
    have hr : M.ready = ({ M with d := D', p := (M.p.set da l).set db m, a := x, b := y, used := 0 }, 0) := by
      unfold MirS.ready
      rw [if_neg k, hf, hpair, if_neg (by simp), if_neg (by simp)]
    have dx : g.domain x = da := by rw [← h.pg]; exact h.pok.inn da hda x (by rw [hla]; simp)
    have dy : g.domain y = db := by rw [← h.pg]; exact h.pok.inn db hdb y (by rw [hlb]; simp)
    obtain ⟨x0, x1⟩ := GeomS.dom_nat dx
    obtain ⟨y0, y1⟩ := GeomS.dom_nat dy
    obtain ⟨a, rfl⟩ : ∃ a : Nat, x = a := ⟨x.toNat, by omega⟩
    obtain ⟨b, rfl⟩ : ∃ b : Nat, y = b := ⟨y.toNat, by omega⟩
    simp only [Int.toNat_natCast] at x1 y1
    have fx := h.free da hda a (by rw [hla]; simp)
    have fy := h.free db hdb b (by rw [hlb]; simp)
    simp only [Int.toNat_natCast] at fx fy
    have hne : a ≠ b := fun e => by subst e; rw [dx] at dy; omega
    have hopen : ∀ j, j < M.d.d.nz → (M.d.d.z j).state ≠ 1 := by
      rcases h.seg with ⟨-, h2⟩ | ⟨a', b', u, hs, hu, -, -⟩
      · exact h2
      · intro j hj h1
        have hfull : (u : Int) = M.d.d.size := by
          have : ¬ (M.used < M.g.size) := fun hh => k ⟨by rw [hs.ea]; omega, hh⟩
          rw [hs.eu, h.mg] at this
          rw [h.size]; omega
        by_cases ja : j = a'
        · rw [ja, hs.sa] at h1; unfold segSt at h1; rw [if_pos hfull] at h1; omega
        · by_cases jb : j = b'
          · rw [jb, hs.sb] at h1; unfold segSt at h1; rw [if_pos hfull] at h1; omega
          · exact hs.far j hj ja jb h1
    have hsz : 0 < g.size := by have := h.small.s; omega
    have h0 : segSt 0 D'.d.size = 0 := by unfold segSt; rw [if_neg (by rw [hl'.2.1, h.size]; simp; omega), if_pos rfl]
    have hseg : ({ M with d := D', p := (M.p.set da l).set db m, a := (a : Int), b := (b : Int), used := 0 } : MirS).Seg a b 0 :=
      ⟨rfl, rfl, rfl, hne, by show a < D'.d.nz; rw [hl'.1, h.nz]; exact x1, by show b < D'.d.nz; rw [hl'.1, h.nz]; exact y1, by rw [(hz' a).1, fx.2]; rfl, by rw [(hz' b).1, fy.2]; rfl, by rw [(hz' a).2.1, fx.1]; exact h0.symm, by rw [(hz' b).2.1, fy.1]; exact h0.symm,
        fun j hj _ _ => by rw [(hz' j).2.1]; exact hopen j (by rw [← hl'.1]; exact hj)⟩
    have hset : ∀ d, ((M.p.set da l).set db m).L d = if d = db then m else if d = da then l else M.p.L d := fun d => rfl
    have hnd : ((M.p.set da l).set db m).nd = M.p.nd := rfl
    have hsub : ∀ d z, z ∈ ((M.p.set da l).set db m).L d → z ∈ M.p.L d := fun d z hz => by
      rw [hset] at hz
      split at hz
      · rename_i e; subst e; rw [hlb]; exact List.mem_cons_of_mem _ hz
      · split at hz
        · rename_i e; subst e; rw [hla]; exact List.mem_cons_of_mem _ hz
        · exact hz
    have hpok : ((M.p.set da l).set db m).Ok := (h.pok.tail hla).tail (by simp only [PoolS.set]; rw [if_neg (Ne.symm hab)]; exact hlb)
    have hnot : ∀ d, d < M.p.nd → ∀ z, z ∈ ((M.p.set da l).set db m).L d → z ≠ a ∧ z ≠ b := fun d hd z hz => by
      have hz0 := hsub d z hz
      have hdz : g.domain z = d := by rw [← h.pg]; exact h.pok.inn d hd z hz0
      refine ⟨fun e => ?_, fun e => ?_⟩
      · subst e
        have : d = da := by rw [dx] at hdz; omega
        subst this
        rw [hset, if_neg hab, if_pos rfl] at hz
        have := h.pok.nodup d hd
        rw [hla] at this
        exact (List.nodup_cons.1 this).1 hz
      · subst e
        have : d = db := by rw [dy] at hdz; omega
        subst this
        rw [hset, if_pos rfl] at hz
        have := h.pok.nodup d hd
        rw [hlb] at this
        exact (List.nodup_cons.1 this).1 hz
    have hdd : g.domain (a : Int) ≠ g.domain (b : Int) := by rw [dx, dy]; omega
    refine ⟨_, a, b, 0, hr, ⟨h.right, h.mg, hc', hl'.1.trans h.nz, hl'.2.1.trans h.size, hl'.2.2.trans h.opn, hpok, h.pg, fun d hd z hz => ?_, h.bad, fun j hj ja jb => ?_, .inr ⟨a, b, 0, hseg, by show (0 : Int) ≤ g.size; omega, hdd, hnot⟩⟩, hseg, hsz, hdd, fun j => ⟨(hz' j).1, (hz' j).2.1⟩, fun hk => absurd (by rw [h.mg]; exact hk) k, fun _ => by rw [hpair]; exact ⟨rfl, rfl, rfl, rfl⟩⟩
    · have := h.free d hd z (hsub d z hz)
      exact ⟨by rw [(hz' _).2.1]; exact this.1, by rw [(hz' _).1]; exact this.2⟩
    · rw [(hz' j).1]; exact (hz' j).2.2 (by rw [← hl'.1]; exact hj)
/-- there is none, and none can be had. -/
theorem MirS.Run.ready_no {g : GeomS} {M : MirS} (h : M.Run g) (h1 : ¬ (M.a ≠ -1 ∧ M.used < g.size)) (h2 : M.p.pairs = 0) : ∃ M', M.ready = (M', 40) ∧ M'.Run g ∧ (∀ j, (M'.d.d.z j).l = (M.d.d.z j).l ∧ (M'.d.d.z j).state = (M.d.d.z j).state) ∧ M'.a = M.a ∧ M'.b = M.b ∧ M'.used = M.used ∧ M'.p = M.p := by
  obtain ⟨D', hf, hc', hl', hz'⟩ := flush_up h.calm
  have hp : M.p.pair = (M.p, 0, 0, 15) := by unfold PoolS.pair; rw [if_pos h2]
  have hr : M.ready = ({ M with d := D' }, 40) := by
    unfold MirS.ready
    rw [if_neg (by rw [h.mg]; exact h1), hf, hp, if_neg (by simp), if_pos (by simp)]
  refine ⟨_, hr, ⟨h.right, h.mg, hc', hl'.1.trans h.nz, hl'.2.1.trans h.size, hl'.2.2.trans h.opn, h.pok, h.pg, fun d hd z hz => ?_, h.bad, fun j hj ja jb => ?_, ?_⟩, fun j => ⟨(hz' j).1, (hz' j).2.1⟩, rfl, rfl, rfl, rfl⟩
  · have := h.free d hd z hz
    exact ⟨by rw [(hz' _).2.1]; exact this.1, by rw [(hz' _).1]; exact this.2⟩
  · rw [(hz' j).1]; exact (hz' j).2.2 (by rw [← hl'.1]; exact hj)
  · rcases h.seg with ⟨h3, h4⟩ | ⟨a, b, u, hs, hu, hd, hn⟩
    · exact .inl ⟨h3, fun j hj => by rw [(hz' j).2.1]; exact h4 j (by rw [← hl'.1]; exact hj)⟩
    · exact .inr ⟨a, b, u, ⟨hs.ea, hs.eb, hs.eu, hs.ne, by show a < D'.d.nz; rw [hl'.1]; exact hs.la, by show b < D'.d.nz; rw [hl'.1]; exact hs.lb, by rw [(hz' a).1]; exact hs.za, by rw [(hz' b).1]; exact hs.zb, by rw [(hz' a).2.1, hs.sa]; rw [hl'.2.1], by rw [(hz' b).2.1, hs.sb]; rw [hl'.2.1], fun j hj ja jb => by rw [(hz' j).2.1]; exact hs.far j (by rw [← hl'.1]; exact hj) ja jb⟩, hu, hd, hn⟩
/-- placing goes on. -/
theorem MirS.Run.plc {g : GeomS} {M : MirS} (h : M.Run g) {a b u : Nat} (hs : M.Seg a b u) (hu : (u : Int) < g.size) (e : EnS) (epoch seq : Int) : (M.plc e epoch seq a b u).Run g := by
  have hseg := plc_seg hs (by rw [h.size]; exact hu) e epoch seq
  obtain ⟨hd, hn⟩ : g.domain a ≠ g.domain b ∧ ∀ d, d < M.p.nd → ∀ z, z ∈ M.p.L d → z ≠ a ∧ z ≠ b := by
    rcases h.seg with ⟨h1, -⟩ | ⟨a', b', u', hs', -, hd, hn⟩
    · have := hs.ea; omega
    · have ea : a' = a := by have := hs.ea; have := hs'.ea; omega
      have eb : b' = b := by have := hs.eb; have := hs'.eb; omega
      subst ea; subst eb; exact ⟨hd, hn⟩
  have oth : ∀ j, j ≠ a → j ≠ b → (M.plc e epoch seq a b u).d.d.z j = M.d.d.z j := fun j ja jb => (DriveS.app_ne _ _ jb).trans (DriveS.app_ne _ _ ja)
  refine ⟨h.right, h.mg, (h.calm.app _ _).app _ _, h.nz, h.size, h.opn, h.pok, h.pg, fun d hd' z hz => ?_, h.bad, fun j hj ja jb => ?_, .inr ⟨a, b, u + 1, hseg, by omega, hd, hn⟩⟩
  · obtain ⟨na, nb⟩ := hn d hd' z hz
    have hdz : g.domain z = d := by rw [← h.pg]; exact h.pok.inn d hd' z hz
    obtain ⟨z0, -⟩ := GeomS.dom_nat hdz
    rw [oth _ (by omega) (by omega)]
    exact h.free d hd' z hz
  · have h1 : M.a ≠ j := ja
    have h2 : M.b ≠ j := jb
    rw [oth j (by rw [hs.ea] at h1; omega) (by rw [hs.eb] at h2; omega)]
    exact h.safe j hj h1 h2
/-- what is placed may be read. -/
theorem MirS.Run.lives {g : GeomS} {M : MirS} (h : M.Run g) {a b u : Nat} (hs : M.Seg a b u) (hu : (u : Int) < g.size) (hd : g.domain a ≠ g.domain b) {seq : Int} (h1 : 1 ≤ seq) (h2 : seq ≤ 281474976710655) (bytes : List UInt8) : decide ((⟨1, a, b, u, seq, crcSum tab0 bytes⟩ : EntS).state = 1) = true ∧ (⟨1, a, b, u, seq, crcSum tab0 bytes⟩ : EntS).live g = true := by
  have hla := hs.la
  have hlb := hs.lb
  rw [h.nz] at hla hlb
  have hc := crcSum_bd tab0 bytes
  have ha : g.holds a u = true := by unfold GeomS.holds; simp only [h.right, Bool.true_and, Bool.and_eq_true, inB_iff]; omega
  have hb : g.holds b u = true := by unfold GeomS.holds; simp only [h.right, Bool.true_and, Bool.and_eq_true, inB_iff]; omega
  refine ⟨rfl, ?_⟩
  unfold EntS.live
  rw [ha, hb]
  simp only [Bool.true_and, Bool.and_eq_true, decide_eq_true_eq, bne_iff_ne]
  exact ⟨⟨⟨⟨hd, h1⟩, h2⟩, hc.1⟩, hc.2⟩
/-- an entry's frame at its places. -/
theorem MirS.Run.frames {g : GeomS} {M : MirS} (h : M.Run g) {a b u : Nat} (hs : M.Seg a b u) (hu : (u : Int) < g.size) {e : EnS} {epoch seq : Int} (hf : e.frames 0 0 epoch seq = true) : (e.withMate b).frames a u epoch seq = true ∧ (e.withMate a).frames b u epoch seq = true := by
  have hla := hs.la
  have hlb := hs.lb
  have hall := g.all_bd h.small
  have hsz := h.small.s
  rw [h.nz] at hla hlb
  exact ⟨EnS.frames_at hf ⟨by omega, by omega⟩ ⟨by omega, by omega⟩ ⟨by omega, by omega⟩, EnS.frames_at hf ⟨by omega, by omega⟩ ⟨by omega, by omega⟩ ⟨by omega, by omega⟩⟩
end Go.Rv

/- Records: placing, by contract, where nothing happens; the beginning. -/
namespace Go.Rv
open Go Go.RowKit Go.Proofs
attribute [local irreducible] tab0 tabV

theorem mplace_run (own : Nat → Nat) (mb pb db plb : Nat) {M : MirS} {g : GeomS} (hrun : M.Run g) (e : EnS) (he : e.bytes.length = 32) (epoch seq : Int) (hf : e.frames 0 0 epoch seq = true) (hp : (M.a ≠ -1 ∧ M.used < g.size) ∨ M.p.pairs ≠ 0) :
    ∃ (M' : MirS) (a b u : Nat), (M.ready = (M', 0) ∧ M'.Run g ∧ M'.Seg a b u ∧ (u : Int) < g.size ∧ g.domain a ≠ g.domain b ∧ (∀ j, (M'.d.d.z j).l = (M.d.d.z j).l ∧ (M'.d.d.z j).state = (M.d.d.z j).state) ∧ ((M.a ≠ -1 ∧ M.used < g.size) → M' = M) ∧ (¬ (M.a ≠ -1 ∧ M.used < g.size) → (a : Int) = M.p.pair.2.1 ∧ (b : Int) = M.p.pair.2.2.1 ∧ u = 0 ∧ M'.p = M.p.pair.1)) ∧
      ∀ (w : World), MirAt w own mb pb db plb M → Settled own w → Calls Tryz.prog 34 #[.pointer (some ⟨mb, 0, none⟩), .agg (enC e), .int .i64 epoch, .int .i64 seq] w fun r w' => r = .returned (.tuple #[.agg (entC ⟨1, a, b, u, seq, crcSum tab0 e.bytes⟩), .int .i64 0]) ∧ ∃ own', MirAt w' own' mb pb db plb (M'.plc e epoch seq a b u) ∧ Step mgTag w own w' own' ∧ Settled own' w' := by
  obtain ⟨M', a, b, u, hr, hr', hs, hu, hd, hl, hk1, hk2⟩ := hrun.ready hp
  refine ⟨M', a, b, u, ⟨hr, hr', hs, hu, hd, hl, hk1, hk2⟩, fun w h hset => ?_⟩
  obtain ⟨fa, fb⟩ := hr'.frames hs hu hf
  obtain ⟨q1, q2, q3⟩ := both_more hr'.calm hr'.opn3 hs (by rw [hr'.size]; exact hu) hr'.sz fa fb
  obtain ⟨-, -, f3⟩ := EnS.frames_parts hf
  have := mplace_ok own mb pb db plb M e he epoch seq (by rw [f3]) (by rw [hr]) (by rw [hr]; exact q1) w h hset
  rw [hr] at this
  simp only [] at this
  rw [q2, q3] at this
  exact this

/-- a new mirror runs. -/
theorem mir0_run {g : GeomS} (h : g.right = true) : (mir0 g).Run g := by
  have hs := g.right_small h
  have ho := hs.o
  refine ⟨h, rfl, ⟨rfl, rfl, by show 1 ≤ g.opn; omega⟩, rfl, rfl, rfl, PoolS.Ok.new h, rfl, fun d _ z hz => by simp [mir0] at hz, fun z => by simp [MirS.isBad, mir0], fun j _ _ _ => rfl, .inl ⟨rfl, fun j _ => by simp [mir0, drive0]⟩⟩
/-- all zones are empty: any may be given. -/
theorem MirS.Run.give {g : GeomS} {M : MirS} (h : M.Run g) (ha : M.a = -1) (hE : ∀ j, j < M.d.d.nz → (M.d.d.z j).state = 0 ∧ (M.d.d.z j).l = []) (z : Int) : ({ M with p := (M.p.give z).1 } : MirS).Run g := by
  refine ⟨h.right, h.mg, h.calm, h.nz, h.size, h.opn, h.pok.give z, (M.p.give_g z).trans h.pg, fun d hd y hy => ?_, h.bad, h.safe, ?_⟩
  · have hnd : (M.p.give z).1.nd = M.p.nd := by unfold PoolS.nd; rw [M.p.give_g z]
    have hdz : (M.p.give z).1.g.domain y = d := (h.pok.give z).inn d hd y hy
    rw [M.p.give_g z, h.pg] at hdz
    obtain ⟨y0, y1⟩ := GeomS.dom_nat hdz
    exact hE _ (by rw [h.nz]; exact y1)
  · rcases h.seg with h1 | ⟨a, b, u, hs, -⟩
    · exact .inl h1
    · have := hs.ea; omega
end Go.Rv

/- Entries: one is built of its kind, first, count and bytes; one of a trim's numbers. -/
namespace Go.Rv
open Go Go.RowKit Go.Proofs

def enF (k a b : Int) (cs : Array Value) : Array Value := #[.int .i64 k, .int .i64 a, .int .i64 b, .int .i64 0, .int .i64 0, .int .i64 0] ++ cs
theorem enF_eq (k a b : Int) (B : List UInt8) : enF k a b (bytesV B) = enC ⟨k, a, b, 0, 0, 0, B⟩ := by simp [enF, enC, bytesV]
theorem enF_splice (k a b : Int) (cs : Array Value) (h : cs.size = 32) : splice (enC ⟨k, a, b, 0, 0, 0, zero32⟩) 6 cs = enF k a b cs := by
  have hz : (enC ⟨k, a, b, 0, 0, 0, zero32⟩).size = 38 := rfl
  apply Array.ext_getElem?
  intro i
  rw [get_splice _ _ _ _ (by omega)]
  unfold enF
  by_cases h1 : i < 6
  · rw [if_neg (by omega), Array.getElem?_append_left (by simpa using h1)]
    have : i = 0 ∨ i = 1 ∨ i = 2 ∨ i = 3 ∨ i = 4 ∨ i = 5 := by omega
    rcases this with rfl | rfl | rfl | rfl | rfl | rfl <;> rfl
  · rw [Array.getElem?_append_right (by simp; omega)]
    by_cases h2 : i < 38
    · rw [if_pos (by omega)]; rfl
    · rw [if_neg (by omega), Array.getElem?_eq_none (by omega), Array.getElem?_eq_none (by simp; omega)]
theorem build_enF (k a b : Int) (cs : Array Value) (h : cs.size = 32) (w : World) : (Instr.build 89 #[(0, .int .i64 k), (1, .int .i64 a), (2, .int .i64 b), (6, .agg cs)]).run Tryz.prog w = .ok (.agg (enF k a b cs)) w := by
  obtain ⟨i0, hi, hz0, hz1, hz2⟩ := info_parts info_Entry
  have hzv : (zeroValue 89).run Tryz.prog w = .ok (.agg z_Entry) w := by simp [zeroValue, typeInfo, hi, hz0]
  have hu := run_underlying Tryz.underlying89 w
  unfold Instr.build
  simp only [Sem.run_bind, hzv, hu, Result.andThen_ok]
  refine (congrArg (fun r => Result.andThen r _) (show _ = Result.ok #[(0, 1), (1, 1), (2, 1), (3, 1), (4, 1), (5, 1), (6, 32)] w from by kernel_rfl)).trans ?_
  have hz : (Value.agg z_Entry).cells = z_Entry := rfl
  have hf : Instr.fill (fun x => (#[(0, 1), (1, 1), (2, 1), (3, 1), (4, 1), (5, 1), (6, 32)] : Array (Nat × Nat))[x]?) z_Entry [(0, .int .i64 k), (1, .int .i64 a), (2, .int .i64 b), (6, .agg cs)] = some (enF k a b cs) := by
    rw [fill_int _ _ 0 0 k _ rfl (by rw [size_z_Entry]; omega), fill_int _ _ 1 1 a _ rfl (by simp [size_z_Entry]), fill_int _ _ 2 2 b _ rfl (by simp [size_z_Entry]), enC_zero]
    refine (fill_at _ _ 6 6 32 (.agg cs) [] rfl h (by simp; exact Nat.le_refl 38)).trans ?_
    have e1 : (Value.agg cs).cells = cs := rfl
    rw [e1, ← enF_splice k a b cs h]
    rfl
  simp only [Result.andThen_ok, hz, hf]
  rfl
theorem bd_EntryF (f : Operand → Value) (x0 x1 x2 x6 : Operand) (d : Option Tmp) (t : TypeId) (pos : String) (af : Array Edge) (g : Option (Nat × Bool)) (w : World) :
    (execOp f ⟨d, .build 89 #[(0, x0), (1, x1), (2, x2), (6, x6)], t, pos, af, g⟩).run Tryz.prog w = match f x0, f x1, f x2, f x6 with
      | .int .i64 k, .int .i64 a, .int .i64 b, .agg cs => if cs.size = 32 then .ok (.value (.agg (enF k a b cs))) w else stuckOp Tryz.prog f ⟨d, .build 89 #[(0, x0), (1, x1), (2, x2), (6, x6)], t, pos, af, g⟩ w
      | _, _, _, _ => stuckOp Tryz.prog f ⟨d, .build 89 #[(0, x0), (1, x1), (2, x2), (6, x6)], t, pos, af, g⟩ w := by
  split
  · rename_i k a b cs h0 h1 h2 h6
    split
    · rename_i hh
      have := build_enF k a b cs hh w
      simp [execOp, h0, h1, h2, h6, this]
    · rfl
  · rfl
theorem build_enT (k a b c m : Int) (w : World) : (Instr.build 89 #[(0, .int .i64 k), (1, .int .i64 a), (2, .int .i64 b), (3, .int .i64 c), (4, .int .i64 m)]).run Tryz.prog w = .ok (.agg (enC ⟨k, a, b, c, m, 0, zero32⟩)) w := by
  obtain ⟨i0, hi, hz0, hz1, hz2⟩ := info_parts info_Entry
  have hzv : (zeroValue 89).run Tryz.prog w = .ok (.agg z_Entry) w := by simp [zeroValue, typeInfo, hi, hz0]
  have hu := run_underlying Tryz.underlying89 w
  unfold Instr.build
  simp only [Sem.run_bind, hzv, hu, Result.andThen_ok]
  refine (congrArg (fun r => Result.andThen r _) (show _ = Result.ok #[(0, 1), (1, 1), (2, 1), (3, 1), (4, 1), (5, 1), (6, 32)] w from by kernel_rfl)).trans ?_
  have hz : (Value.agg z_Entry).cells = z_Entry := rfl
  have hf : Instr.fill (fun x => (#[(0, 1), (1, 1), (2, 1), (3, 1), (4, 1), (5, 1), (6, 32)] : Array (Nat × Nat))[x]?) z_Entry [(0, .int .i64 k), (1, .int .i64 a), (2, .int .i64 b), (3, .int .i64 c), (4, .int .i64 m)] = some (enC ⟨k, a, b, c, m, 0, zero32⟩) := by
    rw [fill_int _ _ 0 0 k _ rfl (by rw [size_z_Entry]; omega), fill_int _ _ 1 1 a _ rfl (by simp [size_z_Entry]), fill_int _ _ 2 2 b _ rfl (by simp [size_z_Entry]), fill_int _ _ 3 3 c _ rfl (by simp [size_z_Entry]), fill_int _ _ 4 4 m _ rfl (by simp [size_z_Entry])]
    rw [enC_zero]
    rfl
  simp only [Result.andThen_ok, hz, hf]
  rfl
theorem bd_EntryT (f : Operand → Value) (x0 x1 x2 x3 x4 : Operand) (d : Option Tmp) (t : TypeId) (pos : String) (af : Array Edge) (g : Option (Nat × Bool)) (w : World) :
    (execOp f ⟨d, .build 89 #[(0, x0), (1, x1), (2, x2), (3, x3), (4, x4)], t, pos, af, g⟩).run Tryz.prog w = match f x0, f x1, f x2, f x3, f x4 with
      | .int .i64 k, .int .i64 a, .int .i64 b, .int .i64 c, .int .i64 m => .ok (.value (.agg (enC ⟨k, a, b, c, m, 0, zero32⟩))) w
      | _, _, _, _, _ => stuckOp Tryz.prog f ⟨d, .build 89 #[(0, x0), (1, x1), (2, x2), (3, x3), (4, x4)], t, pos, af, g⟩ w := by
  split
  · rename_i k a b c m h0 h1 h2 h3 h4
    have := build_enT k a b c m w
    simp [execOp, h0, h1, h2, h3, h4, this]
  · rfl
end Go.Rv

/- Mirrors: the law's anchor. -/
namespace Go.Rv
open Go Go.RowKit Go.Proofs
attribute [local irreducible] wpQuiet tab0 tabV
attribute [local go_sem ↓] ld_M14 st_M14 al_M14 ld_Ent st_Ent al_Ent ld_Block st_Block al_Block bd_EntryF
attribute [local go_sem] cellsAt_new0 cellsAt_lt cellsAt_drew size_bytesV cellsFree_new0 size_z_M14 size_z_Block size_z_Ent

def nine : List UInt8 := List.replicate 32 9
def ancE : EnS := ⟨3, 1, 1, 0, 0, 0, nine⟩
theorem ancE_frames : ancE.frames 0 0 1 1 = true := by decide
def ancP : PoolS := (((⟨gAnc, fun _ => []⟩ : PoolS).give 0).1.give 8).1
theorem ancP_pair : ancP.pairs ≠ 0 ∧ ancP.pair.2.1 = 0 ∧ ancP.pair.2.2.1 = 8 := by decide
def ancM : MirS := { mir0 gAnc with p := ancP }
theorem ancM_run : ancM.Run gAnc := by
  have h0 := mir0_run gAnc_right
  have hE : ∀ j, j < (mir0 gAnc).d.d.nz → ((mir0 gAnc).d.d.z j).state = 0 ∧ ((mir0 gAnc).d.d.z j).l = [] := fun j _ => ⟨rfl, rfl⟩
  exact (h0.give rfl hE 0).give rfl hE 8

/-- what was placed is checked with two good copies. -/
theorem chk_placed {g : GeomS} {M : MirS} (h : M.Run g) {a b u : Nat} (hs : M.Seg a b u) (hu : (u : Int) < g.size) (hd : g.domain a ≠ g.domain b) {e : EnS} (he : e.bytes.length = 32) {epoch seq : Int} (hf : e.frames 0 0 epoch seq = true) (hk : e.kind ≠ 2) (h1 : 1 ≤ seq) (h2 : seq ≤ 281474976710655) :
    (M.plc e epoch seq a b u).chk ⟨1, a, b, u, seq, crcSum tab0 e.bytes⟩ = ({ M.plc e epoch seq a b u with d := (M.plc e epoch seq a b u).d.tick.tick }, e.bytes, 2, 0) := by
  obtain ⟨fa, fb⟩ := h.frames hs hu hf
  have hr := h.plc hs hu e epoch seq
  obtain ⟨l1, l2⟩ := h.lives hs hu hd h1 h2 e.bytes
  have hl : (M.plc e epoch seq a b u).lives ⟨1, a, b, u, seq, crcSum tab0 e.bytes⟩ = true := by
    unfold MirS.lives
    rw [l1, hr.mg, l2]; rfl
  rw [chk_good hr.calm hl (plc_rec hs he fa fb) hk, hr.bad, hr.bad]
  rfl

set_option maxHeartbeats 500000 in
set_option maxRecDepth 100000 in
theorem anchor14_calls (w : World) : Calls Tryz.prog 23 #[] w fun e w' => e = .returned (.bool true) ∧ Keeps (fun _ => False) w w' := by
  have hst := fun X => started14_yes gAnc gAnc_right (by decide) (fun _ => 0) X (fun _ _ => rfl)
  simp only [show geomV gAnc = .agg #[.int .i64 3, .int .i64 8, .int .i64 8, .int .i64 4, .int .i64 0, .int .i64 4] from rfl] at hst
  have hfl : ∀ X, Calls Tryz.prog 38 #[.int .u8 9] X fun e w' => e = .returned (.agg (bytesV nine)) ∧ Keeps (fun _ => False) X w' := fun X => efill_calls 9 X
  have HFL := hid hfl
  have en9 : (bytesV nine).size = 32 := rfl
  have eo9 := allOne_bytes nine
  clear hfl
  go_enter Tryz.func23, Tryz.ntmps23
  go_wp2_with fail
  refine Calls.mono (hst _) ?_
  rintro e w1 ⟨mb, pb, db, plb, own1, ys, rfl, hy1, hy2, hM, hs, hset⟩
  have hk1 := (Keeps.refl (fun _ => False) w1).alloc (.cells z_M14 42)
  have hk2 := keeps_put0 (o := 0) hk1 (fun h => absurd h (Nat.lt_irrefl _)) ys
  have H1 := hid (And.intro (hM.still hk2) (And.intro (hs.trans (Step.kept (A := anyTag) (hk2.mono fun _ _ h => h.elim) hset).1) (hset.keeps hk2)))
  obtain ⟨w2, hw2⟩ : ∃ w2, putCells (w1.alloc (.cells z_M14 42)) ⟨w1.heap.size, 0, none⟩ ys = w2 := ⟨_, rfl⟩
  rw [hw2] at H1
  clear hM hs hset hk1 hk2 hst
  go_wp2_with fail
  refine Calls.mono (mpool_calls own1 mb pb db plb _ w2 H1.out.1) ?_
  rintro e w3 ⟨rfl, rfl⟩
  go_wp2_with fail
  refine Calls.mono (give_calls own1 plb (mir0 gAnc).p 0 w2 H1.out.1.pool H1.out.1.ok.pool H1.out.2.2) ?_
  rintro e w3 ⟨rfl, hp3, hk3⟩
  have s3 := Step.kept (A := poolTag) hk3 H1.out.2.2
  have hM3 := H1.out.1.turnp s3.1 hp3 (H1.out.1.ok.pool.give 0) (((mir0 gAnc).p.give_g 0).trans H1.out.1.ok.pg)
  have H3 := hid (And.intro hM3 (And.intro (H1.out.2.1.trans (s3.1.mono (B := anyTag) fun t h => by unfold poolTag anyTag at *; omega)) s3.2))
  clear hp3 hk3 s3 hM3 hw2
  go_wp2_with fail
  refine Calls.mono (mpool_calls own1 mb pb db plb _ w3 H3.out.1) ?_
  rintro e w4 ⟨rfl, rfl⟩
  go_wp2_with fail
  refine Calls.mono (give_calls own1 plb _ 8 w3 H3.out.1.pool H3.out.1.ok.pool H3.out.2.2) ?_
  rintro e w4 ⟨rfl, hp4, hk4⟩
  have s4 := Step.kept (A := poolTag) hk4 H3.out.2.2
  have hM4 : MirAt w4 own1 mb pb db plb ancM := H3.out.1.turnp s4.1 hp4 (H3.out.1.ok.pool.give 8) ((PoolS.give_g _ 8).trans H3.out.1.ok.pg)
  have H4 := hid (And.intro hM4 (And.intro (H3.out.2.1.trans (s4.1.mono (B := anyTag) fun t h => by unfold poolTag anyTag at *; omega)) s4.2))
  clear hp4 hk4 s4 hM4
  obtain ⟨M', a, b, u, ⟨hr, hrun, hseg, hu, hd, -, -, hk2⟩, hpl⟩ := mplace_run own1 mb pb db plb ancM_run ancE rfl 1 1 ancE_frames (.inr ancP_pair.1)
  obtain ⟨ha, hb, hu0, -⟩ := hk2 (fun h => h.1 rfl)
  rw [show ancM.p = ancP from rfl] at ha hb
  rw [ancP_pair.2.1] at ha
  rw [ancP_pair.2.2] at hb
  have hck := chk_placed hrun hseg hu hd (e := ancE) rfl ancE_frames (by decide) (seq := 1) (by omega) (by omega)
  obtain ⟨MP, hMP⟩ : ∃ MP, M'.plc ancE 1 1 a b u = MP := ⟨_, rfl⟩
  rw [hMP] at hck hpl
  rw [show enC ancE = enF 3 1 1 (bytesV nine) from (enF_eq 3 1 1 nine).symm] at hpl
  have hx : entC ⟨1, a, b, u, 1, crcSum tab0 ancE.bytes⟩ = #[.int .i64 1, .int .i64 0, .int .i64 8, .int .i64 0, .int .i64 1, .int .i64 (crcSum tab0 nine)] := by
    rw [ha, hb, hu0]; rfl
  obtain ⟨X, hX⟩ : ∃ X : EntS, ⟨1, a, b, u, 1, crcSum tab0 ancE.bytes⟩ = X := ⟨_, rfl⟩
  rw [hX] at hck hpl hx
  have HPL := hid hpl
  have HCK := hid hck
  have HX := hid hx
  clear hr hrun hseg hu hd hk2 ha hb hu0 hck hpl hX hx hMP
  go_wp2_with fail
  refine Calls.mono (HFL.out _) ?_
  rintro e w5 ⟨rfl, hk5⟩
  have H5 := hid hk5
  clear hk5
  go_wp2_with fail
  refine Calls.mono (HPL.out _ (H4.out.1.still H5.out) (H4.out.2.2.keeps H5.out)) ?_
  rintro e w6 ⟨rfl, own6, hM6, hs6, hset6⟩
  have ex : (entC X).size = 6 := rfl
  have ex2 : allOne (entC X) = true := rfl
  have hk6 := keeps_put0 (o := 0) ((Keeps.refl (fun _ => False) w6).alloc (.cells z_Ent 83)) (fun h => absurd h (Nat.lt_irrefl _)) (entC X)
  have hb6 := putCells_at (heap_new w6 (.cells z_Ent 83)) (show z_Ent.size = (entC X).size from rfl)
  have hst6 := ((H4.out.2.1.trans (Step.kept (A := anyTag) (H5.out.mono fun _ _ h => h.elim) H4.out.2.2).1).trans (hs6.mono (B := anyTag) fun t h => by unfold mgTag drvTag devTag poolTag anyTag at *; omega)).trans (Step.kept (A := anyTag) (hk6.mono fun _ _ h => h.elim) hset6).1
  have H6 := hid (And.intro (hM6.still hk6) (And.intro hst6 (And.intro (hset6.keeps hk6) (And.intro hb6 (hset6 w6.heap.size (Nat.le_refl _))))))
  have hld := cellsAt_full (n := 6) hb6 ex
  obtain ⟨w7, hw7⟩ : ∃ w7, putCells (w6.alloc (.cells z_Ent 83)) ⟨w6.heap.size, 0, none⟩ (entC X) = w7 := ⟨_, rfl⟩
  rw [hw7] at H6 hld
  obtain ⟨EC, hEC⟩ : ∃ EC, entC X = EC := ⟨_, rfl⟩
  rw [hEC] at ex ex2 hld hw7 H6 HX ⊢
  have HEC := hid hEC
  clear hM6 hs6 hset6 hk6 hb6 hst6 hEC
  go_wp2_with fail
  rw [← HEC.out]
  refine Calls.mono (mcheck_calls own6 mb pb db plb MP X w7 H6.out.1 H6.out.2.2.1) ?_
  rw [HCK.out]
  rintro e w8 ⟨rfl, own8, hM8, hs8, hset8⟩
  have hb8 := hs8.heap H6.out.2.2.2.1 (by rw [H6.out.2.2.2.2]; exact mgTag_zero)
  have hk8 := keeps_put0 (o := 0) ((Keeps.refl (fun _ => False) w8).alloc (.cells z_Block 87)) (fun h => absurd h (Nat.lt_irrefl _)) (bytesV nine)
  have hl8 := putCells_at (heap_new w8 (.cells z_Block 87)) (show z_Block.size = (bytesV nine).size from rfl)
  have hst8 := (H6.out.2.1.trans (hs8.mono (B := anyTag) fun t h => by unfold mgTag drvTag devTag poolTag anyTag at *; omega)).trans (Step.kept (A := anyTag) (hk8.mono fun _ _ h => h.elim) hset8).1
  have hb9 := hk8.heap hb8 id
  obtain ⟨w9, hw9⟩ : ∃ w9, putCells (w8.alloc (.cells z_Block 87)) ⟨w8.heap.size, 0, none⟩ (bytesV nine) = w9 := ⟨_, rfl⟩
  rw [hw9] at hl8 hst8 hb9
  have HF : Hid (∀ W, Keeps (fun _ => False) w9 W → W.cell? ⟨w6.heap.size, 1, none⟩ = some (.int .i64 0) ∧ W.cell? ⟨w6.heap.size, 2, none⟩ = some (.int .i64 8) ∧ W.cell? ⟨w6.heap.size, 3, none⟩ = some (.int .i64 0) ∧ cellsAt W ⟨w8.heap.size, 0, none⟩ 32 = some (bytesV nine)) := hid fun W hW => by
    have q := hW.heap hb9 id
    refine ⟨(cell_of q 1).trans ?_, (cell_of q 2).trans ?_, (cell_of q 3).trans ?_, cellsAt_full (hW.heap hl8 id) rfl⟩
    all_goals rw [HX.out]; rfl
  have heq := block_eq nine nine rfl rfl
  have hnn : (nine == nine) = true := by simp
  rw [hnn] at heq
  have H9 := hid (And.intro hst8 heq)
  have hb32 : bytesV ancE.bytes = bytesV nine := rfl
  rw [hb32]
  obtain ⟨B9, hB9⟩ : ∃ B9, bytesV nine = B9 := ⟨_, rfl⟩
  rw [hB9] at en9 eo9 hw9 HF HFL heq ⊢
  clear hM8 hs8 hset8 hb8 hk8 hl8 hst8 hb9 hld hw7 hb32 hB9 hnn
  go_wp2_with fail
  refine wp_region_still (by kernel_rfl) (by kernel_rfl) ?_
  repeat (first | (refine still_pass ?_ ?_; (focus (first | (go_simp; done) | rfl)); try simp only [Act.put, List.setIfInBounds_toArray, List.set_cons_succ, List.set_cons_zero]) | (apply still_step; (focus (go_simp; done)); (focus (intro W hW; unfold Oper.quietAt; (obtain ⟨c1, c2, c3, c4⟩ := HF.out W hW); go_simp; first | done | with_reducible rfl | (go_at_call 38; exact still_call hW (HFL.out W)) | exact ⟨rfl, rfl⟩)); try simp only [Act.put, List.setIfInBounds_toArray, List.set_cons_succ, List.set_cons_zero]))
  refine wpQuiet_nil ?_
  intro W hW
  have HW := hid hW
  clear hW
  go_wp2_with fail
  go_ret
  exact ⟨rfl, (H9.out.1.keeps.mono fun k _ h => absurd rfl h).trans HW.out⟩
end Go.Rv
