/- Geometries. -/
import Derived.Test.YtoijkpgcaokhlaaGreatPart06
import Derived.Deep.RegionHeld3
import Derived.Deep.QuietTactic
import Derived.BigQuiet
import Derived.Test.YtoijkpgcaokhlaaGreatPart03
import Derived.IntWalk
set_option linter.unusedVariables false
set_option linter.unusedSimpArgs false
namespace Go.Rv
open Go Go.RowKit Go.Proofs

theorem ret_int {k : IntKind} {a b : Int} (h : a = b) : Ending.returned (.int k a) = .returned (.int k b) := by rw [h]
def inB (n lo hi : Int) : Bool := decide (lo ≤ n) && decide (n ≤ hi)

theorem gwithin_calls (n lo hi : Int) (w : World) : Calls Tryz.prog 140 #[.int .i64 n, .int .i64 lo, .int .i64 hi] w fun e w' => e = .returned (.bool (inB n lo hi)) ∧ w = w' := by
  by_cases h1 : lo ≤ n
  · have b1 : decide (lo ≤ n) = true := by simpa using h1
    go_enter Tryz.func140, Tryz.ntmps140
    go_wp2
    go_ret
    exact ⟨by simp [inB]; omega, rfl⟩
  · have b1 : decide (lo ≤ n) = false := by simpa using h1
    go_enter Tryz.func140, Tryz.ntmps140
    go_wp2
    go_ret
    exact ⟨by simp [inB]; omega, rfl⟩

def GeomS.small (g : GeomS) : Bool := inB g.domains 3 8 && inB g.zones 1 64 && inB g.size 4 64 && inB g.blocks 1 256 && inB g.spare 0 4 && inB g.opn 4 64

set_option maxHeartbeats 1000000 in
theorem small_calls (g : GeomS) (w : World) : Calls Tryz.prog 111 #[geomV g] w fun e w' => e = .returned (.bool g.small) ∧ w' = w.alloc (.cells #[.int .i64 g.domains, .int .i64 g.zones, .int .i64 g.size, .int .i64 g.blocks, .int .i64 g.spare, .int .i64 g.opn] 23) := by
  unfold GeomS.small geomV
  cases h1 : inB g.domains 3 8
  rotate_left
  cases h2 : inB g.zones 1 64
  rotate_left
  cases h3 : inB g.size 4 64
  rotate_left
  cases h4 : inB g.blocks 1 256
  rotate_left
  cases h5 : inB g.spare 0 4
  rotate_left
  cases h6 : inB g.opn 4 64
  rotate_left
  all_goals
    go_enter Tryz.func111, Tryz.ntmps111
    go_wp2_with (go_at_call 140; refine (gwithin_calls _ _ _ _).mono ?_; rintro e w' ⟨rfl, rfl⟩; simp only [*])
    go_ret
    exact ⟨rfl, rfl⟩
theorem mul_bd {x y A B : Int} (h1 : 0 ≤ x) (h2 : x ≤ A) (h3 : -B ≤ y) (h4 : y ≤ B) (hB : 0 ≤ B) : -(A * B) ≤ x * y ∧ x * y ≤ A * B := by
  have a1 : x * y ≤ x * B := Int.mul_le_mul_of_nonneg_left h4 h1
  have a2 : x * B ≤ A * B := Int.mul_le_mul_of_nonneg_right h2 hB
  have a3 : x * (-B) ≤ x * y := Int.mul_le_mul_of_nonneg_left h3 h1
  have a4 : x * (-B) = -(x * B) := by rw [Int.mul_neg]
  omega

structure GeomS.Small (g : GeomS) : Prop where
  d : 3 ≤ g.domains ∧ g.domains ≤ 8
  z : 1 ≤ g.zones ∧ g.zones ≤ 64
  s : 4 ≤ g.size ∧ g.size ≤ 64
  b : 1 ≤ g.blocks ∧ g.blocks ≤ 256
  p : 0 ≤ g.spare ∧ g.spare ≤ 4
  o : 4 ≤ g.opn ∧ g.opn ≤ 64

theorem GeomS.small_iff (g : GeomS) : g.small = true ↔ g.Small := by
  unfold GeomS.small inB
  simp only [Bool.and_eq_true, decide_eq_true_eq]
  exact ⟨fun ⟨⟨⟨⟨⟨a, b⟩, c⟩, d⟩, e⟩, f⟩ => ⟨a, b, c, d, e, f⟩, fun h => ⟨⟨⟨⟨⟨h.d, h.z⟩, h.s⟩, h.b⟩, h.p⟩, h.o⟩⟩

def GeomS.parts (g : GeomS) : Int := 1 + (g.blocks + 1) / 2
def GeomS.reserve (g : GeomS) : Int := g.domains * g.spare + 4
def GeomS.segs (g : GeomS) : Int :=
  min ((g.domains - 1) * (g.zones - g.spare - 2) - (g.domains * g.spare + 4) + 1) (g.domains * (g.zones - g.spare - 2) - 2 * (g.domains * g.spare + 4) + 1) / 2 - 1 - g.domains * g.spare
def GeomS.right (g : GeomS) : Bool := g.small && decide (g.parts ≤ g.size) && decide (2 * g.blocks ≤ g.size * g.segs)
def geomB (g : GeomS) : Obj := .cells #[.int .i64 g.domains, .int .i64 g.zones, .int .i64 g.size, .int .i64 g.blocks, .int .i64 g.spare, .int .i64 g.opn] 23

theorem parts_calls (g : GeomS) (h1 : 0 ≤ g.blocks) (h2 : g.blocks ≤ 256) (w : World) : Calls Tryz.prog 112 #[geomV g] w fun e w' => e = .returned (.int .i64 g.parts) ∧ w' = w.alloc (geomB g) := by
  unfold geomV geomB
  go_enter Tryz.func112, Tryz.ntmps112
  go_wp2
  go_ret
  exact ⟨ret_int (by unfold GeomS.parts; omega), rfl⟩

theorem reserve_calls (g : GeomS) (h : g.Small) (w : World) : Calls Tryz.prog 159 #[geomV g] w fun e w' => e = .returned (.int .i64 g.reserve) ∧ w' = w.alloc (geomB g) := by
  obtain ⟨b1, b2⟩ := mul_bd (x := g.domains) (y := g.spare) (A := 8) (B := 4) (by have := h.d; omega) h.d.2 (by have := h.p; omega) h.p.2 (by omega)
  unfold geomV geomB
  go_enter Tryz.func159, Tryz.ntmps159
  go_wp2
  go_ret
  exact ⟨rfl, rfl⟩

theorem gAll_calls (g : GeomS) (h : g.Small) (w : World) : Calls Tryz.prog 63 #[geomV g] w fun e w' => e = .returned (.int .i64 (g.domains * g.zones)) ∧ w' = w.alloc (geomB g) := by
  obtain ⟨b1, b2⟩ := mul_bd (x := g.domains) (y := g.zones) (A := 8) (B := 64) (by have := h.d; omega) h.d.2 (by have := h.z; omega) h.z.2 (by omega)
  unfold geomV geomB
  go_enter Tryz.func63, Tryz.ntmps63
  go_wp2
  go_ret
  exact ⟨rfl, rfl⟩

set_option maxHeartbeats 1000000 in
theorem segs_calls (g : GeomS) (h : g.Small) (w : World) : Calls Tryz.prog 113 #[geomV g] w fun e w' => e = .returned (.int .i64 g.segs) ∧ Keeps (fun _ => False) w w' := by
  obtain ⟨b1, b2⟩ := mul_bd (x := g.domains) (y := g.spare) (A := 8) (B := 4) (by have := h.d; omega) h.d.2 (by have := h.p; omega) h.p.2 (by omega)
  obtain ⟨b3, b4⟩ := mul_bd (x := g.domains) (y := g.zones - g.spare - 2) (A := 8) (B := 64) (by have := h.d; omega) h.d.2 (by have := h.p; have := h.z; omega) (by have := h.p; have := h.z; omega) (by omega)
  obtain ⟨b5, b6⟩ := mul_bd (x := g.domains - 1) (y := g.zones - g.spare - 2) (A := 7) (B := 64) (by have := h.d; omega) (by have := h.d; omega) (by have := h.p; have := h.z; omega) (by have := h.p; have := h.z; omega) (by omega)
  obtain ⟨hz1, hz2⟩ := h.z
  obtain ⟨hp1, hp2⟩ := h.p
  obtain ⟨hd1, hd2⟩ := h.d
  have b0 : 0 ≤ g.domains * g.spare := Int.mul_nonneg (by omega) hp1
  have r1 : 0 ≤ g.reserve := by unfold GeomS.reserve; omega
  have r2 : g.reserve ≤ 36 := by unfold GeomS.reserve; omega
  have HR := hid (show g.reserve = g.domains * g.spare + 4 from rfl)
  unfold geomV
  go_enter Tryz.func113, Tryz.ntmps113
  go_wp2_with fail
  have HH := hid h
  clear h
  go_region_held3 (fun W => W.cell? ⟨w.heap.size, 0, none⟩ = some (.int .i64 g.domains) ∧ W.cell? ⟨w.heap.size, 1, none⟩ = some (.int .i64 g.zones) ∧ W.cell? ⟨w.heap.size, 2, none⟩ = some (.int .i64 g.size) ∧ W.cell? ⟨w.heap.size, 3, none⟩ = some (.int .i64 g.blocks) ∧ W.cell? ⟨w.heap.size, 4, none⟩ = some (.int .i64 g.spare) ∧ W.cell? ⟨w.heap.size, 5, none⟩ = some (.int .i64 g.opn)) (go_keep)
    (first | (go_at_call 159; refine (reserve_calls g HH.out _).mono ?_; rintro e w' ⟨rfl, rfl⟩))
  go_wp2
  all_goals
    go_ret
    have hr := HR.out
    refine ⟨ret_int ?_, (by repeat (first | exact Keeps.refl _ _ | refine Keeps.alloc ?_ _ | refine Keeps.drew ?_ | refine Keeps.drewN ?_ _ | refine Keeps.trans ?_ (by assumption)))⟩
    unfold GeomS.segs
    rw [← hr]
    simp only [Int.min_def]
    (repeat' split) <;> omega

theorem GeomS.segs_bd (g : GeomS) (h : g.Small) : -1000 ≤ g.segs ∧ g.segs ≤ 1000 := by
  obtain ⟨b1, b2⟩ := mul_bd (x := g.domains) (y := g.spare) (A := 8) (B := 4) (by have := h.d; omega) h.d.2 (by have := h.p; omega) h.p.2 (by omega)
  obtain ⟨b3, b4⟩ := mul_bd (x := g.domains) (y := g.zones - g.spare - 2) (A := 8) (B := 64) (by have := h.d; omega) h.d.2 (by have := h.p; have := h.z; omega) (by have := h.p; have := h.z; omega) (by omega)
  obtain ⟨b5, b6⟩ := mul_bd (x := g.domains - 1) (y := g.zones - g.spare - 2) (A := 7) (B := 64) (by have := h.d; omega) (by have := h.d; omega) (by have := h.p; have := h.z; omega) (by have := h.p; have := h.z; omega) (by omega)
  unfold GeomS.segs
  simp only [Int.min_def]
  split <;> omega

end Go.Rv

/- A geometry is right. -/
namespace Go.Rv
open Go Go.RowKit Go.Proofs
attribute [local irreducible] wpQuiet

set_option maxHeartbeats 1000000 in
set_option maxRecDepth 100000 in
theorem right_calls (g : GeomS) (w : World) : Calls Tryz.prog 62 #[geomV g] w fun e w' => e = .returned (.bool g.right) ∧ Keeps (fun _ => False) w w' := by
  have HF : Hid (∀ W, Keeps (fun _ => False) (w.alloc (geomB g)) W → W.cell? ⟨w.heap.size, 0, none⟩ = some (.int .i64 g.domains) ∧ W.cell? ⟨w.heap.size, 1, none⟩ = some (.int .i64 g.zones) ∧ W.cell? ⟨w.heap.size, 2, none⟩ = some (.int .i64 g.size) ∧ W.cell? ⟨w.heap.size, 3, none⟩ = some (.int .i64 g.blocks) ∧ W.cell? ⟨w.heap.size, 4, none⟩ = some (.int .i64 g.spare) ∧ W.cell? ⟨w.heap.size, 5, none⟩ = some (.int .i64 g.opn)) := hid fun W hW => by
    have h := hW.heap (heap_new w (geomB g)) (fun h => h)
    exact ⟨cell_of h 0, cell_of h 1, cell_of h 2, cell_of h 3, cell_of h 4, cell_of h 5⟩
  cases hs : g.small with
  | false =>
    have hr : g.right = false := by simp [GeomS.right, hs]
    rw [hr]
    clear hr
    unfold geomV
    go_enter Tryz.func62, Tryz.ntmps62
    go_wp2_with fail
    refine wp_region_still (by kernel_rfl) (by kernel_rfl) ?_
    repeat (first | (refine still_pass ?_ ?_; (focus (first | (go_simp; done) | rfl)); try simp only [Act.put, List.setIfInBounds_toArray, List.set_cons_succ, List.set_cons_zero]) | (apply still_step; (focus (go_simp; done)); (focus (intro W hW; unfold Oper.quietAt; (obtain ⟨c0, c1, c2, c3, c4, c5⟩ := HF.out W hW); go_simp; first | done | with_reducible rfl | (go_at_call 111; have hc := small_calls g W; rw [hs] at hc; exact still_call_box hW hc) | exact ⟨rfl, rfl⟩)); try simp only [Act.put, List.setIfInBounds_toArray, List.set_cons_succ, List.set_cons_zero]))
    refine wpQuiet_nil ?_
    intro W hW
    go_wp2
    go_ret
    exact ⟨rfl, ((by repeat (first | exact Keeps.refl _ _ | refine Keeps.alloc ?_ _ | refine Keeps.drew ?_ | refine Keeps.drewN ?_ _ | refine Keeps.trans ?_ (by assumption))) : Keeps (fun _ => False) w _).trans hW⟩
  | true =>
    have h := (GeomS.small_iff g).1 hs
    obtain ⟨hb1, hb2⟩ := h.b
    obtain ⟨hs1, hs2⟩ := h.s
    have hsb := g.segs_bd h
    obtain ⟨p1, p2⟩ := mul_bd (x := g.size) (y := g.segs) (A := 64) (B := 1000) (by omega) hs2 hsb.1 hsb.2 (by omega)
    have HS := hid h
    have w1 : IntKind.i64.wrap (2 * g.blocks) = 2 * g.blocks := IntWalk.i64_in _ (by omega)
    have w2 : IntKind.i64.wrap (g.size * g.segs) = g.size * g.segs := IntWalk.i64_in _ (by omega)
    clear h hsb
    have hr : g.right = (decide (g.parts ≤ g.size) && decide (2 * g.blocks ≤ g.size * g.segs)) := by simp [GeomS.right, hs]
    rw [hr]
    clear hr
    cases h1 : decide (g.parts ≤ g.size)
    rotate_left
    cases h2 : decide (2 * g.blocks ≤ g.size * g.segs)
    all_goals
      unfold geomV
      go_enter Tryz.func62, Tryz.ntmps62
      go_wp2_with fail
      refine wp_region_still (by kernel_rfl) (by kernel_rfl) ?_
      repeat (first | (refine still_pass ?_ ?_; (focus (first | (go_simp; done) | rfl)); try simp only [Act.put, List.setIfInBounds_toArray, List.set_cons_succ, List.set_cons_zero]) | (apply still_step; (focus (go_simp; done)); (focus (intro W hW; unfold Oper.quietAt; (obtain ⟨c0, c1, c2, c3, c4, c5⟩ := HF.out W hW); go_simp; first | done | with_reducible rfl | (first | (go_at_call 111; have hc := small_calls g W; rw [hs] at hc; exact still_call_box hW hc) | (go_at_call 112; exact still_call_box hW (parts_calls g (by omega) (by omega) W)) | (go_at_call 113; exact still_call hW (segs_calls g HS.out W))) | exact ⟨rfl, rfl⟩)); try simp only [Act.put, List.setIfInBounds_toArray, List.set_cons_succ, List.set_cons_zero]))
      refine wpQuiet_nil ?_
      intro W hW
      go_wp2
      go_ret
      exact ⟨rfl, ((by repeat (first | exact Keeps.refl _ _ | refine Keeps.alloc ?_ _ | refine Keeps.drew ?_ | refine Keeps.drewN ?_ _ | refine Keeps.trans ?_ (by assumption))) : Keeps (fun _ => False) w _).trans hW⟩
end Go.Rv

/- A zone's domain; whether there is a sector. -/
namespace Go.Rv
open Go Go.RowKit Go.Proofs

def GeomS.all (g : GeomS) : Int := g.domains * g.zones
def GeomS.domain (g : GeomS) (z : Int) : Int := if z < 0 ∨ g.all ≤ z then -1 else z / g.zones

theorem GeomS.all_bd (g : GeomS) (h : g.Small) : 0 ≤ g.all ∧ g.all ≤ 512 := by
  obtain ⟨b1, b2⟩ := mul_bd (x := g.domains) (y := g.zones) (A := 8) (B := 64) (by have := h.d; omega) h.d.2 (by have := h.z; omega) h.z.2 (by omega)
  have := Int.mul_nonneg (a := g.domains) (b := g.zones) (by have := h.d; omega) (by have := h.z; omega)
  unfold GeomS.all
  omega

set_option maxHeartbeats 1000000 in
theorem domain_calls (g : GeomS) (h : g.Small) (z : Int) (w : World) : Calls Tryz.prog 60 #[geomV g, .int .i64 z] w fun e w' => e = .returned (.int .i64 (g.domain z)) ∧ Keeps (fun _ => False) w w' := by
  obtain ⟨a1, a2⟩ := g.all_bd h
  obtain ⟨z1, z2⟩ := h.z
  have hall : g.domains * g.zones = g.all := rfl
  have HA := hid hall
  have HH := hid h
  clear hall h
  by_cases c1 : z < 0
  · have d1 : decide (z < 0) = true := by simpa using c1
    unfold geomV
    go_enter Tryz.func60, Tryz.ntmps60
    go_wp2
    go_ret
    exact ⟨ret_int (by unfold GeomS.domain; rw [if_pos (Or.inl c1)]), (by repeat (first | exact Keeps.refl _ _ | refine Keeps.alloc ?_ _ | refine Keeps.drew ?_ | refine Keeps.drewN ?_ _ | refine Keeps.trans ?_ (by assumption)))⟩
  · have d1 : decide (z < 0) = false := by simpa using c1
    by_cases c2 : g.all ≤ z
    · have d2 : decide (g.all ≤ z) = true := by simpa using c2
      unfold geomV
      go_enter Tryz.func60, Tryz.ntmps60
      go_wp2_with (go_at_call 63; refine (gAll_calls g HH.out _).mono ?_; rintro e w' ⟨rfl, rfl⟩; rw [HA.out])
      go_ret
      exact ⟨ret_int (by unfold GeomS.domain; rw [if_pos (Or.inr c2)]), (by repeat (first | exact Keeps.refl _ _ | refine Keeps.alloc ?_ _ | refine Keeps.drew ?_ | refine Keeps.drewN ?_ _ | refine Keeps.trans ?_ (by assumption)))⟩
    · have d2 : decide (g.all ≤ z) = false := by simpa using c2
      have d3 : decide (g.zones = 0) = false := by simp; omega
      unfold geomV
      go_enter Tryz.func60, Tryz.ntmps60
      go_wp2_with (go_at_call 63; refine (gAll_calls g HH.out _).mono ?_; rintro e w' ⟨rfl, rfl⟩; rw [HA.out])
      go_ret
      refine ⟨ret_int ?_, (by repeat (first | exact Keeps.refl _ _ | refine Keeps.alloc ?_ _ | refine Keeps.drew ?_ | refine Keeps.drewN ?_ _ | refine Keeps.trans ?_ (by assumption)))⟩
      unfold GeomS.domain
      rw [if_neg (by omega)]

theorem geom_cells {g : GeomS} {w W : World} (h : Keeps (fun _ => False) (w.alloc (geomB g)) W) : W.cell? ⟨w.heap.size, 0, none⟩ = some (.int .i64 g.domains) ∧ W.cell? ⟨w.heap.size, 1, none⟩ = some (.int .i64 g.zones) ∧ W.cell? ⟨w.heap.size, 2, none⟩ = some (.int .i64 g.size) ∧ W.cell? ⟨w.heap.size, 3, none⟩ = some (.int .i64 g.blocks) ∧ W.cell? ⟨w.heap.size, 4, none⟩ = some (.int .i64 g.spare) ∧ W.cell? ⟨w.heap.size, 5, none⟩ = some (.int .i64 g.opn) := by
  have h := h.heap (heap_new w (geomB g)) (fun h => h)
  exact ⟨cell_of h 0, cell_of h 1, cell_of h 2, cell_of h 3, cell_of h 4, cell_of h 5⟩

def GeomS.holds (g : GeomS) (z off : Int) : Bool := g.right && inB z 0 (g.all - 1) && inB off 0 (g.size - 1)

theorem GeomS.right_small {g : GeomS} (h : g.right = true) : g.Small := by
  unfold GeomS.right at h
  simp only [Bool.and_eq_true] at h
  exact (GeomS.small_iff g).1 h.1.1

set_option maxHeartbeats 1000000 in
theorem holds_calls (g : GeomS) (z off : Int) (w : World) : Calls Tryz.prog 92 #[geomV g, .int .i64 z, .int .i64 off] w fun e w' => e = .returned (.bool (g.holds z off)) ∧ Keeps (fun _ => False) w w' := by
  cases h1 : g.right
  · have hr : g.holds z off = false := by simp [GeomS.holds, h1]
    rw [hr]
    clear hr
    have H1 := hid h1
    clear h1
    have H2 := hid (right_calls g)
    unfold geomV at *
    go_enter Tryz.func92, Tryz.ntmps92
    go_wp2_with (go_at_call 62; refine (H2.out _).mono ?_; rintro e w' ⟨rfl, hK⟩; rw [H1.out])
    go_ret
    exact ⟨rfl, Keeps.trans (by repeat (first | exact Keeps.refl _ _ | refine Keeps.alloc ?_ _ | refine Keeps.drew ?_ | refine Keeps.drewN ?_ _ | refine Keeps.trans ?_ (by assumption))) hK⟩
  · have hs := GeomS.right_small h1
    obtain ⟨a1, a2⟩ := g.all_bd hs
    obtain ⟨s1, s2⟩ := hs.s
    have hr : g.holds z off = (inB z 0 (g.all - 1) && inB off 0 (g.size - 1)) := by simp [GeomS.holds, h1]
    rw [hr]
    clear hr
    have H1 := hid h1
    have HS := hid hs
    have HA := hid (show g.domains * g.zones = g.all from rfl)
    clear h1 hs
    have H2 := hid (right_calls g)
    cases i1 : inB z 0 (g.all - 1)
    rotate_left
    cases i2 : inB off 0 (g.size - 1)
    all_goals
      unfold geomV at *
      go_enter Tryz.func92, Tryz.ntmps92
      go_wp2_with (first | (go_at_call 62; refine (H2.out _).mono ?_; rintro e w' ⟨rfl, hK⟩; rw [H1.out]; obtain ⟨c0, c1, c2, c3, c4, c5⟩ := geom_cells (w := w) hK; have hsz : w.heap.size < w'.heap.size := (by have := hK.size; simp at this; omega)) | (go_at_call 63; refine (gAll_calls g HS.out _).mono ?_; rintro e w' ⟨rfl, rfl⟩; rw [HA.out]) | (go_at_call 140; refine (gwithin_calls _ _ _ _).mono ?_; rintro e w' ⟨rfl, rfl⟩; simp only [*]))
      go_ret
      exact ⟨rfl, (by repeat (first | exact Keeps.refl _ _ | refine Keeps.alloc ?_ _ | refine Keeps.drew ?_ | refine Keeps.drewN ?_ _ | refine Keeps.trans ?_ (by assumption)))⟩
end Go.Rv

/- The pool: counting, taking. -/
namespace Go.Rv
open Go Go.RowKit Go.Proofs
attribute [local irreducible] wpQuiet

structure PoolS where
  g : GeomS
  L : Nat → List Int
def PoolS.nd (p : PoolS) : Nat := p.g.domains.toNat
def PoolS.cap (p : PoolS) : Nat := p.g.zones.toNat
def PoolS.set (p : PoolS) (d : Nat) (l : List Int) : PoolS := { p with L := fun k => if k = d then l else p.L k }

structure PoolS.Ok (p : PoolS) : Prop where
  small : p.g.Small
  inn : ∀ d, d < p.nd → ∀ z, z ∈ p.L d → p.g.domain z = d
  nodup : ∀ d, d < p.nd → (p.L d).Nodup

/-- the owners of a pool's blocks. -/
def poolTag (t : Nat) : Prop := t = 3 ∨ 16 ≤ t ∧ t < 24

structure PoolAt (w : World) (own : Nat → Nat) (pb : Nat) (p : PoolS) : Prop where
  ex : ∃ lb lc cur qb cb, PoolHead w own pb p.g p.nd lb lc cur qb ∧ QsAt w own p.nd p.cap qb cb p.L

theorem PoolS.Ok.nd {p : PoolS} (h : p.Ok) : (p.nd : Int) = p.g.domains ∧ p.nd ≤ 8 ∧ 3 ≤ p.nd := by
  have := h.small.d; unfold PoolS.nd; omega
theorem PoolS.Ok.cap {p : PoolS} (h : p.Ok) : (p.cap : Int) = p.g.zones ∧ p.cap ≤ 64 ∧ 1 ≤ p.cap := by
  have := h.small.z; unfold PoolS.cap; omega

theorem nodup_len : ∀ (n : Nat) (l : List Int), l.Nodup → ∀ a : Int, (∀ z, z ∈ l → a ≤ z ∧ z < a + n) → l.length ≤ n
  | 0, l, _, a, hz => by
    cases l with
    | nil => simp
    | cons x l => have := hz x (by simp); omega
  | n + 1, l, h, a, hz => by
    have ih := nodup_len n (l.erase (a + n)) (h.erase _) a fun z hzz => by
      have h1 := (List.Nodup.mem_erase_iff h).1 hzz
      have := hz z h1.2
      have := h1.1
      omega
    rw [List.length_erase] at ih
    split at ih <;> omega

theorem GeomS.domain_bd {g : GeomS} (h : g.Small) {z : Int} {d : Nat} (hz : g.domain z = d) : (d : Int) * g.zones ≤ z ∧ z < d * g.zones + g.zones ∧ 0 ≤ z ∧ z < g.all := by
  unfold GeomS.domain at hz
  split at hz
  · omega
  · rename_i hn
    have hzp := h.z.1
    have h1 := Int.mul_ediv_add_emod z g.zones
    have h2 := Int.emod_nonneg z (show g.zones ≠ 0 by omega)
    have h3 := Int.emod_lt_of_pos z (show 0 < g.zones by omega)
    rw [hz, Int.mul_comm] at h1
    omega

theorem PoolS.Ok.len {p : PoolS} (h : p.Ok) {d : Nat} (hd : d < p.nd) : (p.L d).length ≤ p.cap := by
  refine nodup_len _ _ (h.nodup d hd) (d * p.g.zones) fun z hz => ?_
  have := GeomS.domain_bd h.small (h.inn d hd z hz)
  have := h.cap
  omega
theorem PoolS.Ok.room {p : PoolS} (h : p.Ok) {d : Nat} (hd : d < p.nd) {z : Int} (hz : p.g.domain z = d) (hn : z ∉ p.L d) : (p.L d).length < p.cap := by
  have := nodup_len p.cap (z :: p.L d) (List.nodup_cons.2 ⟨hn, h.nodup d hd⟩) (d * p.g.zones) fun y hy => by
    have h1 : p.g.domain y = d := by
      rcases List.mem_cons.1 hy with rfl | hy
      · exact hz
      · exact h.inn d hd y hy
    have := GeomS.domain_bd h.small h1
    have := h.cap
    omega
  simp at this; omega

theorem PoolAt.keeps {w w' : World} {own : Nat → Nat} {pb : Nat} {p : PoolS} (h : PoolAt w own pb p) {M : Nat → Prop} (hp : p.nd ≤ 8) (hk : Keeps M w w') (hM : ∀ k, poolTag (own k) → ¬ M k) : PoolAt w' own pb p := by
  obtain ⟨lb, lc, cur, qb, cb, h1, h2⟩ := h
  refine ⟨lb, lc, cur, qb, cb, h1.keeps hk (hM _ (.inl h1.mine)) (hM _ (.inl h1.minel)), fun d hd => ?_⟩
  obtain ⟨s, r, hq⟩ := h2 d hd
  exact ⟨s, r, hq.keeps hk (hM _ (.inr (by rw [hq.mine]; omega))) (hM _ (.inr (by rw [hq.minec]; omega)))⟩

theorem PoolHead.cells {w : World} {own : Nat → Nat} {pb : Nat} {g : GeomS} {nd lb lc : Nat} {cur : Array Value} {qb : Nat → Nat} (h : PoolHead w own pb g nd lb lc cur qb) : w.cell? ⟨pb, 0, none⟩ = some (.int .i64 g.domains) ∧ w.cell? ⟨pb, 1, none⟩ = some (.int .i64 g.zones) ∧ w.cell? ⟨pb, 2, none⟩ = some (.int .i64 g.size) ∧ w.cell? ⟨pb, 3, none⟩ = some (.int .i64 g.blocks) ∧ w.cell? ⟨pb, 4, none⟩ = some (.int .i64 g.spare) ∧ w.cell? ⟨pb, 5, none⟩ = some (.int .i64 g.opn) ∧ w.cell? ⟨pb, 6, none⟩ = some (.slice (some ⟨lb, 0, none⟩) nd lc) :=
  ⟨cell_of h.heap 0, cell_of h.heap 1, cell_of h.heap 2, cell_of h.heap 3, cell_of h.heap 4, cell_of h.heap 5, cell_of h.heap 6⟩

def PoolS.count (p : PoolS) (d : Int) : Int := if d < 0 ∨ p.nd ≤ d then 0 else (p.L d.toNat).length

set_option maxHeartbeats 1000000 in
theorem count_calls (own : Nat → Nat) (pb : Nat) (p : PoolS) (d : Int) (w : World) (h : PoolAt w own pb p) : Calls Tryz.prog 22 #[.pointer (some ⟨pb, 0, none⟩), .int .i64 d] w fun e w' => e = .returned (.int .i64 (p.count d)) ∧ w = w' := by
  obtain ⟨lb, lc, cur, qb, cb, h1, h2⟩ := h
  obtain ⟨-, -, -, -, -, -, c6⟩ := h1.cells
  by_cases k1 : d < 0
  · have d1 : decide (d < 0) = true := by simpa using k1
    go_enter Tryz.func22, Tryz.ntmps22
    go_wp2
    go_ret
    exact ⟨ret_int (by unfold PoolS.count; rw [if_pos (.inl k1)]), rfl⟩
  · have d1 : decide (d < 0) = false := by simpa using k1
    by_cases k2 : (p.nd : Int) ≤ d
    · have d2 : decide ((p.nd : Int) ≤ d) = true := by simpa using k2
      go_enter Tryz.func22, Tryz.ntmps22
      go_wp2
      go_ret
      exact ⟨ret_int (by unfold PoolS.count; rw [if_pos (.inr k2)]), rfl⟩
    · have d2 : decide ((p.nd : Int) ≤ d) = false := by simpa using k2
      obtain ⟨dn, rfl⟩ : ∃ dn : Nat, d = dn := ⟨d.toNat, by omega⟩
      have hd : dn < p.nd := by omega
      have hc : w.cell? ⟨lb, dn, none⟩ = some (.pointer (some ⟨qb dn, 0, none⟩)) := (cell_of h1.list dn).trans (h1.elems dn hd)
      obtain ⟨s, r, hq⟩ := h2 dn hd
      have H1 := hid h1
      have HQ := hid hq
      clear h1 h2 hq
      go_enter Tryz.func22, Tryz.ntmps22
      go_wp2_with (go_at_call 71; refine (Len_calls own _ _ _ _ _ _ _ _ HQ.out).mono ?_; rintro e w' ⟨rfl, rfl⟩)
      go_ret
      exact ⟨ret_int (by unfold PoolS.count; rw [if_neg (by omega)]; simp), rfl⟩

set_option maxHeartbeats 1000000 in
theorem ptake_range (own : Nat → Nat) (pb : Nat) (p : PoolS) (d : Int) (w : World) (h : PoolAt w own pb p) (hd : d < 0 ∨ p.nd ≤ d) : Calls Tryz.prog 161 #[.pointer (some ⟨pb, 0, none⟩), .int .i64 d] w fun e w' => e = .returned (.tuple #[.int .i64 0, .int .i64 13]) ∧ w = w' := by
  obtain ⟨lb, lc, cur, qb, cb, h1, h2⟩ := h
  obtain ⟨-, -, -, -, -, -, c6⟩ := h1.cells
  by_cases k1 : d < 0
  · have d1 : decide (d < 0) = true := by simpa using k1
    go_enter Tryz.func161, Tryz.ntmps161
    go_wp2
    go_ret2
    exact ⟨rfl, rfl⟩
  · have d1 : decide (d < 0) = false := by simpa using k1
    have k2 : (p.nd : Int) ≤ d := by omega
    have d2 : decide ((p.nd : Int) ≤ d) = true := by simpa using k2
    go_enter Tryz.func161, Tryz.ntmps161
    go_wp2
    go_ret2
    exact ⟨rfl, rfl⟩

theorem PoolAt.chan {w w' : World} {own : Nat → Nat} {pb : Nat} {p : PoolS} {lb lc : Nat} {cur : Array Value} {qb cb : Nat → Nat} (h1 : PoolHead w own pb p.g p.nd lb lc cur qb) (h2 : QsAt w own p.nd p.cap qb cb p.L) {d : Nat} {l : List Int} {s r : Nat} (hn : p.nd ≤ 8) (hd : d < p.nd) (hq : QAt w' own (16 + d) (qb d) p.cap l (cb d) s r) (hk : Keeps (fun k => k = cb d) w w') :
    PoolAt w' own pb (p.set d l) ∧ Keeps (fun k => poolTag (own k)) w w' := by
  have hm := hq.minec
  refine ⟨⟨lb, lc, cur, qb, cb, h1.keeps hk ?_ ?_, fun d' hd' => ?_⟩, hk.mono fun i _ hi => .inr (by subst hi; omega)⟩
  · intro e; rw [← e, h1.mine] at hm; omega
  · intro e; rw [← e, h1.minel] at hm; omega
  · by_cases hdd : d' = d
    · subst hdd
      exact ⟨s, r, by simpa [PoolS.set, PoolS.cap] using hq⟩
    · obtain ⟨s', r', hq'⟩ := h2 d' hd'
      refine ⟨s', r', ?_⟩
      have hx := hq'.keeps hk (fun e => ?_) (fun e => ?_)
      · simpa [PoolS.set, PoolS.cap, hdd] using hx
      · have := hq'.mine; rw [e, hm] at this; omega
      · have := hq'.minec; rw [e, hm] at this; omega

set_option maxHeartbeats 1000000 in
theorem ptake_one (own : Nat → Nat) (pb : Nat) (p : PoolS) (d : Nat) (x : Int) (l : List Int) (w : World) (h : PoolAt w own pb p) (hn : p.nd ≤ 8) (hd : d < p.nd) (hl : p.L d = x :: l) : Calls Tryz.prog 161 #[.pointer (some ⟨pb, 0, none⟩), .int .i64 d] w fun e w' => e = .returned (.tuple #[.int .i64 x, .int .i64 0]) ∧ PoolAt w' own pb (p.set d l) ∧ Keeps (fun k => poolTag (own k)) w w' := by
  obtain ⟨lb, lc, cur, qb, cb, h1, h2⟩ := h
  obtain ⟨-, -, -, -, -, -, c6⟩ := h1.cells
  have d1 : decide ((d : Int) < 0) = false := by simp
  have d2 : decide ((p.nd : Int) ≤ d) = false := by simp; omega
  have hc : w.cell? ⟨lb, d, none⟩ = some (.pointer (some ⟨qb d, 0, none⟩)) := (cell_of h1.list d).trans (h1.elems d hd)
  obtain ⟨s, r, hq⟩ := h2 d hd
  rw [hl] at hq
  have H1 := hid h1
  have H2 := hid h2
  have HQ := hid hq
  clear h1 h2 hq
  go_enter Tryz.func161, Tryz.ntmps161
  go_wp2_with fail
  refine Calls.mono (Take_calls own _ _ _ x l _ s r _ HQ.out) ?_
  rintro e w' ⟨rfl, hq', hk', -⟩
  have HR := hid (PoolAt.chan H1.out H2.out hn hd hq' hk')
  clear hq' hk'
  go_wp2
  go_ret2
  exact ⟨rfl, HR.out⟩

set_option maxHeartbeats 1000000 in
theorem ptake_none (own : Nat → Nat) (pb : Nat) (p : PoolS) (d : Nat) (w : World) (h : PoolAt w own pb p) (hd : d < p.nd) (hl : p.L d = []) : Calls Tryz.prog 161 #[.pointer (some ⟨pb, 0, none⟩), .int .i64 d] w fun e w' => e = .returned (.tuple #[.int .i64 0, .int .i64 15]) ∧ w = w' := by
  obtain ⟨lb, lc, cur, qb, cb, h1, h2⟩ := h
  obtain ⟨-, -, -, -, -, -, c6⟩ := h1.cells
  have d1 : decide ((d : Int) < 0) = false := by simp
  have d2 : decide ((p.nd : Int) ≤ d) = false := by simp; omega
  have hc : w.cell? ⟨lb, d, none⟩ = some (.pointer (some ⟨qb d, 0, none⟩)) := (cell_of h1.list d).trans (h1.elems d hd)
  obtain ⟨s, r, hq⟩ := h2 d hd
  rw [hl] at hq
  have HQ := hid hq
  clear h1 h2 hq
  go_enter Tryz.func161, Tryz.ntmps161
  go_wp2_with fail
  refine Calls.mono (Take_none own _ _ _ _ s r _ HQ.out) ?_
  rintro e w' ⟨rfl, rfl⟩
  go_wp2
  go_ret2
  exact ⟨rfl, rfl⟩

def PoolS.sumTo (p : PoolS) : Nat → Nat
  | 0 => 0
  | d + 1 => p.sumTo d + (p.L d).length
/-- the fullest of the first domains, but for one. -/
def PoolS.best (p : PoolS) (but : Int) : Nat → Int
  | 0 => -1
  | d + 1 => if (d : Int) ≠ but ∧ (p.best but d < 0 ∨ ((p.L (p.best but d).toNat).length < (p.L d).length)) then d else p.best but d
def PoolS.pairs (p : PoolS) : Int := min ((p.sumTo p.nd : Int) / 2) ((p.sumTo p.nd : Int) - p.count (p.best (-1) p.nd))

theorem PoolS.best_succ (p : PoolS) (but : Int) (d : Nat) : p.best but (d + 1) = if (d : Int) ≠ but ∧ (p.best but d < 0 ∨ ((p.L (p.best but d).toNat).length < (p.L d).length)) then (d : Int) else p.best but d := rfl

theorem PoolS.best_lt (p : PoolS) (but : Int) : ∀ d : Nat, -1 ≤ p.best but d ∧ p.best but d < d
  | 0 => by simp [PoolS.best]
  | d + 1 => by
    have := p.best_lt but d
    unfold PoolS.best
    split <;> omega

set_option maxHeartbeats 1000000 in
set_option maxRecDepth 100000 in
theorem fullest_calls (own : Nat → Nat) (pb : Nat) (p : PoolS) (but : Int) (w : World) (h : PoolAt w own pb p) (hn : p.nd ≤ 8) : Calls Tryz.prog 78 #[.pointer (some ⟨pb, 0, none⟩), .int .i64 but] w fun e w' => e = .returned (.int .i64 (p.best but p.nd)) ∧ Keeps (fun _ => False) w w' := by
  obtain ⟨lb, lc, cur, qb, cb, h1, h2⟩ := h
  have H1 := hid h1
  have H2 := hid h2
  have HP := hid hn
  clear h1 h2
  obtain ⟨-, -, -, -, -, -, c6⟩ := H1.out.cells
  go_enter Tryz.func78, Tryz.ntmps78
  go_wp2_with fail
  go_loopg [5, 13] p.nd (fun (gk : Nat) (b i : Value) (wr : World) => ∃ d : Nat, d + gk = p.nd ∧ b = .int .i64 (p.best but d) ∧ i = .int .i64 d ∧ Keeps (fun _ => False) w wr)
  case atStart => exact ⟨0, by omega, rfl, rfl, Keeps.refl _ _⟩
  case round =>
    obtain ⟨d, hd, rfl, rfl, hk⟩ := hrel
    have hb := p.best_lt but d
    by_cases c : d < p.nd
    · have dd : decide (d < p.nd) = true := by simpa using c
      have hc : wr.cell? ⟨lb, d, none⟩ = some (.pointer (some ⟨qb d, 0, none⟩)) := (cell_of (hk.heap H1.out.list id) d).trans (H1.out.elems d c)
      have HK := hid hk
      clear hk
      have HF : Hid (∀ W, Keeps (fun _ => False) wr W → W.cell? ⟨pb, 6, none⟩ = some (.slice (some ⟨lb, 0, none⟩) p.nd lc) ∧ ∀ i, i < p.nd → W.cell? ⟨lb, i, none⟩ = some (.pointer (some ⟨qb i, 0, none⟩))) := hid fun W hW => by
        have hK := HK.out.trans hW
        exact ⟨(cell_of (hK.heap H1.out.heap id) 6), fun i hi => (cell_of (hK.heap H1.out.list id) i).trans (H1.out.elems i hi)⟩
      have HQ : Hid (∀ W, Keeps (fun _ => False) wr W → ∀ i, i < p.nd → ∃ s r, QAt W own (16 + i) (qb i) p.cap (p.L i) (cb i) s r) := hid fun W hW i hi => by
        obtain ⟨s, r, hq⟩ := H2.out i hi
        exact ⟨s, r, hq.keeps (HK.out.trans hW) id id⟩
      by_cases e1 : (d : Int) = but
      · have b1 : ((d : Int) != but) = false := by simpa using e1
        have E1 := hid e1
        clear e1
        go_wp2_with fail
        refine wp_region_still (by kernel_rfl) (by kernel_rfl) ?_
        repeat (first | (refine still_pass ?_ ?_; (focus (first | (go_simp; done) | rfl)); try simp only [Act.put, List.setIfInBounds_toArray, List.set_cons_succ, List.set_cons_zero]) | (apply still_step; (focus (go_simp; done)); (focus (intro W hW; unfold Oper.quietAt; (obtain ⟨c0, -⟩ := HF.out W hW); go_simp; first | done | with_reducible rfl | fail | exact ⟨rfl, rfl⟩)); try simp only [Act.put, List.setIfInBounds_toArray, List.set_cons_succ, List.set_cons_zero]))
        refine wpQuiet_nil ?_
        intro W hW
        go_wp2
        go_roundg (gk - 1)
        case measure => omega
        case rel => exact ⟨d + 1, by omega, by rw [PoolS.best_succ, if_neg (by have := E1.out; omega)], by go_num, HK.out.trans hW⟩
      · have b1 : ((d : Int) != but) = true := by simpa using e1
        have E1 := hid e1
        clear e1
        by_cases e2 : p.best but d < 0
        · have b2 : decide (p.best but d < 0) = true := by simpa using e2
          go_wp2_with fail
          refine wp_region_still (by kernel_rfl) (by kernel_rfl) ?_
          repeat (first | (refine still_pass ?_ ?_; (focus (first | (go_simp; done) | rfl)); try simp only [Act.put, List.setIfInBounds_toArray, List.set_cons_succ, List.set_cons_zero]) | (apply still_step; (focus (go_simp; done)); (focus (intro W hW; unfold Oper.quietAt; (obtain ⟨c0, -⟩ := HF.out W hW); go_simp; first | done | with_reducible rfl | fail | exact ⟨rfl, rfl⟩)); try simp only [Act.put, List.setIfInBounds_toArray, List.set_cons_succ, List.set_cons_zero]))
          refine wpQuiet_nil ?_
          intro W hW
          go_wp2
          go_roundg (gk - 1)
          case measure => omega
          case rel => exact ⟨d + 1, by omega, by rw [PoolS.best_succ, if_pos ⟨E1.out, .inl e2⟩], by go_num, HK.out.trans hW⟩
        · have b2 : decide (p.best but d < 0) = false := by simpa using e2
          obtain ⟨bn, hbn⟩ : ∃ bn : Nat, p.best but d = bn := ⟨(p.best but d).toNat, by omega⟩
          have hbn2 : bn < p.nd := by omega
          have HB := hid hbn
          rw [hbn] at b2 ⊢
          clear hbn
          by_cases e3 : (p.L bn).length < (p.L d).length
          · have b3 : decide ((p.L bn).length < (p.L d).length) = true := by simpa using e3
            go_wp2_with fail
            refine wp_region_still (by kernel_rfl) (by kernel_rfl) ?_
            repeat (first | (refine still_pass ?_ ?_; (focus (first | (go_simp; done) | rfl)); try simp only [Act.put, List.setIfInBounds_toArray, List.set_cons_succ, List.set_cons_zero]) | (apply still_step; (focus (go_simp; done)); (focus (intro W hW; unfold Oper.quietAt; (obtain ⟨c0, hci⟩ := HF.out W hW; have c1 := hci bn hbn2; clear hci); go_simp; first | done | with_reducible rfl | (first | (go_at_call 71; first | (obtain ⟨s, r, hq⟩ := HQ.out W hW d c; exact still_call_same hW (Len_calls own _ _ _ _ _ _ _ _ hq)) | (obtain ⟨s, r, hq⟩ := HQ.out W hW bn hbn2; exact still_call_same hW (Len_calls own _ _ _ _ _ _ _ _ hq)))) | exact ⟨rfl, rfl⟩)); try simp only [Act.put, List.setIfInBounds_toArray, List.set_cons_succ, List.set_cons_zero]))
            refine wpQuiet_nil ?_
            intro W hW
            go_wp2
            go_roundg (gk - 1)
            case measure => omega
            case rel => exact ⟨d + 1, by omega, by rw [PoolS.best_succ, if_pos ⟨E1.out, .inr (by rw [HB.out]; exact e3)⟩], by go_num, HK.out.trans hW⟩
          · have b3 : decide ((p.L bn).length < (p.L d).length) = false := by simpa using e3
            go_wp2_with fail
            refine wp_region_still (by kernel_rfl) (by kernel_rfl) ?_
            repeat (first | (refine still_pass ?_ ?_; (focus (first | (go_simp; done) | rfl)); try simp only [Act.put, List.setIfInBounds_toArray, List.set_cons_succ, List.set_cons_zero]) | (apply still_step; (focus (go_simp; done)); (focus (intro W hW; unfold Oper.quietAt; (obtain ⟨c0, hci⟩ := HF.out W hW; have c1 := hci bn hbn2; clear hci); go_simp; first | done | with_reducible rfl | (first | (go_at_call 71; first | (obtain ⟨s, r, hq⟩ := HQ.out W hW d c; exact still_call_same hW (Len_calls own _ _ _ _ _ _ _ _ hq)) | (obtain ⟨s, r, hq⟩ := HQ.out W hW bn hbn2; exact still_call_same hW (Len_calls own _ _ _ _ _ _ _ _ hq)))) | exact ⟨rfl, rfl⟩)); try simp only [Act.put, List.setIfInBounds_toArray, List.set_cons_succ, List.set_cons_zero]))
            refine wpQuiet_nil ?_
            intro W hW
            go_wp2
            go_roundg (gk - 1)
            case measure => omega
            case rel => exact ⟨d + 1, by omega, by rw [PoolS.best_succ, if_neg (fun h => h.2.elim (fun h => by omega) (fun h => by rw [HB.out] at h; exact e3 h)), HB.out], by go_num, HK.out.trans hW⟩
    · have dd : decide (d < p.nd) = false := by simpa using c
      go_wp2_with fail
      go_ret
      exact ⟨ret_int (by rw [show d = p.nd by omega]), hk⟩
end Go.Rv
