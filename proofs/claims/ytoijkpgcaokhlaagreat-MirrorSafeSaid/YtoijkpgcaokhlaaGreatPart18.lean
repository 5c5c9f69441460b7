/- The document's answers at their beginnings. -/
import Derived.Test.YtoijkpgcaokhlaaGreatPart17
set_option linter.unusedVariables false
set_option linter.unusedSimpArgs false
namespace Go.Rv
open Go Go.RowKit Go.Proofs

theorem infoZ07 : (Tryz.prog.info? 215).map (fun i => (i.zero, i.size, i.bytes)) = some (some (.agg #[.slice none 0 0, .int .i64 0, .int .i64 0, .bool false]), 4, 48) := by kernel_rfl

def d07V (sv : Value) (size opn : Int) : Array Value := #[sv, .int .i64 size, .int .i64 opn, .int .i64 0, .bool false]
theorem row_D07 : RowTy Tryz.prog 33 5 := ⟨⟨_, Tryz.underlying33, rfl⟩, by kernel_rfl⟩

set_option maxHeartbeats 1000000 in
set_option maxRecDepth 100000 in
theorem new07_calls (nz : Nat) (size opn : Int) (hn : nz ≤ 512) (w : World) : Calls Tryz.prog 55 #[.int .i64 nz, .int .i64 size, .int .i64 opn] w fun e w' => ∃ a n c, e = .returned (.agg (d07V (.slice a n c) size opn)) ∧ Keeps (fun _ => False) w w' := by
  have HI := hid (info_parts infoZ07)
  go_enter Tryz.func55, Tryz.ntmps55
  go_wp2_with fail
  go_loopg [8] nz (fun (gk : Nat) (i : Value) (wr : World) => ∃ (d : Nat) (sv : Value) (n : Nat) (xs : List Value), d + gk = nz ∧ n = d ∧ i = .int .i64 d ∧ wr.heap[w.heap.size + 1]? = some (.cells (d07V sv size opn) 33 (0, 0)) ∧ wr.heap[w.heap.size]? = some (.cells (d07V (.slice none 0 0) 0 0) 33 (0, 0)) ∧ RowAt wr (fun k => w.heap.size + 1 < k) 215 4 sv n xs ∧ Keeps (fun _ => False) w wr)
  case atStart =>
    refine ⟨0, .slice none 0 0, 0, [], by omega, rfl, rfl, ?_, heap_old _ _ (heap_new _ _), RowAt.nil _ _ _ _, (by repeat (first | exact Keeps.refl _ _ | refine Keeps.alloc ?_ _ | refine Keeps.drew ?_ | refine Keeps.drewN ?_ _ | refine Keeps.trans ?_ (by assumption)))⟩
    have := heap_new (w.alloc (.cells (d07V (.slice none 0 0) 0 0) 33)) (.cells (d07V (.slice none 0 0) size opn) 33)
    rw [World.size_alloc] at this
    exact this
  case round =>
    obtain ⟨d, sv, n, xs, hd, rfl, rfl, h1, h0, hrow, hk⟩ := hrel
    obtain ⟨a, cap, rfl⟩ := hrow.slice
    have HX := hid (And.intro h1 (And.intro h0 (And.intro hrow hk)))
    have c0 := cell_of h1 0
    have hlt := lt_of h1
    simp [d07V] at c0
    by_cases c : n < nz
    · have dd : decide (n < nz) = true := by simpa using c
      clear h1 h0 hrow hk
      obtain ⟨i0, hi, hz0, hz1, hz2⟩ := HI.out
      go_wp2_with (at_builtin; refine wpList_append_tag rfl (.tmp 18) (.tmp 20) rfl Tryz.underlying31 hi hz0 hz1 hz2 rfl (by decide) rfl (Q := fun k => w.heap.size + 1 < k) (n := n) (m := 1) (xs := xs) ?own rfl (news := [.slice none 0 0, .int .i64 0, .int .i64 0, .bool false]) rfl ?c1 ?c2 ?c3 ?c4 (by decide) ?go)
      case own => exact HX.out.2.2.1.keeps ((Keeps.refl (fun _ => False) wr).alloc _) (fun _ _ => id)
      case c1 =>
        intro j u hj
        match j, hj with
        | 0, hj => simp at hj; subst hj; simp [Addr.add]
        | 1, hj => simp at hj; subst hj; simp [Addr.add]
        | 2, hj => simp at hj; subst hj; simp [Addr.add]
        | 3, hj => simp at hj; subst hj; simp [Addr.add]
        | n + 4, hj => simp at hj
      case c2 =>
        intro u hu
        simp at hu
        rcases hu with rfl | rfl | rfl | rfl <;> rfl
      case c3 => unfold maxLen; omega
      case c4 => omega
      case go =>
        intro g cap2 w3 hown hg hk3
        have hgp : w.heap.size + 1 < g := by rcases hg with h | h <;> omega
        have hk3' : Keeps (fun k => w.heap.size + 1 < k) wr w3 := ((Keeps.refl _ _).alloc _).trans' hk3 (fun _ _ h => h)
        have h13 := hk3'.heap HX.out.1 (by omega)
        have h03 := hk3'.heap HX.out.2.1 (by omega)
        have c0' := cell_of h13 0
        have f0' := free_of h13 0
        have hrow3 := (rowAt_of_owns hown hgp : RowAt w3 (fun k => w.heap.size + 1 < k) _ _ _ _ _)
        have HY := hid (And.intro h13 (And.intro h03 (And.intro hrow3 hk3')))
        simp [d07V] at c0'
        clear hown hg hk3 hk3' h13 h03 hrow3 hi hz0 hz1 hz2 c0
        go_wp2_with fail
        go_roundg (gk - 1)
        case measure => omega
        case rel =>
          have hs := (Keeps.refl (fun k => k = w.heap.size + 1) w3).setCell (p := ⟨w.heap.size + 1, 0, none⟩) (fun _ => rfl) (.slice (some ⟨g, 0, none⟩) (n + 1) cap2)
          refine ⟨n + 1, _, n + 1, _, by omega, rfl, by go_num, ?_, hs.heap HY.out.2.1 (by omega), HY.out.2.2.1.keeps hs (fun k h => by omega), ?_⟩
          · rw [heap_set HY.out.1]; rfl
          · have a1 := HX.out.2.2.2.trans' HY.out.2.2.2 (fun i hi h => by omega)
            exact a1.trans' hs (fun i hi h => by omega)
    · have dd : decide (n < nz) = false := by simpa using c
      have c1 := cell_of h1 1
      have c2 := cell_of h1 2
      have c3 := cell_of h1 3
      have c4 := cell_of h1 4
      have b0 := cell_of h0 0
      have b1 := cell_of h0 1
      have b2 := cell_of h0 2
      have b3 := cell_of h0 3
      have b4 := cell_of h0 4
      have f0 := free_of h0 0
      have f1 := free_of h0 1
      have f2 := free_of h0 2
      have f3 := free_of h0 3
      have f4 := free_of h0 4
      simp [d07V] at c1 c2 c3 c4 b0 b1 b2 b3 b4
      clear h1 h0 hrow hk
      go_wp2_with fail
      have q := heap_set (heap_set (heap_set (heap_set (heap_set HX.out.2.1 0 (.slice a n cap)) 1 (.int .i64 size)) 2 (.int .i64 opn)) 3 (.int .i64 0)) 4 (.bool false)
      refine bodyPost_ret (results_cell1 rfl row_D07 _ rfl (cellsAt_full q rfl)) rfl ⟨a, n, cap, rfl, ?_⟩
      have kz : ∀ (W : World) (o : Nat) (v : Value), Keeps (fun _ => False) w W → Keeps (fun _ => False) w (W.setCell ⟨w.heap.size, o, none⟩ v) := fun W o v h => h.setCell (fun h => absurd h (Nat.lt_irrefl _)) v
      exact kz _ _ _ (kz _ _ _ (kz _ _ _ (kz _ _ _ (kz _ _ _ HX.out.2.2.2))))
end Go.Rv

/- The document's answers at their beginnings: mirrors and areas. -/
namespace Go.Rv
open Go Go.RowKit Go.Proofs

def z_M14 : Array Value := (reps 1 (.slice none 0 0) ++ reps 3 (.int .i64 0) ++ reps 1 (.bool false) ++ reps 2 (.slice none 0 0) ++ reps 8 (.int .i64 0) ++ reps 2 (.slice none 0 0) ++ reps 3 (.int .i64 0)).toArray
theorem row_M14 : RowTy Tryz.prog 42 20 := ⟨⟨_, Tryz.underlying42, rfl⟩, by kernel_rfl⟩
theorem info_M14 : (Tryz.prog.info? 42).map (fun i => (i.zero, i.size, i.bytes)) = some (some (.agg z_M14), 20, 240) := by kernel_rfl
theorem size_z_M14 : z_M14.size = 20 := by kernel_rfl
theorem ld_M14 (f : Operand → Value) (x : Operand) (d : Option Tmp) (t : TypeId) (pos : String) (af : Array Edge) (g : Option (Nat × Bool)) (w : World) :
    (execOp f ⟨d, .load 42 x, t, pos, af, g⟩).run Tryz.prog w = match f x with
      | .pointer (some a) => match cellsAt w a 20 with
        | some cs => .ok (.value (.agg cs)) w
        | none => stuckOp Tryz.prog f ⟨d, .load 42 x, t, pos, af, g⟩ w
      | _ => stuckOp Tryz.prog f ⟨d, .load 42 x, t, pos, af, g⟩ w := op_load 42 20 row_M14 f x d t pos af g w
theorem st_M14 (f : Operand → Value) (p x : Operand) (d : Option Tmp) (t : TypeId) (pos : String) (af : Array Edge) (g : Option (Nat × Bool)) (w : World) :
    (execOp f ⟨d, .store 42 p x, t, pos, af, g⟩).run Tryz.prog w = match f p, f x with
      | .pointer (some a), .agg cs => if cs.size = 20 ∧ cellsFree w a 20 = true ∧ allOne cs = true then .ok .skip (putCells w a cs) else stuckOp Tryz.prog f ⟨d, .store 42 p x, t, pos, af, g⟩ w
      | _, _ => stuckOp Tryz.prog f ⟨d, .store 42 p x, t, pos, af, g⟩ w := op_store 42 20 row_M14 f p x d t pos af g w
theorem al_M14 (f : Operand → Value) (d : Option Tmp) (t : TypeId) (pos : String) (af : Array Edge) (g : Option (Nat × Bool)) (w : World) :
    (execOp f ⟨d, .alloc 42, t, pos, af, g⟩).run Tryz.prog w = .ok (.value (.pointer (some ⟨w.heap.size, 0, none⟩))) (w.alloc (.cells z_M14 42)) := by
  obtain ⟨i0, hi, hz0, hz1, hz2⟩ := info_parts info_M14
  exact op_alloc 42 i0 z_M14 hi hz0 f d t pos af g w

def z_A15 : Array Value := (reps 1 (.slice none 0 0) ++ reps 3 (.int .i64 0) ++ reps 1 (.bool false) ++ reps 2 (.slice none 0 0) ++ reps 8 (.int .i64 0) ++ reps 2 (.slice none 0 0) ++ reps 9 (.int .i64 0)).toArray
theorem row_A15 : RowTy Tryz.prog 45 26 := ⟨⟨_, Tryz.underlying45, rfl⟩, by kernel_rfl⟩
theorem info_A15 : (Tryz.prog.info? 45).map (fun i => (i.zero, i.size, i.bytes)) = some (some (.agg z_A15), 26, 288) := by kernel_rfl
theorem size_z_A15 : z_A15.size = 26 := by kernel_rfl
theorem ld_A15 (f : Operand → Value) (x : Operand) (d : Option Tmp) (t : TypeId) (pos : String) (af : Array Edge) (g : Option (Nat × Bool)) (w : World) :
    (execOp f ⟨d, .load 45 x, t, pos, af, g⟩).run Tryz.prog w = match f x with
      | .pointer (some a) => match cellsAt w a 26 with
        | some cs => .ok (.value (.agg cs)) w
        | none => stuckOp Tryz.prog f ⟨d, .load 45 x, t, pos, af, g⟩ w
      | _ => stuckOp Tryz.prog f ⟨d, .load 45 x, t, pos, af, g⟩ w := op_load 45 26 row_A15 f x d t pos af g w
theorem st_A15 (f : Operand → Value) (p x : Operand) (d : Option Tmp) (t : TypeId) (pos : String) (af : Array Edge) (g : Option (Nat × Bool)) (w : World) :
    (execOp f ⟨d, .store 45 p x, t, pos, af, g⟩).run Tryz.prog w = match f p, f x with
      | .pointer (some a), .agg cs => if cs.size = 26 ∧ cellsFree w a 26 = true ∧ allOne cs = true then .ok .skip (putCells w a cs) else stuckOp Tryz.prog f ⟨d, .store 45 p x, t, pos, af, g⟩ w
      | _, _ => stuckOp Tryz.prog f ⟨d, .store 45 p x, t, pos, af, g⟩ w := op_store 45 26 row_A15 f p x d t pos af g w
theorem al_A15 (f : Operand → Value) (d : Option Tmp) (t : TypeId) (pos : String) (af : Array Edge) (g : Option (Nat × Bool)) (w : World) :
    (execOp f ⟨d, .alloc 45, t, pos, af, g⟩).run Tryz.prog w = .ok (.value (.pointer (some ⟨w.heap.size, 0, none⟩))) (w.alloc (.cells z_A15 45)) := by
  obtain ⟨i0, hi, hz0, hz1, hz2⟩ := info_parts info_A15
  exact op_alloc 45 i0 z_A15 hi hz0 f d t pos af g w


attribute [local go_sem ↓] ld_M14 st_M14 al_M14 ld_A15 st_A15 al_A15
attribute [local go_sem] cellsAt_new0 cellsAt_lt cellsAt_drew size_bytesV

def d08V (sv : Value) (size opn : Int) : Array Value := #[sv, .int .i64 size, .int .i64 opn, .int .i64 0, .bool false, .slice none 0 0, .slice none 0 0]
def m14V (sv : Value) (size opn : Int) (g : GeomS) : Array Value := #[sv, .int .i64 size, .int .i64 opn, .int .i64 0, .bool false, .slice none 0 0, .slice none 0 0, .int .i64 g.domains, .int .i64 g.zones, .int .i64 g.size, .int .i64 g.blocks, .int .i64 g.spare, .int .i64 g.opn, .int .i64 g.domains, .int .i64 g.zones, .slice none 0 0, .slice none 0 0, .int .i64 (-1), .int .i64 (-1), .int .i64 0]
def a15V (sv : Value) (size opn : Int) (g : GeomS) : Array Value := #[sv, .int .i64 size, .int .i64 opn, .int .i64 0, .bool false, .slice none 0 0, .slice none 0 0, .int .i64 g.domains, .int .i64 g.zones, .int .i64 g.size, .int .i64 g.blocks, .int .i64 g.spare, .int .i64 g.opn, .int .i64 g.domains, .int .i64 g.zones, .slice none 0 0, .slice none 0 0, .int .i64 (-1), .int .i64 (-1), .int .i64 0, .int .i64 (-1), .int .i64 (-1), .int .i64 (-1), .int .i64 (-1), .int .i64 (-1), .int .i64 (-1)]

set_option maxHeartbeats 1000000 in
set_option maxRecDepth 100000 in
theorem new14_calls (a : Option Addr) (n c : Nat) (size opn : Int) (g : GeomS) (w : World) : Calls Tryz.prog 54 #[.agg (d08V (.slice a n c) size opn), geomV g] w fun e w' => e = .returned (.agg (m14V (.slice a n c) size opn g)) ∧ Keeps (fun _ => False) w w' := by
  have hn := heap_new ((w.alloc (.cells (d08V (.slice a n c) size opn) 36)).alloc (.cells #[.int .i64 g.domains, .int .i64 g.zones, .int .i64 g.size, .int .i64 g.blocks, .int .i64 g.spare, .int .i64 g.opn] 37)) (.cells z_M14 42)
  rw [World.size_alloc, World.size_alloc] at hn
  have e2 := cellsFree_full (n := 20) hn rfl
  have e3 : allOne (m14V (.slice a n c) size opn g) = true := rfl
  have HN := hid hn
  clear hn
  unfold d08V geomV
  unfold d08V at e2 HN
  go_enter Tryz.func54, Tryz.ntmps54
  go_wp2_with fail
  refine bodyPost_ret (results_cell1 rfl row_M14 _ rfl (cellsAt_full (putCells_at HN.out rfl) rfl)) rfl ⟨rfl, ?_⟩
  exact keeps_put0 (by repeat (first | exact Keeps.refl _ _ | refine Keeps.alloc ?_ _ | refine Keeps.drew ?_ | refine Keeps.drewN ?_ _ | refine Keeps.trans ?_ (by assumption))) (fun h => absurd h (by omega)) _

set_option maxHeartbeats 1000000 in
set_option maxRecDepth 100000 in
theorem new15_calls (a : Option Addr) (n c : Nat) (size opn : Int) (g : GeomS) (w : World) : Calls Tryz.prog 57 #[.agg (m14V (.slice a n c) size opn g)] w fun e w' => e = .returned (.agg (a15V (.slice a n c) size opn g)) ∧ Keeps (fun _ => False) w w' := by
  have hn := heap_new (w.alloc (.cells (m14V (.slice a n c) size opn g) 42)) (.cells z_A15 45)
  rw [World.size_alloc] at hn
  have e2 := cellsFree_full (n := 26) hn rfl
  have e3 : allOne (a15V (.slice a n c) size opn g) = true := rfl
  have HN := hid hn
  clear hn
  unfold m14V
  unfold m14V at e2 HN
  go_enter Tryz.func57, Tryz.ntmps57
  go_wp2_with fail
  refine bodyPost_ret (results_cell1 rfl row_A15 _ rfl (cellsAt_full (putCells_at HN.out rfl) rfl)) rfl ⟨rfl, ?_⟩
  exact keeps_put0 (by repeat (first | exact Keeps.refl _ _ | refine Keeps.alloc ?_ _ | refine Keeps.drew ?_ | refine Keeps.drewN ?_ _ | refine Keeps.trans ?_ (by assumption))) (fun h => absurd h (by omega)) _
end Go.Rv

/- Areas at their beginnings. -/
namespace Go.Rv
open Go Go.RowKit Go.Proofs
attribute [local irreducible] wpQuiet tab0 tabV
attribute [local go_sem ↓] ld_Geom st_Geom al_Geom ld_M14 st_M14 al_M14
attribute [local go_sem] cellsAt_new0 cellsAt_lt cellsAt_drew size_bytesV

def anyTag (t : Nat) : Prop := t ≠ 0
def drive0 (g : GeomS) : DriveS := ⟨⟨g.all.toNat, g.size, g.opn, 0, false, fun _ => ⟨[], 0, 0, false⟩⟩, [], []⟩
def mir0 (g : GeomS) : MirS := ⟨drive0 g, g, ⟨g, fun _ => []⟩, fun _ => false, -1, -1, 0⟩
def area0 (g : GeomS) : AreaS := ⟨mir0 g, fun _ => -1, fun _ => -1⟩
/-- what 'started' gives: the block of both. -/
structure PlayAt (w : World) (own : Nat → Nat) (py mb ab : Nat) (g : GeomS) : Prop where
  mine : own py = 7
  ex : ∃ xs : Array Value, xs.size = 26 ∧ w.heap[py]? = some (.cells (#[.int .i64 g.domains, .int .i64 g.zones, .int .i64 g.size, .int .i64 g.blocks, .int .i64 g.spare, .int .i64 g.opn, .pointer (some ⟨mb, 0, none⟩), .pointer (some ⟨ab, 0, none⟩)] ++ xs) 47 (0, 0))

set_option maxHeartbeats 1000000 in
set_option maxRecDepth 100000 in
theorem started_no (g : GeomS) (hg : g.right = false ∨ 64 < g.all) (w : World) : Calls Tryz.prog 12 #[geomV g] w fun e w' => e = .returned (.tuple #[.pointer none, .bool false]) ∧ Keeps (fun _ => False) w w' := by
  cases hr : g.right with
  | false =>
    have HR := hid hr
    clear hg hr
    unfold geomV
    go_enter Tryz.func12, Tryz.ntmps12
    go_wp2_with fail
    refine Calls.mono (refRight_calls g _) ?_
    rintro e w1 ⟨rfl, hk⟩
    rw [HR.out]
    have HK := hid hk
    clear hk
    go_wp2_with fail
    go_ret2
    exact ⟨rfl, Keeps.trans (by repeat (first | exact Keeps.refl _ _ | refine Keeps.alloc ?_ _ | refine Keeps.drew ?_ | refine Keeps.drewN ?_ _ | refine Keeps.trans ?_ (by assumption))) HK.out⟩
  | true =>
    have HR := hid hr
    have ha : 64 < g.domains * g.zones := by rw [hr] at hg; exact hg.resolve_left (by decide)
    have d1 : decide (64 < g.domains * g.zones) = true := by simpa using ha
    have hsm := g.right_small hr
    have hd := hsm.d
    have hz := hsm.z
    have hal := g.all_bd hsm
    unfold GeomS.all at hal
    obtain ⟨hal0, hal1⟩ := hal
    clear hg hr hsm
    unfold geomV
    go_enter Tryz.func12, Tryz.ntmps12
    go_wp2_with fail
    refine Calls.mono (refRight_calls g _) ?_
    rintro e w1 ⟨rfl, hk⟩
    rw [HR.out]
    have hk2 : Keeps (fun _ => False) w w1 := Keeps.trans (by repeat (first | exact Keeps.refl _ _ | refine Keeps.alloc ?_ _ | refine Keeps.drew ?_ | refine Keeps.drewN ?_ _ | refine Keeps.trans ?_ (by assumption))) hk
    have hb := hk.heap (heap_old _ _ (heap_new w _)) id
    have c0 := cell_of hb 0
    have c1 := cell_of hb 1
    have HK := hid hk2
    clear hk hk2 hb
    go_wp2_with fail
    go_ret2
    exact ⟨rfl, HK.out⟩
end Go.Rv

/- Areas turn between two zones each: plain. -/
namespace Go.Rv
open Go Go.RowKit Go.Proofs

/-- the two zones of area i. -/
def za (g : GeomS) (i : Nat) : Nat := i * g.zones.toNat
def zb (g : GeomS) (i : Nat) : Nat := i * g.zones.toNat + 1

theorem GeomS.right_zones {g : GeomS} (h : g.right = true) : 3 ≤ g.zones := by
  have hs := g.right_small h
  unfold GeomS.right at h
  simp only [Bool.and_eq_true, decide_eq_true_eq] at h
  have h2 := h.2
  have hd := hs.d
  have hz := hs.z
  have hp := hs.p
  refine Decidable.byContradiction fun c => ?_
  have hseg : g.segs ≤ 0 := by
    unfold GeomS.segs
    have e1 : g.domains * (g.zones - g.spare - 2) ≤ 0 := Int.mul_nonpos_of_nonneg_of_nonpos (by omega) (by omega)
    have e2 : 0 ≤ g.domains * g.spare := Int.mul_nonneg (by omega) hp.1
    omega
  have := Int.mul_nonpos_of_nonneg_of_nonpos (a := g.size) (b := g.segs) (by have := hs.s; omega) hseg
  have := hs.b
  omega
theorem GeomS.right_parts {g : GeomS} (h : g.right = true) : 1 ≤ g.parts ∧ g.parts ≤ g.size := by
  have hs := g.right_small h
  unfold GeomS.right at h
  simp only [Bool.and_eq_true, decide_eq_true_eq] at h
  refine ⟨?_, h.1.2⟩
  have := hs.b
  unfold GeomS.parts; omega

theorem zab_facts {g : GeomS} (h : g.right = true) {i : Nat} (hi : i < 3) : zb g i = za g i + 1 ∧ zb g i < g.all.toNat ∧ (za g i : Int) = i * g.zones ∧ (zb g i : Int) = i * g.zones + 1 ∧ g.domain (za g i) = i ∧ g.domain (zb g i) = i ∧ g.holds (za g i) 0 = true ∧ g.holds (zb g i) 0 = true := by
  have hs := g.right_small h
  have hz := g.right_zones h
  have hd := hs.d
  have hb := g.all_bd hs
  obtain ⟨Z, hZ⟩ : ∃ Z : Nat, g.zones = Z := ⟨g.zones.toNat, by omega⟩
  have e1 : (za g i : Int) = i * g.zones := by unfold za; rw [hZ]; simp
  have e2 : (zb g i : Int) = i * g.zones + 1 := by unfold zb; rw [hZ]; simp
  have hall : (i : Int) * g.zones + g.zones ≤ g.all := by
    have : (i : Int) * g.zones + g.zones = (i + 1) * g.zones := by rw [Int.add_mul, Int.one_mul]
    rw [this]
    exact Int.mul_le_mul_of_nonneg_right (by omega) (by omega)
  have h0 : 0 ≤ (i : Int) * g.zones := Int.mul_nonneg (by omega) (by omega)
  have hdiv : ∀ r : Int, 0 ≤ r → r < g.zones → (i * g.zones + r) / g.zones = i := fun r h0 h1 => by
    rw [Int.add_comm, Int.add_mul_ediv_right _ _ (by omega), Int.ediv_eq_zero_of_lt h0 h1]; omega
  have da := hdiv 0 (by omega) (by omega)
  have db := hdiv 1 (by omega) (by omega)
  rw [Int.add_zero] at da
  refine ⟨rfl, by omega, e1, e2, ?_, ?_, ?_, ?_⟩
  · unfold GeomS.domain; rw [e1, if_neg (by omega), da]
  · unfold GeomS.domain; rw [e2, if_neg (by omega), db]
  · unfold GeomS.holds inB; have := hs.s; simp [h]; omega
  · unfold GeomS.holds inB; have := hs.s; simp [h]; omega

/-- where an area stands. -/
def AreaS.Phase (g : GeomS) (A : AreaS) (i : Nat) : Prop :=
  (A.cur i = -1 ∧ A.old i = za g i ∧ A.m.p.L i = [(zb g i : Int)]) ∨
  (A.cur i = za g i ∧ A.old i = -1 ∧ A.m.p.L i = [(zb g i : Int)]) ∨
  (A.cur i = za g i ∧ A.old i = zb g i ∧ A.m.p.L i = []) ∨
  (A.cur i = zb g i ∧ A.old i = za g i ∧ A.m.p.L i = [])
/-- what holds of the drive. -/
structure DriveS.Shut (g : GeomS) (D : DriveS) : Prop where
  calm : D.Calm
  nz : D.d.nz = g.all.toNat
  size : D.d.size = g.size
  st : ∀ j, j < D.d.nz → (D.d.z j).state = 0 ∨ (D.d.z j).state = 2
  emp : ∀ j, j < D.d.nz → (D.d.z j).state = 0 → (D.d.z j).l = []
structure AreaS.Inv (g : GeomS) (A : AreaS) : Prop where
  right : g.right = true
  mg : A.m.g = g
  pg : A.m.p.g = g
  bad : ∀ z, A.m.isBad z = false
  shut : A.m.d.Shut g
  ph : ∀ i, i < 3 → A.Phase g i

/-- the zone that is written next, and the pool behind it. -/
theorem AreaS.target_turn {g : GeomS} {A : AreaS} (h : A.Inv g) {i : Nat} (hi : i < 3) : ∃ z l, (z = za g i ∨ z = zb g i) ∧ (z : Int) ≠ A.cur i ∧ (A.target i).2 = (z : Int) ∧ (A.target i).1.m.d = A.m.d ∧ (A.target i).1.m.bad = A.m.bad ∧ (A.target i).1.m.p.g = A.m.p.g ∧ (∀ k, (A.target i).1.m.p.L k = if k = i then l else A.m.p.L k) ∧ (∀ k, k ≠ i → (A.target i).1.old k = A.old k) ∧
    ((A.cur i = -1 ∧ z = za g i ∧ l = [(zb g i : Int)]) ∨ (A.cur i = za g i ∧ z = zb g i ∧ l = []) ∨ (A.cur i = zb g i ∧ z = za g i ∧ l = [])) := by
  have zf := zab_facts h.right hi
  rcases h.ph i hi with ⟨p1, p2, p3⟩ | ⟨p1, p2, p3⟩ | ⟨p1, p2, p3⟩ | ⟨p1, p2, p3⟩
  · refine ⟨za g i, [(zb g i : Int)], .inl rfl, by rw [p1]; omega, ?_⟩
    unfold AreaS.target
    rw [if_pos ⟨by omega, h.bad _⟩]
    refine ⟨p2, rfl, rfl, rfl, fun k => ?_, fun k hk => if_neg hk, .inl ⟨p1, rfl, rfl⟩⟩
    split
    · rename_i e; rw [e]; exact p3
    · rfl
  · refine ⟨zb g i, [], .inr rfl, by rw [p1]; omega, ?_⟩
    unfold AreaS.target
    rw [if_neg (fun c => c.1 p2), p3]
    refine ⟨rfl, rfl, rfl, rfl, fun k => rfl, fun k hk => if_neg hk, .inr (.inl ⟨p1, rfl, rfl⟩)⟩
  · refine ⟨zb g i, [], .inr rfl, by rw [p1]; omega, ?_⟩
    unfold AreaS.target
    rw [if_pos ⟨by omega, h.bad _⟩]
    refine ⟨p2, rfl, rfl, rfl, fun k => ?_, fun k hk => if_neg hk, .inr (.inl ⟨p1, rfl, rfl⟩)⟩
    split
    · rename_i e; rw [e]; exact p3
    · rfl
  · refine ⟨za g i, [], .inl rfl, by rw [p1]; omega, ?_⟩
    unfold AreaS.target
    rw [if_pos ⟨by omega, h.bad _⟩]
    refine ⟨p2, rfl, rfl, rfl, fun k => ?_, fun k hk => if_neg hk, .inr (.inr ⟨p1, rfl, rfl⟩)⟩
    split
    · rename_i e; rw [e]; exact p3
    · rfl

theorem DriveS.Shut.fill {g : GeomS} {D : DriveS} (h : D.Shut g) {z : Nat} (hz : z < g.all.toNat) (L : List (List UInt8)) (h1 : 1 ≤ L.length) (h2 : (L.length : Int) ≤ g.size) : (D.fillz z L).2 = 0 ∧ (D.fillz z L).1.Shut g ∧ (D.fillz z L).1.happened = D.happened ∧ (∀ j, j ≠ z → (D.fillz z L).1.d.z j = D.d.z j) ∧ ((D.fillz z L).1.d.z z).l = L := by
  have hz' : z < D.d.nz := by rw [h.nz]; exact hz
  obtain ⟨D', e, r1, r2, r3, r4, r5, r6⟩ := DriveS.fill_ok h.calm hz' (by have := h.st z hz'; omega) (h.emp z hz') (fun j hj _ => by have := h.st j hj; omega) L h1 (by rw [h.size]; exact h2)
  rw [e]
  refine ⟨rfl, ⟨r1, r2.1.trans h.nz, r2.2.1.trans h.size, fun j hj => ?_, fun j hj => ?_⟩, r3, r4, r5⟩
  · by_cases c : j = z
    · subst c; exact .inr r6
    · show (D'.d.z j).state = 0 ∨ (D'.d.z j).state = 2
      rw [r4 j c]; exact h.st j (by rw [← r2.1]; exact hj)
  · by_cases c : j = z
    · subst c; intro e0
      have : (D'.d.z j).state = 0 := e0
      omega
    · show (D'.d.z j).state = 0 → (D'.d.z j).l = []
      rw [r4 j c]; exact h.emp j (by rw [← r2.1]; exact hj)
theorem DriveS.Shut.flush {g : GeomS} {D : DriveS} (h : D.Shut g) : D.flush.2 = 0 ∧ D.flush.1.Shut g := by
  obtain ⟨r1, r2, r3⟩ := DriveS.flush_calm h.calm
  have l := DriveS.like_flush D
  refine ⟨r1, r2, l.1.trans h.nz, l.2.1.trans h.size, fun j hj => ?_, fun j hj => ?_⟩
  · rw [(r3 j).1]; exact h.st j (by rw [← l.1]; exact hj)
  · rw [(r3 j).1, (r3 j).2]; exact h.emp j (by rw [← l.1]; exact hj)

theorem AreaS.write1_turn {g : GeomS} {A : AreaS} (h : A.Inv g) {i : Nat} (hi : i < 3) (S : Int → List (List UInt8)) (hS : ∀ z, (S z).length = g.parts.toNat) :
    A.good1 i S ∧ (A.write1 i S).2 = true ∧ (A.write1 i S).1.Inv g ∧ (A.write1 i S).1.old i = A.cur i ∧ (A.write1 i S).1.cur i ≠ A.cur i ∧ ((A.write1 i S).1.cur i = za g i ∨ (A.write1 i S).1.cur i = zb g i) ∧ (∀ k, k ≠ i → (A.write1 i S).1.cur k = A.cur k ∧ (A.write1 i S).1.old k = A.old k) ∧ (A.cur i = -1 → (A.write1 i S).1.cur i = za g i) := by
  obtain ⟨z, l, hz, hne, ht, t1, t2, t3, t4, t5, t6⟩ := AreaS.target_turn h hi
  have zf := zab_facts h.right hi
  have hp := g.right_parts h.right
  have hzn : z < g.all.toNat := by rcases hz with rfl | rfl <;> omega
  have hno : (A.target i).2 ≠ -1 := by rw [ht]; omega
  obtain ⟨f1, f2, f3, f4, f5⟩ := h.shut.fill hzn (S z) (by rw [hS]; omega) (by rw [hS]; omega)
  have hw : A.write1 i S = (⟨{ (A.target i).1.m with d := (A.m.d.fillz z (S z)).1 }, put1 A.cur i z, put1 (A.target i).1.old i (A.cur i)⟩, true) := by
    unfold AreaS.write1
    rw [if_neg hno, ht, t1]
  have tg := (A.target_g i)
  refine ⟨.inr ⟨?_, by rw [ht, t1]; exact f1⟩, by rw [hw], ?_, by rw [hw]; simp [put1], by rw [hw]; simpa [put1] using hne, ?_, fun k hk => ?_, fun hc => ?_⟩
  · rw [h.mg, ht]; rcases hz with rfl | rfl
    · exact zf.2.2.2.2.2.2.1
    · exact zf.2.2.2.2.2.2.2
  · rw [hw]
    refine ⟨h.right, tg.1.trans h.mg, t3.trans h.pg, fun y => ?_, f2, fun k hk => ?_⟩
    · have := h.bad y
      unfold MirS.isBad at this ⊢
      show (decide (0 ≤ (A.target i).1.m.g.domain y) && (A.target i).1.m.bad y.toNat) = false
      rw [tg.1, t2]; exact this
    · by_cases c : k = i
      · subst c
        have e3 : (A.target k).1.m.p.L k = l := by rw [t4 k, if_pos rfl]
        rcases t6 with ⟨u1, u2, u3⟩ | ⟨u1, u2, u3⟩ | ⟨u1, u2, u3⟩
        · exact .inr (.inl ⟨by simp [put1, u2], by simp [put1, u1], by show (A.target k).1.m.p.L k = _; rw [e3, u3]⟩)
        · exact .inr (.inr (.inr ⟨by simp [put1, u2], by simp [put1, u1], by show (A.target k).1.m.p.L k = _; rw [e3, u3]⟩))
        · exact .inr (.inr (.inl ⟨by simp [put1, u2], by simp [put1, u1], by show (A.target k).1.m.p.L k = _; rw [e3, u3]⟩))
      · have e3 : (A.target i).1.m.p.L k = A.m.p.L k := by rw [t4 k, if_neg c]
        have := h.ph k hk
        unfold AreaS.Phase at this ⊢
        simp only [put1, if_neg c]
        rw [e3, t5 k c]; exact this
  · rw [hw]; simp only [put1]; rcases hz with rfl | rfl
    · exact .inl rfl
    · exact .inr rfl
  · rw [hw]; simp only [put1, if_neg hk]; exact ⟨trivial, t5 k hk⟩
  · rw [hw]; simp only [put1]; rcases t6 with u | u | u
    · rw [u.2.1]; rfl
    · have := u.1; omega
    · have := u.1; omega

theorem AreaS.seq_turn {g : GeomS} {A : AreaS} (h : A.Inv g) (S : Int → List (List UInt8)) (hS : ∀ z, (S z).length = g.parts.toNat) : ∀ d, d ≤ 3 →
    (A.seq S d).2 = d ∧ (A.seq S d).1.Inv g ∧ (∀ k, k < d → (A.seq S k).1.good1 k S) ∧ (∀ i, i < d → (A.seq S d).1.old i = A.cur i ∧ (A.seq S d).1.cur i ≠ A.cur i ∧ ((A.seq S d).1.cur i = za g i ∨ (A.seq S d).1.cur i = zb g i) ∧ (A.cur i = -1 → (A.seq S d).1.cur i = za g i)) ∧ (∀ i, d ≤ i → (A.seq S d).1.cur i = A.cur i ∧ (A.seq S d).1.old i = A.old i)
  | 0, _ => ⟨rfl, h, fun k hk => by omega, fun i hi => by omega, fun i _ => ⟨rfl, rfl⟩⟩
  | d + 1, hd => by
    obtain ⟨a1, a2, a3, a4, a5⟩ := AreaS.seq_turn h S hS d (by omega)
    obtain ⟨b1, b2, b3, b4, b5, b6, b7, b8⟩ := AreaS.write1_turn a2 (i := d) (by omega) S hS
    have e : A.seq S (d + 1) = (((A.seq S d).1.write1 d S).1, (A.seq S d).2 + if ((A.seq S d).1.write1 d S).2 then 1 else 0) := rfl
    have ec := a5 d (Nat.le_refl _)
    refine ⟨by rw [e, b2, a1]; rfl, by rw [e]; exact b3, fun k hk => ?_, fun i hi => ?_, fun i hi => ?_⟩
    · by_cases c : k = d
      · subst c; exact b1
      · exact a3 k (by omega)
    · rw [e]
      by_cases c : i = d
      · subst c; simp only []; rw [← ec.1]; exact ⟨b4, b5, b6, b8⟩
      · simp only []; rw [(b7 i c).1, (b7 i c).2]; exact a4 i (by omega)
    · rw [e]; simp only []; rw [(b7 i (by omega)).1, (b7 i (by omega)).2]; exact a5 i (by omega)
theorem AreaS.Inv.flush {g : GeomS} {A : AreaS} (h : A.Inv g) : A.m.d.flush.2 = 0 ∧ AreaS.Inv g ⟨{ A.m with d := A.m.d.flush.1 }, A.cur, A.old⟩ :=
  ⟨h.shut.flush.1, h.right, h.mg, h.pg, h.bad, h.shut.flush.2, h.ph⟩

/-- the areas before the first round, behind d steps of the loop that gives them their zones. -/
def areaD (g : GeomS) (d : Nat) : AreaS := ⟨{ mir0 g with p := ⟨g, fun k => if k < d then [(zb g k : Int)] else []⟩ }, fun _ => -1, fun k => if k < d then (za g k : Int) else -1⟩
theorem areaD_zero (g : GeomS) : areaD g 0 = area0 g := by simp [areaD, area0, mir0]
theorem areaD_inv {g : GeomS} (h : g.right = true) : (areaD g 3).Inv g := by
  have hs := g.right_small h
  refine ⟨h, rfl, rfl, fun z => by simp [MirS.isBad, areaD, mir0], ⟨⟨rfl, rfl, by have := hs.o; show 1 ≤ g.opn; omega⟩, rfl, rfl, fun j _ => .inl rfl, fun j _ _ => rfl⟩, fun i hi => .inl ⟨rfl, by simp [areaD, hi], by simp [areaD, hi]⟩⟩
theorem areaD_set (g : GeomS) (d : Nat) : put1 (areaD g d).cur d (-1) = (fun _ => -1) ∧ put1 (areaD g d).old d (za g d) = (areaD g (d + 1)).old := by
  refine ⟨funext fun k => by simp [put1, areaD], funext fun k => ?_⟩
  simp only [put1, areaD]
  by_cases c : k = d
  · rw [if_pos c, if_pos (by omega), c]
  · rw [if_neg c]
    by_cases c2 : k < d
    · rw [if_pos c2, if_pos (by omega)]
    · rw [if_neg c2, if_neg (by omega)]
theorem areaD_give {g : GeomS} (h : g.right = true) {d : Nat} (hd : d < 3) : (areaD g d).m.p.give (zb g d) = ((areaD g (d + 1)).m.p, 0) := by
  have zf := zab_facts h hd
  have hno : (areaD g d).m.p.has (zb g d) = false := by
    unfold PoolS.has
    rw [decide_eq_false_iff_not]
    intro hm
    obtain ⟨k, hk, hx⟩ := (mem_pInts _ _ _).mp hm
    by_cases c : k < d
    · simp only [areaD, c, if_true, List.mem_singleton] at hx
      have zk := zab_facts h (i := k) (by omega)
      have := zf.2.2.2.2.2.1
      rw [hx, zk.2.2.2.2.2.1] at this
      omega
    · simp [areaD, c] at hx
  have hdm : (areaD g d).m.p.g.domain (zb g d) = d := zf.2.2.2.2.2.1
  unfold PoolS.give
  rw [hno, hdm, if_neg (by omega), if_neg (by decide)]
  refine Prod.ext ?_ rfl
  show PoolS.mk g (fun k => if k = ((d : Int)).toNat then (areaD g d).m.p.L ((d : Int)).toNat ++ [(zb g d : Int)] else (areaD g d).m.p.L k) = PoolS.mk g (fun k => if k < d + 1 then [(zb g k : Int)] else [])
  simp only [areaD]
  refine congrArg (PoolS.mk g) (funext fun k => ?_)
  simp only [Int.toNat_natCast]
  by_cases c : k = d
  · subst c; rw [if_pos rfl, if_neg (Nat.lt_irrefl _), if_pos (by omega)]; rfl
  · rw [if_neg c]
    by_cases c2 : k < d
    · rw [if_pos c2, if_pos (by omega)]
    · rw [if_neg c2, if_neg (by omega)]
end Go.Rv
