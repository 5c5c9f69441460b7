/- Maps of blocks: what they hold. -/
import Derived.Test.YtoijkpgcaokhlaaGreatPart11
import Derived.Deep.RegionHeld3
set_option linter.unusedVariables false
set_option linter.unusedSimpArgs false
namespace Go.Rv
open Go Go.RowKit Go.Proofs
attribute [local irreducible] wpQuiet

structure EntS where
  state : Int
  zone : Int
  mate : Int
  off : Int
  seq : Int
  sum : Int
  deriving DecidableEq
def entL (e : EntS) : List Value := [.int .i64 e.state, .int .i64 e.zone, .int .i64 e.mate, .int .i64 e.off, .int .i64 e.seq, .int .i64 e.sum]
def entC (e : EntS) : Array Value := #[.int .i64 e.state, .int .i64 e.zone, .int .i64 e.mate, .int .i64 e.off, .int .i64 e.seq, .int .i64 e.sum]
def ent0 : EntS := ⟨0, 0, 0, 0, 0, 0⟩
structure MapS where
  g : GeomS
  l : List EntS
  live : List Int
def mapC (g : GeomS) (lv sv : Value) : Array Value := #[.int .i64 g.domains, .int .i64 g.zones, .int .i64 g.size, .int .i64 g.blocks, .int .i64 g.spare, .int .i64 g.opn, lv, sv]
structure MapHead (w : World) (own : Nat → Nat) (t mb : Nat) (M : MapS) (lv sv : Value) : Prop where
  mine : own mb = t
  heap : w.heap[mb]? = some (.cells (mapC M.g lv sv) 155 (0, 0))
  row : RowAt w (fun k => own k = t) 83 6 lv M.l.length (M.l.flatMap entL)
  live : RowAt w (fun k => own k = t) 3 1 sv M.live.length (M.live.map intV)
structure MapAt (w : World) (own : Nat → Nat) (t mb : Nat) (M : MapS) : Prop where
  ex : ∃ lv sv, MapHead w own t mb M lv sv
  len : (M.l.length : Int) = M.g.blocks
  lives : (M.live.length : Int) = M.g.all
  right : M.g.right = true

theorem MapAt.kept {w w' : World} {own own' : Nat → Nat} {t mb : Nat} {M : MapS} {A : Nat → Prop} (h : MapAt w own t mb M) (hs : Step A w own w' own') (hA : ¬ A t) : MapAt w' own' t mb M := by
  obtain ⟨⟨lv, sv, h1⟩, h2, h3, h4⟩ := h
  exact ⟨⟨lv, sv, hs.own h1.heap h1.mine, hs.heap h1.heap (by rw [h1.mine]; exact hA), hs.row h1.row hA, hs.row h1.live hA⟩, h2, h3, h4⟩
theorem MapAt.still {w w' : World} {own : Nat → Nat} {t mb : Nat} {M : MapS} (h : MapAt w own t mb M) (hk : Keeps (fun _ => False) w w') : MapAt w' own t mb M := by
  obtain ⟨⟨lv, sv, h1⟩, h2, h3, h4⟩ := h
  exact ⟨⟨lv, sv, h1.mine, hk.heap h1.heap id, h1.row.keeps hk (fun _ _ => id), h1.live.keeps hk (fun _ _ => id)⟩, h2, h3, h4⟩

/-- all new blocks are t's. -/
def ownNew (own : Nat → Nat) (a b t : Nat) : Nat → Nat := fun k => if a ≤ k ∧ k < b then t else own k
theorem Step.news {own : Nat → Nat} {w w' : World} (hk : Keeps (fun _ => False) w w') (hs : Settled own w) (t : Nat) : Step (fun k => k = t) w own w' (ownNew own w.heap.size w'.heap.size t) ∧ Settled (ownNew own w.heap.size w'.heap.size t) w' := by
  refine ⟨⟨hk.mono fun _ _ h => h.elim, fun k h => ?_, fun k h => ?_⟩, fun k h => ?_⟩
  · unfold ownNew; rw [if_neg (by omega)]
  · unfold ownNew; split
    · exact .inr rfl
    · exact .inl (hs k h)
  · unfold ownNew; rw [if_neg (by omega)]
    exact hs k (Nat.le_trans hk.size h)
theorem ownNew_new (own : Nat → Nat) {a b t k : Nat} (h1 : a ≤ k) (h2 : k < b) : ownNew own a b t k = t := by unfold ownNew; rw [if_pos ⟨h1, h2⟩]

theorem ents0 : ∀ n, (List.replicate n ent0).flatMap entL = List.replicate (n * 6) (Value.int .i64 0)
  | 0 => rfl
  | n + 1 => by
    rw [List.replicate_succ, List.flatMap_cons, ents0 n, show (n + 1) * 6 = n * 6 + 1 + 1 + 1 + 1 + 1 + 1 by omega]
    simp only [List.replicate_succ]
    rfl
theorem made_all (z : Array Value) (v : Value) (hz : ∀ i, i < z.size → z[i]! = v) (h0 : 0 < z.size) (n : Nat) : (madeCells z n).toList = List.replicate n v := by
  apply List.ext_getElem
  · simp [madeCells]
  · intro i h1 h2
    simp only [madeCells, Array.toList_map, List.getElem_map, List.getElem_replicate]
    exact hz _ (Nat.mod_lt _ h0)

theorem mapnew_fin (own : Nat → Nat) (t : Nat) (g : GeomS) (hg : g.right = true) (w w' : World) (mb eb lb nb na : Nat) (E0 L0 : Array Value) (hset : Settled own w) (hk : Keeps (fun _ => False) w w')
    (hnb : (nb : Int) = g.blocks) (hna : (na : Int) = g.all) (hb : nb ≤ 256) (ha : na ≤ 512) (hE : E0.toList = List.replicate (nb * 6) (.int .i64 0)) (hL : L0.toList = List.replicate na (.int .i64 0))
    (h1 : w.heap.size ≤ mb) (h2 : w.heap.size ≤ eb) (h3 : w.heap.size ≤ lb)
    (hm : w'.heap[mb]? = some (.cells (mapC g (.slice (some ⟨eb, 0, none⟩) nb nb) (.slice (some ⟨lb, 0, none⟩) na na)) 155 (0, 0)))
    (he : w'.heap[eb]? = some (.cells E0 83 (0, 0))) (hl : w'.heap[lb]? = some (.cells L0 3 (0, 0))) :
    ∃ own', MapAt w' own' t mb ⟨g, List.replicate g.blocks.toNat ent0, List.replicate g.all.toNat 0⟩ ∧ Step (fun k => k = t) w own w' own' ∧ Settled own' w' := by
  obtain ⟨s1, s2⟩ := Step.news hk hset t
  have e1 : g.blocks.toNat = nb := by omega
  have e2 : g.all.toNat = na := by omega
  have e3 : E0.size = nb * 6 := by have := congrArg List.length hE; simpa using this
  have e4 : L0.size = na := by have := congrArg List.length hL; simpa using this
  refine ⟨_, ⟨⟨_, _, ⟨ownNew_new own h1 (lt_of hm), hm, ?_, ?_⟩⟩, by simp [e1, hnb], by simp [e2, hna], hg⟩, s1, s2⟩
  · simp only [List.length_replicate, e1]
    refine ⟨by simp [ents0], .inr ⟨eb, nb, E0, rfl, ownNew_new own h2 (lt_of he), he, Nat.le_refl _, by unfold maxLen; omega, e3, ?_⟩⟩
    rw [hE, ents0]; simp
  · simp only [List.length_replicate, e2]
    refine ⟨by simp, .inr ⟨lb, na, L0, rfl, ownNew_new own h3 (lt_of hl), hl, Nat.le_refl _, by unfold maxLen; omega, by omega, ?_⟩⟩
    rw [hL]; simp [intV]

theorem infoEnt : (Tryz.prog.info? 83).map (fun i => (i.zero, i.size, i.bytes)) = some (some (.agg #[.int .i64 0, .int .i64 0, .int .i64 0, .int .i64 0, .int .i64 0, .int .i64 0]), 6, 48) := by kernel_rfl
theorem mk_ents (n : Int) (h0 : 0 ≤ n) (h1 : n ≤ 256) : ∃ E0 : Array Value, E0.toList = List.replicate (n.toNat * 6) (.int .i64 0) ∧ ∀ w, (Instr.makeSlice 95 (.int .i64 n) (.int .i64 n)).run Tryz.prog w = .ok (.slice (some ⟨w.heap.size, 0, none⟩) n.toNat n.toNat) (w.alloc (.cells E0 83)) := by
  obtain ⟨i0, hi, hz0, hz1, hz2⟩ := info_parts infoEnt
  refine ⟨madeCells #[.int .i64 0, .int .i64 0, .int .i64 0, .int .i64 0, .int .i64 0, .int .i64 0] (n.toNat * 6), ?_, fun w => ?_⟩
  · refine made_all _ _ (fun i hi => ?_) (by decide) _
    match i, hi with
    | 0, _ => rfl
    | 1, _ => rfl
    | 2, _ => rfl
    | 3, _ => rfl
    | 4, _ => rfl
    | 5, _ => rfl
  · have := run_makeSlice (P := Tryz.prog) w 95 83 i0 _ Tryz.underlying95 hi hz0 .i64 .i64 n n h0 (Int.le_refl _) (by rw [hz1]; omega) (by rw [hz2]; omega) (by omega)
    rw [hz1] at this
    exact this
theorem mk_ints (n : Int) (h0 : 0 ≤ n) (h1 : n ≤ 512) : ∃ E0 : Array Value, E0.toList = List.replicate n.toNat (.int .i64 0) ∧ ∀ w, (Instr.makeSlice 38 (.int .i64 n) (.int .i64 n)).run Tryz.prog w = .ok (.slice (some ⟨w.heap.size, 0, none⟩) n.toNat n.toNat) (w.alloc (.cells E0 3)) := by
  obtain ⟨i0, hi, hz0, hz1, hz2⟩ := info_parts infoInt
  refine ⟨madeCells #[.int .i64 0] n.toNat, toList_madeCells_one _ _, fun w => ?_⟩
  have := run_makeSlice (P := Tryz.prog) w 38 3 i0 _ Tryz.underlying38 hi hz0 .i64 .i64 n n h0 (Int.le_refl _) (by rw [hz1]; omega) (by rw [hz2]; omega) (by omega)
  rw [hz1, Nat.mul_one] at this
  exact this

theorem s6_alloc {w : World} {b : Nat} {v0 v1 v2 v3 v4 v5 : Value} {o : Obj} (h : w.cell? ⟨b, 0, none⟩ = some v0 ∧ w.cell? ⟨b, 1, none⟩ = some v1 ∧ w.cell? ⟨b, 2, none⟩ = some v2 ∧ w.cell? ⟨b, 3, none⟩ = some v3 ∧ w.cell? ⟨b, 4, none⟩ = some v4 ∧ w.cell? ⟨b, 5, none⟩ = some v5) :
    (w.alloc o).cell? ⟨b, 0, none⟩ = some v0 ∧ (w.alloc o).cell? ⟨b, 1, none⟩ = some v1 ∧ (w.alloc o).cell? ⟨b, 2, none⟩ = some v2 ∧ (w.alloc o).cell? ⟨b, 3, none⟩ = some v3 ∧ (w.alloc o).cell? ⟨b, 4, none⟩ = some v4 ∧ (w.alloc o).cell? ⟨b, 5, none⟩ = some v5 := by
  obtain ⟨h0, h1, h2, h3, h4, h5⟩ := h
  have hk : Keeps (fun _ => False) w (w.alloc o) := (Keeps.refl _ _).alloc _
  have hb := cell_lt h0
  exact ⟨(hk.cell hb id).trans h0, (hk.cell hb id).trans h1, (hk.cell hb id).trans h2, (hk.cell hb id).trans h3, (hk.cell hb id).trans h4, (hk.cell hb id).trans h5⟩

theorem heap4 (w : World) (x y z m : Obj) : ((((w.alloc x).alloc y).alloc z).alloc m).heap[w.heap.size]? = some x ∧ ((((w.alloc x).alloc y).alloc z).alloc m).heap[w.heap.size + 1]? = some y ∧ ((((w.alloc x).alloc y).alloc z).alloc m).heap[w.heap.size + 1 + 1]? = some z ∧ ((((w.alloc x).alloc y).alloc z).alloc m).heap[w.heap.size + 1 + 1 + 1]? = some m := by
  refine ⟨heap_old _ _ (heap_old _ _ (heap_old _ _ (heap_new _ _))), ?_, ?_, ?_⟩
  · have := heap_new (w.alloc x) y
    rw [World.size_alloc] at this
    exact heap_old _ _ (heap_old _ _ this)
  · have := heap_new ((w.alloc x).alloc y) z
    rw [World.size_alloc, World.size_alloc] at this
    exact heap_old _ _ this
  · have := heap_new (((w.alloc x).alloc y).alloc z) m
    rw [World.size_alloc, World.size_alloc, World.size_alloc] at this
    exact this

set_option maxHeartbeats 1000000 in
set_option maxRecDepth 100000 in
theorem mapnew_good (own : Nat → Nat) (t : Nat) (g : GeomS) (hg : g.right = true) (w : World) (hset : Settled own w) : Calls Tryz.prog 16 #[geomV g] w fun e w' =>
    ∃ mb own', e = .returned (.tuple #[.pointer (some ⟨mb, 0, none⟩), .int .i64 0]) ∧ MapAt w' own' t mb ⟨g, List.replicate g.blocks.toNat ent0, List.replicate g.all.toNat 0⟩ ∧ Step (fun k => k = t) w own w' own' ∧ Settled own' w' := by
  have HS := hid hset
  have HG := hid hg
  have hsm := g.right_small hg
  have HSM := hid hsm
  have hb := hsm.b
  have ha := g.all_bd hsm
  obtain ⟨E0, hE, hmE⟩ := mk_ents g.blocks (by omega) (by omega)
  obtain ⟨L0, hL, hmL⟩ := mk_ints (g.domains * g.zones) ha.1 ha.2
  have HE := hid hE
  have HL := hid hL
  have HBD := hid (And.intro hb ha)
  clear hset hg hsm hb ha hE hL
  unfold geomV
  go_enter Tryz.func16, Tryz.ntmps16
  go_wp2_with fail
  refine Calls.mono (right_calls g _) ?_
  rintro e w1 ⟨rfl, hk⟩
  rw [HG.out]
  have hg1 : w1.heap[w.heap.size]? = some (geomB g) := hk.heap (heap_new _ _) id
  have c0 := cell_of hg1 0
  have c1 := cell_of hg1 1
  have c2 := cell_of hg1 2
  have c3 := cell_of hg1 3
  have c4 := cell_of hg1 4
  have c5 := cell_of hg1 5
  have hlt := lt_of hg1
  have HK := hid (show Keeps (fun _ => False) w w1 from ((Keeps.refl _ _).alloc _).trans hk)
  clear hg1 hk
  go_wp2_with fail
  go_region_held3 (fun W => W.cell? ⟨w.heap.size, 0, none⟩ = some (.int .i64 g.domains) ∧ W.cell? ⟨w.heap.size, 1, none⟩ = some (.int .i64 g.zones) ∧ W.cell? ⟨w.heap.size, 2, none⟩ = some (.int .i64 g.size) ∧ W.cell? ⟨w.heap.size, 3, none⟩ = some (.int .i64 g.blocks) ∧ W.cell? ⟨w.heap.size, 4, none⟩ = some (.int .i64 g.spare) ∧ W.cell? ⟨w.heap.size, 5, none⟩ = some (.int .i64 g.opn)) (repeat (first | exact ⟨c0, c1, c2, c3, c4, c5⟩ | refine s6_alloc ?_)) (first | (go_at_call 63; refine Calls.mono (gAll_calls g HSM.out _) ?_; rintro e w2 ⟨rfl, rfl⟩))
  all_goals
    go_wp2_with fail
    go_ret2
  · obtain ⟨a0, a1, a2, a3⟩ := heap4 w1 (.cells E0 83) (geomB g) (.cells L0 3) (.cells (mapC g (.slice (some ⟨w1.heap.size, 0, none⟩) g.blocks.toNat g.blocks.toNat) (.slice (some ⟨(w1.heap.size + 1 + 1), 0, none⟩) (g.domains * g.zones).toNat (g.domains * g.zones).toNat)) 155)
    obtain ⟨own', q1, q2, q3⟩ := mapnew_fin own t g HG.out w _ _ w1.heap.size (w1.heap.size + 1 + 1) g.blocks.toNat (g.domains * g.zones).toNat E0 L0 HS.out (((((HK.out.alloc _).alloc _).alloc _).alloc _).drew) (by have := HBD.out.1; omega) (by have := HBD.out.2; unfold GeomS.all at *; omega) (by have := HBD.out.1; omega) (by have := HBD.out.2; unfold GeomS.all at *; omega) HE.out HL.out (by omega) (by omega) (by omega) a3 a0 a2
    exact ⟨_, own', rfl, q1, q2, q3⟩
  · obtain ⟨a0, a1, a2, a3⟩ := heap4 w1 (geomB g) (.cells E0 83) (.cells L0 3) (.cells (mapC g (.slice (some ⟨(w1.heap.size + 1), 0, none⟩) g.blocks.toNat g.blocks.toNat) (.slice (some ⟨(w1.heap.size + 1 + 1), 0, none⟩) (g.domains * g.zones).toNat (g.domains * g.zones).toNat)) 155)
    obtain ⟨own', q1, q2, q3⟩ := mapnew_fin own t g HG.out w _ _ (w1.heap.size + 1) (w1.heap.size + 1 + 1) g.blocks.toNat (g.domains * g.zones).toNat E0 L0 HS.out (((((HK.out.alloc _).alloc _).alloc _).alloc _).drew) (by have := HBD.out.1; omega) (by have := HBD.out.2; unfold GeomS.all at *; omega) (by have := HBD.out.1; omega) (by have := HBD.out.2; unfold GeomS.all at *; omega) HE.out HL.out (by omega) (by omega) (by omega) a3 a1 a2
    exact ⟨_, own', rfl, q1, q2, q3⟩
  · obtain ⟨a0, a1, a2, a3⟩ := heap4 w1 (geomB g) (.cells L0 3) (.cells E0 83) (.cells (mapC g (.slice (some ⟨(w1.heap.size + 1 + 1), 0, none⟩) g.blocks.toNat g.blocks.toNat) (.slice (some ⟨(w1.heap.size + 1), 0, none⟩) (g.domains * g.zones).toNat (g.domains * g.zones).toNat)) 155)
    obtain ⟨own', q1, q2, q3⟩ := mapnew_fin own t g HG.out w _ _ (w1.heap.size + 1 + 1) (w1.heap.size + 1) g.blocks.toNat (g.domains * g.zones).toNat E0 L0 HS.out (((((HK.out.alloc _).alloc _).alloc _).alloc _).drew) (by have := HBD.out.1; omega) (by have := HBD.out.2; unfold GeomS.all at *; omega) (by have := HBD.out.1; omega) (by have := HBD.out.2; unfold GeomS.all at *; omega) HE.out HL.out (by omega) (by omega) (by omega) a3 a2 a1
    exact ⟨_, own', rfl, q1, q2, q3⟩
end Go.Rv

/- Maps of blocks: their geometry, and an entry. -/
namespace Go.Rv
open Go Go.RowKit Go.Proofs

def z_Geom : Array Value := (reps 6 (.int .i64 0)).toArray
theorem row_Geom : RowTy Tryz.prog 23 6 := ⟨⟨_, Tryz.underlying23, rfl⟩, by kernel_rfl⟩
theorem info_Geom : (Tryz.prog.info? 23).map (fun i => (i.zero, i.size, i.bytes)) = some (some (.agg z_Geom), 6, 48) := by kernel_rfl
theorem size_z_Geom : z_Geom.size = 6 := by kernel_rfl
theorem ld_Geom (f : Operand → Value) (x : Operand) (d : Option Tmp) (t : TypeId) (pos : String) (af : Array Edge) (g : Option (Nat × Bool)) (w : World) :
    (execOp f ⟨d, .load 23 x, t, pos, af, g⟩).run Tryz.prog w = match f x with
      | .pointer (some a) => match cellsAt w a 6 with
        | some cs => .ok (.value (.agg cs)) w
        | none => stuckOp Tryz.prog f ⟨d, .load 23 x, t, pos, af, g⟩ w
      | _ => stuckOp Tryz.prog f ⟨d, .load 23 x, t, pos, af, g⟩ w := op_load 23 6 row_Geom f x d t pos af g w
theorem st_Geom (f : Operand → Value) (p x : Operand) (d : Option Tmp) (t : TypeId) (pos : String) (af : Array Edge) (g : Option (Nat × Bool)) (w : World) :
    (execOp f ⟨d, .store 23 p x, t, pos, af, g⟩).run Tryz.prog w = match f p, f x with
      | .pointer (some a), .agg cs => if cs.size = 6 ∧ cellsFree w a 6 = true ∧ allOne cs = true then .ok .skip (putCells w a cs) else stuckOp Tryz.prog f ⟨d, .store 23 p x, t, pos, af, g⟩ w
      | _, _ => stuckOp Tryz.prog f ⟨d, .store 23 p x, t, pos, af, g⟩ w := op_store 23 6 row_Geom f p x d t pos af g w
theorem al_Geom (f : Operand → Value) (d : Option Tmp) (t : TypeId) (pos : String) (af : Array Edge) (g : Option (Nat × Bool)) (w : World) :
    (execOp f ⟨d, .alloc 23, t, pos, af, g⟩).run Tryz.prog w = .ok (.value (.pointer (some ⟨w.heap.size, 0, none⟩))) (w.alloc (.cells z_Geom 23)) := by
  obtain ⟨i0, hi, hz0, hz1, hz2⟩ := info_parts info_Geom
  exact op_alloc 23 i0 z_Geom hi hz0 f d t pos af g w

def z_Ent : Array Value := (reps 6 (.int .i64 0)).toArray
theorem row_Ent : RowTy Tryz.prog 83 6 := ⟨⟨_, Tryz.underlying83, rfl⟩, by kernel_rfl⟩
theorem info_Ent : (Tryz.prog.info? 83).map (fun i => (i.zero, i.size, i.bytes)) = some (some (.agg z_Ent), 6, 48) := by kernel_rfl
theorem size_z_Ent : z_Ent.size = 6 := by kernel_rfl
theorem ld_Ent (f : Operand → Value) (x : Operand) (d : Option Tmp) (t : TypeId) (pos : String) (af : Array Edge) (g : Option (Nat × Bool)) (w : World) :
    (execOp f ⟨d, .load 83 x, t, pos, af, g⟩).run Tryz.prog w = match f x with
      | .pointer (some a) => match cellsAt w a 6 with
        | some cs => .ok (.value (.agg cs)) w
        | none => stuckOp Tryz.prog f ⟨d, .load 83 x, t, pos, af, g⟩ w
      | _ => stuckOp Tryz.prog f ⟨d, .load 83 x, t, pos, af, g⟩ w := op_load 83 6 row_Ent f x d t pos af g w
theorem st_Ent (f : Operand → Value) (p x : Operand) (d : Option Tmp) (t : TypeId) (pos : String) (af : Array Edge) (g : Option (Nat × Bool)) (w : World) :
    (execOp f ⟨d, .store 83 p x, t, pos, af, g⟩).run Tryz.prog w = match f p, f x with
      | .pointer (some a), .agg cs => if cs.size = 6 ∧ cellsFree w a 6 = true ∧ allOne cs = true then .ok .skip (putCells w a cs) else stuckOp Tryz.prog f ⟨d, .store 83 p x, t, pos, af, g⟩ w
      | _, _ => stuckOp Tryz.prog f ⟨d, .store 83 p x, t, pos, af, g⟩ w := op_store 83 6 row_Ent f p x d t pos af g w
theorem al_Ent (f : Operand → Value) (d : Option Tmp) (t : TypeId) (pos : String) (af : Array Edge) (g : Option (Nat × Bool)) (w : World) :
    (execOp f ⟨d, .alloc 83, t, pos, af, g⟩).run Tryz.prog w = .ok (.value (.pointer (some ⟨w.heap.size, 0, none⟩))) (w.alloc (.cells z_Ent 83)) := by
  obtain ⟨i0, hi, hz0, hz1, hz2⟩ := info_parts info_Ent
  exact op_alloc 83 i0 z_Ent hi hz0 f d t pos af g w

theorem bs_Ent (f : Operand → Value) (x : Operand) (d : Option Tmp) (ty : TypeId) (pos : String) (af : Array Edge) (g : Option (Nat × Bool)) (w : World) :
    (execOp f ⟨d, .buildSlice 95 1 #[(0, x)], ty, pos, af, g⟩).run Tryz.prog w = match f x with
      | .agg cs => if cs.size = 6 then .ok (.value (.slice (some ⟨w.heap.size, 0, none⟩) 1 1)) (w.alloc (.cells cs 83)) else stuckOp Tryz.prog f ⟨d, .buildSlice 95 1 #[(0, x)], ty, pos, af, g⟩ w
      | _ => stuckOp Tryz.prog f ⟨d, .buildSlice 95 1 #[(0, x)], ty, pos, af, g⟩ w := by
  obtain ⟨i0, hi, hz0, hz1, hz2⟩ := info_parts info_Ent
  exact op_buildSlice_one _ _ i0 _ 6 Tryz.underlying95 hi hz0 hz1 (by decide) (by decide) f x d ty pos af g w


attribute [local irreducible] wpQuiet
attribute [local go_sem ↓] ld_Geom st_Geom al_Geom ld_Ent st_Ent al_Ent
attribute [local go_sem] cellsAt_new0 cellsAt_lt cellsAt_drew size_bytesV

def geomC (g : GeomS) : Array Value := #[.int .i64 g.domains, .int .i64 g.zones, .int .i64 g.size, .int .i64 g.blocks, .int .i64 g.spare, .int .i64 g.opn]
theorem MapHead.cells {w : World} {own : Nat → Nat} {t mb : Nat} {M : MapS} {lv sv : Value} (h : MapHead w own t mb M lv sv) : cellsAt w ⟨mb, 0, none⟩ 6 = some (geomC M.g) ∧ w.cell? ⟨mb, 6, none⟩ = some lv ∧ w.cell? ⟨mb, 7, none⟩ = some sv ∧ mb < w.heap.size :=
  ⟨by have := cellsAt_row h.heap 0 6 (by simp [mapC]); simpa [mapC, geomC] using this, cell_of h.heap 6, cell_of h.heap 7, lt_of h.heap⟩

set_option maxHeartbeats 1000000 in
theorem mapgeom_calls (own : Nat → Nat) (t mb : Nat) (M : MapS) (w : World) (h : MapAt w own t mb M) : Calls Tryz.prog 65 #[.pointer (some ⟨mb, 0, none⟩)] w fun e w' => e = .returned (geomV M.g) ∧ Keeps (fun _ => False) w w' := by
  obtain ⟨⟨lv, sv, h1⟩, h2, h3, h4⟩ := h
  obtain ⟨c0, c6, c7, hb⟩ := h1.cells
  have hn := heap_new w (.cells z_Geom 23)
  have e2 := cellsFree_full (n := 6) hn rfl
  have e3 : allOne (geomC M.g) = true := rfl
  have e4 : (geomC M.g).size = 6 := rfl
  have HN := hid hn
  clear h1 h2 h3 h4 c6 c7 hn
  unfold geomV
  change Calls Tryz.prog 65 #[.pointer (some ⟨mb, 0, none⟩)] w fun e w' => e = .returned (.agg (geomC M.g)) ∧ Keeps (fun _ => False) w w'
  generalize geomC M.g = G at *
  go_enter Tryz.func65, Tryz.ntmps65
  go_wp2_with fail
  refine bodyPost_ret (results_cell1 rfl row_Geom _ rfl (cellsAt_full (putCells_at HN.out (by rw [e4]; rfl)) e4)) rfl ⟨rfl, ?_⟩
  exact keeps_put0 (by repeat (first | exact Keeps.refl _ _ | refine Keeps.alloc ?_ _ | refine Keeps.drew ?_ | refine Keeps.drewN ?_ _ | refine Keeps.trans ?_ (by assumption))) (fun h => absurd h (Nat.lt_irrefl _)) _

theorem ents_at : ∀ (l : List EntS) (k : Nat) (hk : k < l.length), ((l.flatMap entL).drop (k * 6)).take 6 = entL l[k]
  | [], k, hk => by simp at hk
  | e :: l, 0, _ => by
    show ((entL e ++ l.flatMap entL).drop 0).take 6 = entL e
    rw [List.drop_zero]
    exact List.take_left' rfl
  | e :: l, k + 1, hk => by
    have hlen : (entL e).length = 6 := rfl
    show ((entL e ++ l.flatMap entL).drop ((k + 1) * 6)).take 6 = entL (l[k]'(by simpa using hk))
    rw [List.drop_append, List.drop_of_length_le (by omega), List.nil_append, show (k + 1) * 6 - (entL e).length = k * 6 by omega]
    exact ents_at l k (by simpa using hk)
/-- an entry's cells in a map's row. -/
theorem ent_at {w : World} {P : Nat → Prop} {e : TypeId} {a : Option Addr} {m cap n : Nat} {l : List EntS} (h : RowAt w P e 6 (.slice a m cap) n (l.flatMap entL)) (hn : n = l.length) (k : Nat) (hk : k < l.length) :
    ∃ g, a = some ⟨g, 0, none⟩ ∧ m = n ∧ P g ∧ cellsAt w ⟨g, k * 6, none⟩ 6 = some (entC l[k]) := by
  obtain ⟨h1, ⟨_, _, h2⟩ | ⟨g, cap', cur, hv, hp, hh, h3, h4, h5, h6⟩⟩ := h
  · omega
  · cases hv
    refine ⟨g, rfl, rfl, hp, ?_⟩
    subst hn
    rw [cellsAt_row hh _ _ (by omega)]
    congr 1
    apply Array.ext'
    rw [Array.toList_extract]
    have he := ents_at l k hk
    rw [← h6] at he
    rw [List.drop_take, List.take_take, show min 6 (l.length * 6 - k * 6) = 6 by omega] at he
    rw [List.extract_eq_take_drop]
    rw [show k * 6 + 6 - k * 6 = 6 by omega]
    exact he

def MapS.get (M : MapS) (b : Int) : EntS × Int := if b < 0 ∨ M.l.length ≤ b then (ent0, 13) else (M.l.getD b.toNat ent0, 0)

set_option maxHeartbeats 1000000 in
theorem mapget_calls (own : Nat → Nat) (t mb : Nat) (M : MapS) (b : Int) (w : World) (h : MapAt w own t mb M) : Calls Tryz.prog 184 #[.pointer (some ⟨mb, 0, none⟩), .int .i64 b] w fun e w' => e = .returned (.tuple #[.agg (entC (M.get b).1), .int .i64 (M.get b).2]) ∧ Keeps (fun _ => False) w w' := by
  obtain ⟨⟨lv, sv, h1⟩, h2, h3, h4⟩ := h
  obtain ⟨c0, c6, c7, hb⟩ := h1.cells
  have hn := heap_new w (.cells z_Ent 83)
  have e2 := cellsFree_full (n := 6) hn rfl
  have HN := hid hn
  have hrow := h1.row
  clear h1 h2 h3 h4 c0 c7 hn
  obtain ⟨a, cap, rfl⟩ := hrow.slice
  have fin : ∀ E : Array Value, E.size = 6 → (putCells (w.alloc (.cells z_Ent 83)) ⟨w.heap.size, 0, none⟩ E).heap[w.heap.size]? = some (.cells E 83 (0, 0)) ∧ Keeps (fun _ => False) w (putCells (w.alloc (.cells z_Ent 83)) ⟨w.heap.size, 0, none⟩ E) := fun E hE =>
    ⟨putCells_at HN.out (by rw [hE]; rfl), keeps_put0 (by repeat (first | exact Keeps.refl _ _ | refine Keeps.alloc ?_ _ | refine Keeps.drew ?_ | refine Keeps.drewN ?_ _ | refine Keeps.trans ?_ (by assumption))) (fun h => absurd h (Nat.lt_irrefl _)) _⟩
  have FIN := hid fin
  clear fin
  by_cases k1 : b < 0
  · have d1 : decide (b < 0) = true := by simpa using k1
    have hr : M.get b = (ent0, 13) := by unfold MapS.get; rw [if_pos (.inl k1)]
    rw [hr]
    clear k1 hrow hr
    go_enter Tryz.func184, Tryz.ntmps184
    go_wp2_with fail
    refine bodyPost_ret (results_cell2 rfl row_Ent _ rfl (cellsAt_full (FIN.out _ rfl).1 rfl)) rfl ⟨rfl, (FIN.out _ rfl).2⟩
  · have d1 : decide (b < 0) = false := by simpa using k1
    obtain ⟨k, rfl⟩ : ∃ k : Nat, b = k := ⟨b.toNat, by omega⟩
    by_cases k2 : k < M.l.length
    · have d2 : decide (M.l.length ≤ k) = false := by simpa using k2
      have d3 : decide (k < M.l.length) = true := by simpa using k2
      have hr : M.get k = (M.l[k], 0) := by unfold MapS.get; rw [if_neg (by omega)]; simp [k2]
      obtain ⟨g, rfl, -, -, hc⟩ := ent_at hrow rfl k k2
      have hg : g < w.heap.size := by
        unfold cellsAt at hc
        cases hx : w.heap[g]? with
        | none => simp [hx] at hc
        | some o => exact lt_of hx
      rw [hr]
      have e3 : allOne (entC M.l[k]) = true := rfl
      have e4 : (entC M.l[k]).size = 6 := rfl
      simp only []
      generalize entC M.l[k] = E at *
      clear k1 hrow hr
      go_enter Tryz.func184, Tryz.ntmps184
      go_wp2_with fail
      refine bodyPost_ret (results_cell2 rfl row_Ent _ rfl (cellsAt_full (FIN.out _ e4).1 e4)) rfl ⟨rfl, (FIN.out _ e4).2⟩
    · have d2 : decide (M.l.length ≤ k) = true := by simpa using k2
      have hr : M.get k = (ent0, 13) := by unfold MapS.get; rw [if_pos (.inr (by omega))]
      rw [hr]
      clear k1 k2 hrow hr
      go_enter Tryz.func184, Tryz.ntmps184
      go_wp2_with fail
      refine bodyPost_ret (results_cell2 rfl row_Ent _ rfl (cellsAt_full (FIN.out _ rfl).1 rfl)) rfl ⟨rfl, (FIN.out _ rfl).2⟩
end Go.Rv

/- Maps of blocks: all entries, handed over one by one. -/
namespace Go.Rv
open Go Go.RowKit Go.Proofs
attribute [local go_sem ↓] ld_Geom st_Geom al_Geom ld_Ent st_Ent al_Ent
attribute [local go_sem] cellsAt_new0 cellsAt_lt cellsAt_drew size_bytesV

theorem ent_cells {w : World} {g o : Nat} {e : EntS} (h : cellsAt w ⟨g, o, none⟩ 6 = some (entC e)) : g < w.heap.size ∧ w.cell? ⟨g, o, none⟩ = some (.int .i64 e.state) ∧ w.cell? ⟨g, o + 1, none⟩ = some (.int .i64 e.zone) ∧ w.cell? ⟨g, o + 2, none⟩ = some (.int .i64 e.mate) ∧ w.cell? ⟨g, o + 3, none⟩ = some (.int .i64 e.off) ∧ w.cell? ⟨g, o + 4, none⟩ = some (.int .i64 e.seq) ∧ w.cell? ⟨g, o + 5, none⟩ = some (.int .i64 e.sum) := by
  obtain ⟨_, hc⟩ := cellsAt_cell h
  have h0 := hc 0 _ rfl
  have h1 := hc 1 _ rfl
  have h2 := hc 2 _ rfl
  have h3 := hc 3 _ rfl
  have h4 := hc 4 _ rfl
  have h5 := hc 5 _ rfl
  rw [add_off] at h0 h1 h2 h3 h4 h5
  exact ⟨cell_lt h0, h0, h1, h2, h3, h4, h5⟩

theorem entSlAll_calls (a : Option Addr) (n c : Nat) (w : World) : Calls Tryz.prog 160 #[.slice a n c] w fun e w' => e = .returned (.func (.func 201) #[] #[.pointer (some ⟨w.heap.size, 0, none⟩)]) ∧ w' = w.alloc (.cells #[.slice a n c] 95) := by
  go_enter Tryz.func160, Tryz.ntmps160
  go_wp2
  go_ret
  exact ⟨rfl, rfl⟩

theorem mapAll_calls (own : Nat → Nat) (t mb : Nat) (M : MapS) (lv sv : Value) (w : World) (h : MapHead w own t mb M lv sv) : Calls Tryz.prog 115 #[.pointer (some ⟨mb, 0, none⟩)] w fun e w' => e = .returned (.func (.func 201) #[] #[.pointer (some ⟨w.heap.size, 0, none⟩)]) ∧ w' = w.alloc (.cells #[lv] 95) := by
  obtain ⟨a, cap, rfl⟩ := h.row.slice
  obtain ⟨c0, c6, c7, hb⟩ := h.cells
  clear h c0 c7
  go_enter Tryz.func115, Tryz.ntmps115
  go_wp2_with fail
  refine Calls.mono (entSlAll_calls _ _ _ _) ?_
  rintro e w1 ⟨rfl, rfl⟩
  go_wp2_with fail
  go_ret
  exact ⟨rfl, rfl⟩

def entRows (l : List EntS) : List (Array Value) := l.mapIdx fun i x => #[.int .i64 (i : Int), .agg (entC x)]

structure EIter (P : Nat → Prop) (l : List EntS) (J : Inv) (w : World) (v : Value) (i : Value) (wr : World) : Prop where
  ex : ∃ (k : Nat) (D : Nat → Prop), i = .int .i64 (k : Int) ∧ k ≤ l.length ∧ J k D wr ∧ w.heap.size ≤ wr.heap.size ∧ RowAt wr (fun k => P k ∧ k < w.heap.size) 83 6 v l.length (l.flatMap entL)

set_option maxHeartbeats 1000000 in
set_option maxRecDepth 100000 in
theorem entAll_iter (P : Nat → Prop) (bx : Nat) (sv : Value) (l : List EntS) (Bd : Nat → Prop) (w : World) (hrow : RowAt w P 83 6 sv l.length (l.flatMap entL)) (hbx : w.cell? ⟨bx, 0, none⟩ = some sv) (hB : ∀ b, Bd b → b < w.heap.size ∧ ¬ P b) (hl : l.length ≤ 1000) :
    Iter Tryz.prog 201 #[.pointer (some ⟨bx, 0, none⟩)] (entRows l) (fun _ => False) Bd (fun _ => True) w := by
  intro lp J Jx hJ hJx hJD hY hrec h0
  have hrow' : RowAt w (fun k => P k ∧ k < w.heap.size) 83 6 sv l.length (l.flatMap entL) := hrow.imp fun k hk hp => ⟨hp, hk⟩
  obtain ⟨a3, cap3, rfl⟩ := hrow.slice
  have HR := hid hrow'
  clear hrow hrow'
  refine callsIn_of_wp Tryz.func201 rfl trivial ?_ rfl
  simp only [Tryz.ntmps201, List.size_toArray, List.length_cons, List.length_nil, Nat.reduceAdd, Nat.reduceSub, Array.replicate_succ, Array.replicate_zero, List.push_toArray, List.append_toArray, List.nil_append, List.cons_append]
  gi_wp2_with fail
  gi_loopw [7] (fun i wr => EIter P l J w (.slice a3 l.length cap3) i wr) (fun i _ => l.length - (intOf i).toNat)
  case atStart => exact ⟨0, fun _ => False, rfl, Nat.zero_le _, h0, Nat.le_refl _, HR.out⟩
  case round =>
    obtain ⟨k, D, rfl, hkl, hj, hsz, hrw⟩ := hrel
    by_cases hlt : k < l.length
    · have hlt' : decide (k < l.length) = true := by simpa using hlt
      obtain ⟨g, rfl, -, hPg, hc⟩ := ent_at hrw rfl k hlt
      obtain ⟨hg, q0, q1, q2, q3, q4, q5⟩ := ent_cells hc
      have hk2 : Keeps (fun _ => False) wr (wr.alloc (.cells (entC l[k]) 83)) := (by repeat (first | exact Keeps.refl _ _ | refine Keeps.alloc ?_ _ | refine Keeps.drew ?_ | refine Keeps.drewN ?_ _ | refine Keeps.trans ?_ (by assumption)))
      have hj2 := hJ k D _ _ hj (IterStep.of_keeps hk2 fun _ _ h => h)
      obtain ⟨fn, tmps, assign, body, hy, hR⟩ := hY k D (wr.alloc (.cells (entC l[k]) 83)) #[.int .i64 (k : Int), .agg (entC l[k])] (by simp [entRows, hlt]) hj2 (Nat.le_trans hsz hk2.size)
      have hD := hJD _ _ _ hj
      have hrw2 := hrw.keeps hk2 fun _ _ => id
      have hszx : w.heap.size ≤ (wr.alloc (.cells (entC l[k]) 83)).heap.size := Nat.le_trans hsz hk2.size
      have HRW := hid (And.intro hrw2 (And.intro hD hszx))
      clear hrw hj hj2 hk2 hc hrw2 hD hszx
      unfold entC at hy hR
      gi_wp2_with fail
      refine hR.mono ?_
      rintro e W3 (⟨rfl, D', hJ3, hg3⟩ | ⟨rfl, hJx3, hk3⟩)
      · have hrow3 := HRW.out.1.keeps hg3.keeps (fun b hb h => h.elim (fun h => (hB b h).2 hb.1) fun h => by have := HRW.out.2.1 b h; omega)
        have hs3 := hg3.keeps.size
        have R3 := hid (And.intro hrow3 (And.intro hJ3 hs3))
        clear hrow3 hJ3 hs3 hg3
        gi_wp2
        go_roundw
        case rel => exact ⟨k + 1, D', by go_num, hlt, R3.out.2.1, by have := R3.out.2.2; have := HRW.out.2.2; exact Nat.le_trans this ‹_›, R3.out.1⟩
        case measure => simp [intOf]; omega
      · have X3 := hid hJx3
        clear hJx3 hk3
        gi_wp2
        refine bodyPost_ret (results_none rfl _ _ _) rfl ?_
        exact ⟨⟨_, rfl⟩, trivial, .inr X3.out⟩
    · have hlt' : decide (k < l.length) = false := by simpa using hlt
      have hkl2 : k = l.length := by omega
      have F3 := hid (And.intro hkl2 hj)
      clear hkl2 hj hlt hrw
      gi_wp2
      go_end0
      obtain ⟨h1, h2⟩ := F3.out
      exact ⟨⟨_, rfl⟩, trivial, .inl ⟨D, by rw [show (entRows l).length = l.length by simp [entRows], ← h1]; exact h2⟩⟩
end Go.Rv
