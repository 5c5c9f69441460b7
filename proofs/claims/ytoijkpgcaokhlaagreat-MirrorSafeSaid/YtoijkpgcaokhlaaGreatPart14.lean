/- Snapshots: the bodies of the other frames. -/
import Derived.Test.YtoijkpgcaokhlaaGreatPart13
set_option linter.unusedVariables false
set_option linter.unusedSimpArgs false
namespace Go.Rv
open Go Go.RowKit Go.Proofs
attribute [local irreducible] wpQuiet
attribute [local go_sem ↓] ld_Body st_Body al_Body ld_Geom st_Geom al_Geom ld_Ent st_Ent al_Ent
attribute [local go_sem] cellsAt_new0 cellsAt_lt cellsAt_drew size_bytesV

def partTo (M : MapS) (i : Int) : Nat → List UInt8
  | 0 => leB 1 i
  | k + 1 => partTo M i k ++ entB (M.get (2 * (i - 1) + k)).1
def partB (M : MapS) (i : Int) : List UInt8 := partTo M i 2
theorem partTo_len (M : MapS) (i : Int) : ∀ k, (partTo M i k).length = 1 + k * 16
  | 0 => by simp [partTo, leB_len]
  | k + 1 => by simp [partTo, partTo_len M i k, entB_len]; omega
theorem partB_len (M : MapS) (i : Int) : (partB M i).length = 33 := by unfold partB; rw [partTo_len]
theorem MapS.get_fits (M : MapS) (h : ∀ e, e ∈ M.l → e.Fits) (b : Int) : (M.get b).1.Fits := by
  unfold MapS.get
  split
  · exact ent0_fits
  · rename_i hb
    have : b.toNat < M.l.length := by omega
    simp only [List.getD_eq_getElem?_getD, List.getElem?_eq_getElem this, Option.getD_some]
    exact h _ (List.getElem_mem _)
theorem PenBy.still {w0 : World} {pb : Nat} {l : List UInt8} {w w' : World} (h : PenBy w0 pb l w) (hk : Keeps (fun _ => False) w w') : PenBy w0 pb l w' :=
  ⟨h.pen.keeps hk fun _ _ => id, h.step.trans (PenStep.still hk)⟩

set_option maxHeartbeats 1000000 in
set_option maxRecDepth 100000 in
theorem spart_calls (own : Nat → Nat) (t : Nat) (s : SnapS) (M : MapS) (i : Int) (w : World) (h : MapAt w own t s.mb M) (hf : ∀ e, e ∈ M.l → e.Fits) (hi : 1 ≤ i ∧ i ≤ 200) : Calls Tryz.prog 158 #[.agg (snapC s), .int .i64 i] w fun r w' => r = .returned (.agg (bytesV (pad44 (partB M i)))) ∧ Keeps (fun _ => False) w w' := by
  have H := hid h
  have HF := hid hf
  have hk2 : Keeps (fun _ => False) w ((w.alloc (.cells (snapC s) 60)).alloc (.cells z_Body 118)) := (by repeat (first | exact Keeps.refl _ _ | refine Keeps.alloc ?_ _ | refine Keeps.drew ?_ | refine Keeps.drewN ?_ _ | refine Keeps.trans ?_ (by assumption)))
  have hb0 := heap_old (w.alloc (.cells (snapC s) 60)) (.cells z_Body 118) (heap_new w (.cells (snapC s) 60))
  have hb1 := heap_new (w.alloc (.cells (snapC s) 60)) (.cells z_Body 118)
  rw [World.size_alloc] at hb1
  obtain ⟨w2, hw2⟩ : ∃ w2, (w.alloc (.cells (snapC s) 60)).alloc (.cells z_Body 118) = w2 := ⟨_, rfl⟩
  rw [hw2] at hk2 hb0 hb1
  obtain ⟨w4, hw4⟩ : ∃ w4, w2.alloc (.cells #[.slice none 0 0, .bool false] 278) = w4 := ⟨_, rfl⟩
  have hk4 : Keeps (fun _ => False) w2 w4 := by rw [← hw4]; exact (by repeat (first | exact Keeps.refl _ _ | refine Keeps.alloc ?_ _ | refine Keeps.drew ?_ | refine Keeps.drewN ?_ _ | refine Keeps.trans ?_ (by assumption)))
  have HP0 : Hid (PenBy w4 w2.heap.size [] w4) := hid ⟨by rw [← hw4]; exact PenAt.new w2, PenStep.refl _ _⟩
  have HY := hid (And.intro (hk4.heap hb0 id) (And.intro (hk4.heap hb1 id) (And.intro (hk2.trans hk4) hk2)))
  clear h hf hk2 hb0 hb1 hk4
  unfold snapC at hw2 ⊢
  go_enter Tryz.func158, Tryz.ntmps158
  go_wp2_with fail
  refine Calls.mono (HP0.out.num 1 1 i rfl (by omega) (by simp) (penOk1 _ (by omega) (by omega))) ?_
  rintro r w5 ⟨rfl, hp⟩
  have HP1 : Hid (PenBy w4 w2.heap.size (partTo M i 0) w5) := hid hp
  clear hp hw2 hw4
  go_wp2_with fail
  go_loopg [14] 2 (fun (gk : Nat) (x : Value) (wr : World) => ∃ d : Nat, d + gk = 2 ∧ x = .int .i64 d ∧ PenBy w4 w2.heap.size (partTo M i d) wr)
  case atStart => exact ⟨0, by omega, rfl, HP1.out⟩
  case round =>
    obtain ⟨d, hd, rfl, hp⟩ := hrel
    have HP := hid hp
    have c3 := hp.cell HY.out.1 (by decide) (by decide) 3
    simp [snapC] at c3
    clear hp
    by_cases c : d < 2
    · have dd : decide ((d : Int) < 2) = true := by simp; omega
      have hix : 0 ≤ 2 * (i - 1) + (d : Int) ∧ 2 * (i - 1) + (d : Int) ≤ 1000 := by omega
      have hix2 : 0 ≤ 2 * (i - 1) ∧ 2 * (i - 1) ≤ 1000 := by omega
      have hix3 : 0 ≤ i - 1 ∧ i - 1 ≤ 1000 := by omega
      obtain ⟨hx1, hx2⟩ := hix
      obtain ⟨hx3, hx4⟩ := hix2
      obtain ⟨hx5, hx6⟩ := hix3
      go_wp2_with fail
      have hmap : MapAt wr own t s.mb M := by
        obtain ⟨⟨lv, sv, h1⟩, h2, h3, h4⟩ := H.out.still HY.out.2.2.1
        have hst := HP.out.step
        have hsz := HY.out.2.2.2.size
        have hlt := lt_of (H.out.ex.choose_spec.choose_spec.heap)
        have kr : ∀ {e : TypeId} {size : Nat} {v : Value} {n : Nat} {xs : List Value}, RowAt w (fun k => own k = t) e size v n xs → RowAt wr (fun k => own k = t) e size v n xs := fun hr => by
          have a1 := (hr.imp (Q := fun k => own k = t ∧ k < w.heap.size) fun k hk hp => ⟨hp, hk⟩).keeps HY.out.2.2.1 fun _ _ => id
          exact (a1.keeps hst.keeps fun k hk h => by omega).imp fun k _ h => h.1
        obtain ⟨⟨lv', sv', g1⟩, -, -, -⟩ := H.out
        have e1 := g1.heap
        have e2 := hst.heap (HY.out.2.2.1.heap e1 id) (by decide) (by decide)
        exact ⟨⟨lv', sv', g1.mine, e2, kr g1.row, kr g1.live⟩, h2, h3, h4⟩
      refine Calls.mono (mapget_calls own t s.mb M _ _ hmap) ?_
      rintro r w6 ⟨rfl, hk6⟩
      have HG := hid (HP.out.still hk6)
      have HE := hid (M.get_fits HF.out (2 * (i - 1) + d))
      have HQ := hid (show partTo M i (d + 1) = partTo M i d ++ entB (M.get (2 * (i - 1) + d)).1 from rfl)
      generalize (M.get (2 * (i - 1) + d)).1 = e at *
      generalize (M.get (2 * (i - 1) + d)).2 = ee at *
      have hn1 := heap_new w6 (.cells z_Ent 83)
      have e2 := cellsFree_full (n := 6) hn1 rfl
      have e3 : allOne (entC e) = true := rfl
      have e4 : (entC e).size = 6 := rfl
      have hn2 := putCells_at hn1 (show z_Ent.size = (entC e).size from rfl)
      have e5 := cellsAt_full (n := 6) hn2 rfl
      have hkp : Keeps (fun _ => False) w6 (putCells (w6.alloc (.cells z_Ent 83)) ⟨w6.heap.size, 0, none⟩ (entC e)) := keeps_put0 (by repeat (first | exact Keeps.refl _ _ | refine Keeps.alloc ?_ _ | refine Keeps.drew ?_ | refine Keeps.drewN ?_ _ | refine Keeps.trans ?_ (by assumption))) (fun h => absurd h (Nat.lt_irrefl _)) _
      have HK := hid (HG.out.still hkp)
      clear hk6 hn1 hn2 hkp hmap c3
      generalize hE : entC e = E at *
      have HEE := hid hE
      clear hE
      go_wp2_with fail
      rw [← HEE.out]
      refine Calls.mono (sput_calls _ _ e HE.out _ (HEE.out ▸ HK.out.pen) (by rw [partTo_len]; omega)) ?_
      rintro r w7 ⟨rfl, hp7, hs7⟩
      have HL := hid (show PenBy w4 w2.heap.size (partTo M i (d + 1)) w7 from ⟨by rw [HQ.out]; exact hp7, by have := HK.out.step; rw [← HEE.out] at this; exact this.trans hs7⟩)
      clear hp7 hs7
      go_wp2_with fail
      go_roundg (gk - 1)
      case measure => omega
      case rel => exact ⟨d + 1, by omega, by go_num, HL.out⟩
    · have dd : decide ((d : Int) < 2) = false := by simp; omega
      have hd2 : d = 2 := by omega
      subst hd2
      clear c3
      go_wp2_with fail
      refine Calls.mono (sbody_calls _ (partB M i) _ HP.out.pen (by rw [partB_len]; omega) (by rw [partB_len]; omega)) ?_
      rintro r w12 ⟨rfl, hk⟩
      have hb := hk.heap (HP.out.step.heap HY.out.2.1 (by decide) (by decide)) id
      have e5 := cellsFree_full (n := 44) hb rfl
      have e6 := allOne_bytes (pad44 (partB M i))
      have e7 : (bytesV (pad44 (partB M i))).size = 44 := by simp [bytesV, pad44_len _ (show (partB M i).length ≤ 44 by rw [partB_len]; omega)]
      have HZ := hid (And.intro hb hk)
      clear hb hk
      go_wp2_with fail
      refine bodyPost_ret (results_cell1 rfl row_Body _ rfl (cellsAt_full (putCells_at HZ.out.1 (by rw [e7]; rfl)) e7)) rfl ⟨rfl, ?_⟩
      have a1 : Keeps (fun k => w2.heap.size ≤ k) w wr := (HY.out.2.2.1.mono fun _ _ h => h.elim).trans HP.out.step.keeps
      have a2 : Keeps (fun _ => False) w wr := a1.mono fun i hi h => by have := HY.out.2.2.2.size; omega
      exact keeps_put0 (a2.trans HZ.out.2) (fun h => absurd h (by omega)) _
end Go.Rv

/- Frames that are built out of their parts. -/
namespace Go.Rv
open Go Go.RowKit Go.Proofs

theorem fold_get (B base : Array Value) (off i : Nat) (h : off + B.size ≤ base.size) : (B.zipIdx.foldl (fun cs (x, j) => cs.setIfInBounds (off + j) x) base)[i]? = if off ≤ i ∧ i < off + B.size then B[i - off]? else base[i]? := by
  have hf := foldl_set B.zipIdx.toList base off i (fun p hp => by
      have hp' : p ∈ B.zipIdx := Array.mem_toList_iff.1 hp
      have := Array.mem_zipIdx hp'
      omega) (by
      rw [List.pairwise_iff_getElem]
      intro i j hi hj hij
      simp
      omega)
  rw [← Array.foldl_toList]
  refine hf.trans ?_
  by_cases hi : off ≤ i ∧ i < off + B.size
  · rw [if_pos hi]
    have : B.zipIdx.toList.find? (fun p => off + p.2 == i) = some (B[i - off], i - off) := by
      rw [List.find?_eq_some_iff_getElem]
      refine ⟨by simp; omega, i - off, by simp; omega, by simp, ?_⟩
      intro j hj
      simp
      omega
    rw [this]
    simp [show i - off < B.size by omega]
  · rw [if_neg hi]
    have : B.zipIdx.toList.find? (fun p => off + p.2 == i) = none := by
      rw [List.find?_eq_none]
      intro p hp
      have hp' : p ∈ B.zipIdx := Array.mem_toList_iff.1 hp
      have := Array.mem_zipIdx hp'
      simp
      omega
    rw [this]
    simp

theorem frmC_eq (F : FrmS) : frmC F = #[.int .i64 F.kind, .int .i64 F.zone, .int .i64 F.off, .int .i64 F.epoch, .int .i64 F.seq] ++ bytesV F.body := by simp [frmC, bytesV]

theorem fill_last (place : Nat → Option (Nat × Nat)) (base B : Array Value) (h5 : place 5 = some (5, 44)) (hB : B.size = 44) (hb : base.size = 49) (pre : Array Value) (hp : pre.size = 5) (hpre : ∀ i, i < 5 → base[i]? = pre[i]?) : Instr.fill place base [(5, .agg B)] = some (pre ++ B) := by
  have hc : (Value.agg B).cells = B := rfl
  unfold Instr.fill
  rw [h5]
  simp only [hc, hB, hb, Instr.fill]
  rw [if_neg (by simp)]
  congr 1
  apply Array.ext_getElem?
  intro i
  have := fold_get B base 5 i (by omega)
  rw [this]
  by_cases hi : i < 5
  · rw [if_neg (by omega), hpre i hi, Array.getElem?_append_left (by omega)]
  · by_cases hi2 : i < 49
    · rw [if_pos (by omega), Array.getElem?_append_right (by omega), hp]
    · rw [if_neg (by omega), Array.getElem?_eq_none (by omega), Array.getElem?_eq_none (by simp; omega)]

theorem z_frm : z_Frame = #[.int .i64 0, .int .i64 0, .int .i64 0, .int .i64 0, .int .i64 0] ++ (List.replicate 44 (Value.int .u8 0)).toArray := by kernel_rfl

theorem fill_int (place : Nat → Option (Nat × Nat)) (base : Array Value) (i off : Nat) (n : Int) (rest : List (Nat × Value)) (hp : place i = some (off, 1)) (hb : off + 1 ≤ base.size) : Instr.fill place base ((i, .int .i64 n) :: rest) = Instr.fill place (base.setIfInBounds off (.int .i64 n)) rest := by
  have hc : (Value.int .i64 n).cells = #[.int .i64 n] := rfl
  conv => lhs; unfold Instr.fill
  rw [hp]
  simp only [hc]
  rw [if_neg (by simp; omega)]
  simp

theorem z_frm_get : ∀ i, i < 5 → z_Frame[i]? = some (.int .i64 0) := by
  intro i hi
  have hc : i = 0 ∨ i = 1 ∨ i = 2 ∨ i = 3 ∨ i = 4 := by omega
  rcases hc with rfl | rfl | rfl | rfl | rfl <;> rfl

theorem build_frm4 (k z e q : Int) (B : Array Value) (hB : B.size = 44) (w : World) : (Instr.build 120 #[(0, .int .i64 k), (1, .int .i64 z), (3, .int .i64 e), (4, .int .i64 q), (5, .agg B)]).run Tryz.prog w = .ok (.agg (#[.int .i64 k, .int .i64 z, .int .i64 0, .int .i64 e, .int .i64 q] ++ B)) w := by
  obtain ⟨i0, hi, hz0, hz1, hz2⟩ := info_parts info_Frame
  have hzv : (zeroValue 120).run Tryz.prog w = .ok (.agg z_Frame) w := by simp [zeroValue, typeInfo, hi, hz0]
  have hu := run_underlying Tryz.underlying120 w
  unfold Instr.build
  simp only [Sem.run_bind, hzv, hu, Result.andThen_ok]
  refine (congrArg (fun r => Result.andThen r _) (show _ = Result.ok #[(0, 1), (1, 1), (2, 1), (3, 1), (4, 1), (5, 44)] w from by kernel_rfl)).trans ?_
  have hz : (Value.agg z_Frame).cells = z_Frame := rfl
  have hf : Instr.fill (fun x => (#[(0, 1), (1, 1), (2, 1), (3, 1), (4, 1), (5, 44)] : Array (Nat × Nat))[x]?) z_Frame [(0, .int .i64 k), (1, .int .i64 z), (3, .int .i64 e), (4, .int .i64 q), (5, .agg B)] = some (#[.int .i64 k, .int .i64 z, .int .i64 0, .int .i64 e, .int .i64 q] ++ B) := by
    rw [fill_int _ _ 0 0 k _ rfl (by rw [size_z_Frame]; omega), fill_int _ _ 1 1 z _ rfl (by simp [size_z_Frame]), fill_int _ _ 3 3 e _ rfl (by simp [size_z_Frame]), fill_int _ _ 4 4 q _ rfl (by simp [size_z_Frame])]
    refine fill_last _ _ _ rfl hB (by simp [size_z_Frame]) #[.int .i64 k, .int .i64 z, .int .i64 0, .int .i64 e, .int .i64 q] rfl fun i hi => ?_
    have hc : i = 0 ∨ i = 1 ∨ i = 2 ∨ i = 3 ∨ i = 4 := by omega
    have hzg := z_frm_get 2 (by omega)
    rcases hc with rfl | rfl | rfl | rfl | rfl
    · simp [size_z_Frame]
    · simp [size_z_Frame]
    · simp [size_z_Frame]; exact (Array.getElem?_eq_some_iff.1 hzg).2
    · simp [size_z_Frame]
    · simp [size_z_Frame]
  simp only [Result.andThen_ok, hz, hf]
  rfl
theorem build_frm6 (k z o e q : Int) (B : Array Value) (hB : B.size = 44) (w : World) : (Instr.build 120 #[(0, .int .i64 k), (1, .int .i64 z), (2, .int .i64 o), (3, .int .i64 e), (4, .int .i64 q), (5, .agg B)]).run Tryz.prog w = .ok (.agg (#[.int .i64 k, .int .i64 z, .int .i64 o, .int .i64 e, .int .i64 q] ++ B)) w := by
  obtain ⟨i0, hi, hz0, hz1, hz2⟩ := info_parts info_Frame
  have hzv : (zeroValue 120).run Tryz.prog w = .ok (.agg z_Frame) w := by simp [zeroValue, typeInfo, hi, hz0]
  have hu := run_underlying Tryz.underlying120 w
  unfold Instr.build
  simp only [Sem.run_bind, hzv, hu, Result.andThen_ok]
  refine (congrArg (fun r => Result.andThen r _) (show _ = Result.ok #[(0, 1), (1, 1), (2, 1), (3, 1), (4, 1), (5, 44)] w from by kernel_rfl)).trans ?_
  have hz : (Value.agg z_Frame).cells = z_Frame := rfl
  have hf : Instr.fill (fun x => (#[(0, 1), (1, 1), (2, 1), (3, 1), (4, 1), (5, 44)] : Array (Nat × Nat))[x]?) z_Frame [(0, .int .i64 k), (1, .int .i64 z), (2, .int .i64 o), (3, .int .i64 e), (4, .int .i64 q), (5, .agg B)] = some (#[.int .i64 k, .int .i64 z, .int .i64 o, .int .i64 e, .int .i64 q] ++ B) := by
    rw [fill_int _ _ 0 0 k _ rfl (by rw [size_z_Frame]; omega), fill_int _ _ 1 1 z _ rfl (by simp [size_z_Frame]), fill_int _ _ 2 2 o _ rfl (by simp [size_z_Frame]), fill_int _ _ 3 3 e _ rfl (by simp [size_z_Frame]), fill_int _ _ 4 4 q _ rfl (by simp [size_z_Frame])]
    refine fill_last _ _ _ rfl hB (by simp [size_z_Frame]) #[.int .i64 k, .int .i64 z, .int .i64 o, .int .i64 e, .int .i64 q] rfl fun i hi => ?_
    have hc : i = 0 ∨ i = 1 ∨ i = 2 ∨ i = 3 ∨ i = 4 := by omega
    rcases hc with rfl | rfl | rfl | rfl | rfl <;> simp [size_z_Frame]
  simp only [Result.andThen_ok, hz, hf]
  rfl

/-- a frame's cells, out of its parts'. -/
def mkFrm (k z o e q : Int) (B : Array Value) : Array Value := #[.int .i64 k, .int .i64 z, .int .i64 o, .int .i64 e, .int .i64 q] ++ B
theorem mkFrm_eq (F : FrmS) : mkFrm F.kind F.zone F.off F.epoch F.seq (bytesV F.body) = frmC F := (frmC_eq F).symm

theorem bd_Frame4 (f : Operand → Value) (x0 x1 x3 x4 x5 : Operand) (d : Option Tmp) (t : TypeId) (pos : String) (af : Array Edge) (g : Option (Nat × Bool)) (w : World) :
    (execOp f ⟨d, .build 120 #[(0, x0), (1, x1), (3, x3), (4, x4), (5, x5)], t, pos, af, g⟩).run Tryz.prog w = match f x0, f x1, f x3, f x4, f x5 with
      | .int .i64 k, .int .i64 z, .int .i64 e, .int .i64 q, .agg B => if B.size = 44 then .ok (.value (.agg (mkFrm k z 0 e q B))) w else stuckOp Tryz.prog f ⟨d, .build 120 #[(0, x0), (1, x1), (3, x3), (4, x4), (5, x5)], t, pos, af, g⟩ w
      | _, _, _, _, _ => stuckOp Tryz.prog f ⟨d, .build 120 #[(0, x0), (1, x1), (3, x3), (4, x4), (5, x5)], t, pos, af, g⟩ w := by
  split
  · rename_i k z e q B h0 h1 h3 h4 h5
    split
    · rename_i hB
      have := build_frm4 k z e q B hB w
      simp [execOp, h0, h1, h3, h4, h5, this, mkFrm]
    · rfl
  · rfl
theorem bd_Frame6 (f : Operand → Value) (x0 x1 x2 x3 x4 x5 : Operand) (d : Option Tmp) (t : TypeId) (pos : String) (af : Array Edge) (g : Option (Nat × Bool)) (w : World) :
    (execOp f ⟨d, .build 120 #[(0, x0), (1, x1), (2, x2), (3, x3), (4, x4), (5, x5)], t, pos, af, g⟩).run Tryz.prog w = match f x0, f x1, f x2, f x3, f x4, f x5 with
      | .int .i64 k, .int .i64 z, .int .i64 o, .int .i64 e, .int .i64 q, .agg B => if B.size = 44 then .ok (.value (.agg (mkFrm k z o e q B))) w else stuckOp Tryz.prog f ⟨d, .build 120 #[(0, x0), (1, x1), (2, x2), (3, x3), (4, x4), (5, x5)], t, pos, af, g⟩ w
      | _, _, _, _, _, _ => stuckOp Tryz.prog f ⟨d, .build 120 #[(0, x0), (1, x1), (2, x2), (3, x3), (4, x4), (5, x5)], t, pos, af, g⟩ w := by
  split
  · rename_i k z o e q B h0 h1 h2 h3 h4 h5
    split
    · rename_i hB
      have := build_frm6 k z o e q B hB w
      simp [execOp, h0, h1, h2, h3, h4, h5, this, mkFrm]
    · rfl
  · rfl
end Go.Rv

/- Snapshots: their frames. -/
namespace Go.Rv
open Go Go.RowKit Go.Proofs
attribute [local irreducible] wpQuiet
attribute [local go_sem ↓] ld_Body st_Body al_Body ld_Geom st_Geom al_Geom ld_Ent st_Ent al_Ent ld_Frame st_Frame al_Frame bs_Frame bd_Frame4
attribute [local go_sem] cellsAt_new0 cellsAt_lt cellsAt_drew size_bytesV

theorem frm_oneCell (F : FrmS) : ∀ u ∈ (frmC F).toList, u.oneCell' = true := by
  intro u hu
  simp only [frmC, List.mem_cons] at hu
  rcases hu with rfl | rfl | rfl | rfl | rfl | hu
  · rfl
  · rfl
  · rfl
  · rfl
  · rfl
  · obtain ⟨b, _, rfl⟩ := List.mem_map.1 hu; rfl
theorem frm_one (F : FrmS) : allOne (frmC F) = true := by
  simp only [allOne, frmC, List.all_cons, one1, Bool.true_and]
  rw [List.all_eq_true]
  intro v hv
  obtain ⟨b, _, rfl⟩ := List.mem_map.1 hv
  rfl
def frmL (F : FrmS) : List Value := (frmC F).toList
def snapF (s : SnapS) (M : MapS) (zone : Int) : Nat → FrmS
  | 0 => ⟨4, zone, 0, s.epoch, s.gen, pad44 (headB s M.g)⟩
  | k + 1 => ⟨5, zone, k + 1, s.epoch, s.gen, pad44 (partB M (k + 1))⟩
theorem snapF0_eq (s : SnapS) (M : MapS) (zone : Int) : mkFrm 4 zone 0 s.epoch s.gen (bytesV (pad44 (headB s M.g))) = frmC (snapF s M zone 0) := by
  rw [← mkFrm_eq (snapF s M zone 0)]
  simp only [snapF]
theorem snapF_body (s : SnapS) (M : MapS) (zone : Int) : ∀ k, (snapF s M zone k).body.length = 44
  | 0 => pad44_len _ (by rw [headB_len]; omega)
  | k + 1 => pad44_len _ (by rw [partB_len]; omega)
/-- a snapshot's first n frames. -/
def snapFs (s : SnapS) (M : MapS) (zone : Int) (n : Nat) : List FrmS := (List.range n).map (snapF s M zone)
theorem snapFs_succ (s : SnapS) (M : MapS) (zone : Int) (n : Nat) : snapFs s M zone (n + 1) = snapFs s M zone n ++ [snapF s M zone n] := by simp [snapFs, List.range_succ]

theorem cellsFree_new0 (w : World) (c : Array Value) (e : TypeId) (n : Nat) (h : c.size = n) : cellsFree (w.alloc (.cells c e)) ⟨w.heap.size, 0, none⟩ n = true := cellsFree_full (heap_new _ _) h
theorem frm_turn (F : FrmS) (k o : Int) (B : List UInt8) (h : F.body.length = 44) (hB : B.length = 44) : splice (((frmC F).setIfInBounds 0 (.int .i64 k)).setIfInBounds 2 (.int .i64 o)) 5 (bytesV B) = frmC ⟨k, F.zone, o, F.epoch, F.seq, B⟩ := by
  obtain ⟨q, q0, q1, q2, q3, q4⟩ := frm_facts F h
  obtain ⟨p, p0, p1, p2, p3, p4⟩ := frm_facts ⟨k, F.zone, o, F.epoch, F.seq, B⟩ hB
  have hsz : (bytesV B).size = 44 := by simp [bytesV, hB]
  apply Array.ext_getElem?
  intro i
  rw [get_splice _ _ _ _ (by simp [q, hsz])]
  by_cases hi : i < 5
  · rw [if_neg (by omega)]
    have hc : i = 0 ∨ i = 1 ∨ i = 2 ∨ i = 3 ∨ i = 4 := by omega
    rcases hc with rfl | rfl | rfl | rfl | rfl
    · rw [p0, Array.getElem?_setIfInBounds_ne (by omega), Array.getElem?_setIfInBounds_self_of_lt (by omega)]
    · rw [p1, Array.getElem?_setIfInBounds_ne (by omega), Array.getElem?_setIfInBounds_ne (by omega), q1]
    · rw [p2, Array.getElem?_setIfInBounds_self_of_lt (by simp; omega)]
    · rw [p3, Array.getElem?_setIfInBounds_ne (by omega), Array.getElem?_setIfInBounds_ne (by omega), q3]
    · rw [p4, Array.getElem?_setIfInBounds_ne (by omega), Array.getElem?_setIfInBounds_ne (by omega), q4]
  · by_cases hi2 : i < 49
    · rw [if_pos (by omega)]
      have := frm_body ⟨k, F.zone, o, F.epoch, F.seq, B⟩ (i - 5) (by simp [hB]; omega)
      rw [show 5 + (i - 5) = i by omega] at this
      rw [this]
      simp [bytesV, hB, show i - 5 < 44 by omega]
    · rw [if_neg (by omega), Array.getElem?_eq_none (by simp; omega), Array.getElem?_eq_none (by omega)]
theorem putCells_get {w : World} {b o : Nat} {c cs : Array Value} {e : TypeId} {f : Nat × Nat} (h : w.heap[b]? = some (.cells c e f)) : (putCells w ⟨b, o, none⟩ cs).heap[b]? = some (.cells (splice c o cs) e f) := by
  simp [putCells, Array.getElem?_modify, h]
theorem snapF_next (s : SnapS) (M : MapS) (zone : Int) (d : Nat) (hd : 1 ≤ d) : splice (((frmC (snapF s M zone (d - 1))).setIfInBounds 0 (.int .i64 5)).setIfInBounds 2 (.int .i64 d)) 5 (bytesV (pad44 (partB M d))) = frmC (snapF s M zone d) := by
  rw [frm_turn _ _ _ _ (snapF_body _ _ _ _) (pad44_len _ (by rw [partB_len]; omega))]
  obtain ⟨k, rfl⟩ : ∃ k, d = k + 1 := ⟨d - 1, by omega⟩
  have e1 : snapF s M zone (k + 1) = ⟨5, zone, k + 1, s.epoch, s.gen, pad44 (partB M (k + 1))⟩ := rfl
  rw [e1]
  have e2 : (snapF s M zone (k + 1 - 1)).zone = zone ∧ (snapF s M zone (k + 1 - 1)).epoch = s.epoch ∧ (snapF s M zone (k + 1 - 1)).seq = s.gen := by
    rw [Nat.add_sub_cancel]; cases k <;> exact ⟨rfl, rfl, rfl⟩
  rw [e2.1, e2.2.1, e2.2.2]
  rfl
theorem snap_cells {w : World} {b : Nat} {s : SnapS} {e : TypeId} {f : Nat × Nat} (h : w.heap[b]? = some (.cells (snapC s) e f)) : w.cell? ⟨b, 0, none⟩ = some (.int .i64 s.gen) ∧ w.cell? ⟨b, 1, none⟩ = some (.int .i64 s.epoch) ∧ w.cell? ⟨b, 2, none⟩ = some (.int .i64 s.next) ∧ w.cell? ⟨b, 3, none⟩ = some (.pointer (some ⟨s.mb, 0, none⟩)) :=
  ⟨cell_of h 0, cell_of h 1, cell_of h 2, cell_of h 3⟩

theorem s4_alloc {w : World} {b : Nat} {v0 v1 v2 v3 : Value} {o : Obj} (h : w.cell? ⟨b, 0, none⟩ = some v0 ∧ w.cell? ⟨b, 1, none⟩ = some v1 ∧ w.cell? ⟨b, 2, none⟩ = some v2 ∧ w.cell? ⟨b, 3, none⟩ = some v3) :
    (w.alloc o).cell? ⟨b, 0, none⟩ = some v0 ∧ (w.alloc o).cell? ⟨b, 1, none⟩ = some v1 ∧ (w.alloc o).cell? ⟨b, 2, none⟩ = some v2 ∧ (w.alloc o).cell? ⟨b, 3, none⟩ = some v3 := by
  obtain ⟨h0, h1, h2, h3⟩ := h
  have hk : Keeps (fun _ => False) w (w.alloc o) := (Keeps.refl _ _).alloc _
  have hb := cell_lt h0
  exact ⟨(hk.cell hb id).trans h0, (hk.cell hb id).trans h1, (hk.cell hb id).trans h2, (hk.cell hb id).trans h3⟩
theorem s4_keeps {w w' : World} {b : Nat} {v0 v1 v2 v3 : Value} (hk : Keeps (fun _ => False) w w') (h : w.cell? ⟨b, 0, none⟩ = some v0 ∧ w.cell? ⟨b, 1, none⟩ = some v1 ∧ w.cell? ⟨b, 2, none⟩ = some v2 ∧ w.cell? ⟨b, 3, none⟩ = some v3) :
    w'.cell? ⟨b, 0, none⟩ = some v0 ∧ w'.cell? ⟨b, 1, none⟩ = some v1 ∧ w'.cell? ⟨b, 2, none⟩ = some v2 ∧ w'.cell? ⟨b, 3, none⟩ = some v3 := by
  obtain ⟨h0, h1, h2, h3⟩ := h
  have hb := cell_lt h0
  exact ⟨(hk.cell hb id).trans h0, (hk.cell hb id).trans h1, (hk.cell hb id).trans h2, (hk.cell hb id).trans h3⟩
theorem s4_put {w : World} {b d : Nat} {cs : Array Value} {v0 v1 v2 v3 : Value} (hne : b ≠ d) (h : w.cell? ⟨b, 0, none⟩ = some v0 ∧ w.cell? ⟨b, 1, none⟩ = some v1 ∧ w.cell? ⟨b, 2, none⟩ = some v2 ∧ w.cell? ⟨b, 3, none⟩ = some v3) :
    (putCells w ⟨d, 0, none⟩ cs).cell? ⟨b, 0, none⟩ = some v0 ∧ (putCells w ⟨d, 0, none⟩ cs).cell? ⟨b, 1, none⟩ = some v1 ∧ (putCells w ⟨d, 0, none⟩ cs).cell? ⟨b, 2, none⟩ = some v2 ∧ (putCells w ⟨d, 0, none⟩ cs).cell? ⟨b, 3, none⟩ = some v3 := by
  obtain ⟨h0, h1, h2, h3⟩ := h
  have hb := cell_lt h0
  have hk := keeps_put0 (M := fun k => k = d) (Keeps.refl _ w) (b := d) (o := 0) (fun _ => rfl) cs
  exact ⟨(hk.cell hb hne).trans h0, (hk.cell hb hne).trans h1, (hk.cell hb hne).trans h2, (hk.cell hb hne).trans h3⟩

theorem s4_putnew {w : World} {b : Nat} {o : Obj} {cs : Array Value} {v0 v1 v2 v3 : Value} (h : w.cell? ⟨b, 0, none⟩ = some v0 ∧ w.cell? ⟨b, 1, none⟩ = some v1 ∧ w.cell? ⟨b, 2, none⟩ = some v2 ∧ w.cell? ⟨b, 3, none⟩ = some v3) :
    (putCells (w.alloc o) ⟨w.heap.size, 0, none⟩ cs).cell? ⟨b, 0, none⟩ = some v0 ∧ (putCells (w.alloc o) ⟨w.heap.size, 0, none⟩ cs).cell? ⟨b, 1, none⟩ = some v1 ∧ (putCells (w.alloc o) ⟨w.heap.size, 0, none⟩ cs).cell? ⟨b, 2, none⟩ = some v2 ∧ (putCells (w.alloc o) ⟨w.heap.size, 0, none⟩ cs).cell? ⟨b, 3, none⟩ = some v3 :=
  s4_put (by have := cell_lt h.1; omega) (s4_alloc h)

attribute [local go_sem] cellsFree_new0 size_z_Frame
set_option maxHeartbeats 2000000 in
set_option maxRecDepth 100000 in
theorem frames_good (own : Nat → Nat) (t : Nat) (s : SnapS) (M : MapS) (zone : Int) (w : World) (h : MapAt w own t s.mb M) (hn : s.nums = true) (hr : (M.l.all fun e => decide (e.seq < s.next)) = true) (hf : ∀ e, e ∈ M.l → e.Fits) (hz : M.g.holds zone 0 = true) :
    Calls Tryz.prog 110 #[.agg (snapC s), .int .i64 zone] w fun r w' => ∃ sv, r = .returned (.tuple #[sv, .int .i64 0]) ∧ RowAt w' (fun k => w.heap.size ≤ k) 120 49 sv M.g.parts.toNat ((snapFs s M zone M.g.parts.toNat).flatMap frmL) ∧ Keeps (fun _ => False) w w' := by
  have HM := hid h
  have HN := hid (And.intro hn (And.intro hr (And.intro hf hz)))
  have hbox := heap_new w (.cells (snapC s) 60)
  have hk0 : Keeps (fun _ => False) w (w.alloc (.cells (snapC s) 60)) := (by repeat (first | exact Keeps.refl _ _ | refine Keeps.alloc ?_ _ | refine Keeps.drew ?_ | refine Keeps.drewN ?_ _ | refine Keeps.trans ?_ (by assumption)))
  obtain ⟨w0, hw0⟩ : ∃ w0, w.alloc (.cells (snapC s) 60) = w0 := ⟨_, rfl⟩
  rw [hw0] at hbox hk0
  have HB := hid (And.intro hbox hk0)
  have c0 := cell_of hbox 0
  have c1 := cell_of hbox 1
  have c2 := cell_of hbox 2
  have c3 := cell_of hbox 3
  simp only [snapC] at c0 c1 c2 c3
  simp at c0 c1 c2 c3
  clear h hn hr hf hz hbox hk0
  unfold snapC at hw0 ⊢
  go_enter Tryz.func110, Tryz.ntmps110
  go_wp2_with fail
  clear hw0
  refine Calls.mono (snapright_go own t s M _ (HM.out.still HB.out.2) HN.out.1) ?_
  rintro r w1 ⟨rfl, hk1⟩
  rw [HN.out.2.1]
  obtain ⟨c0, c1, c2, c3⟩ := s4_keeps hk1 ⟨c0, c1, c2, c3⟩
  have HB1 := hid (And.intro (hk1.heap HB.out.1 id) (HB.out.2.trans hk1))
  clear hk1
  go_wp2_with fail
  refine Calls.mono (mapgeom_calls own t s.mb M _ (HM.out.still HB1.out.2)) ?_
  rintro r w2 ⟨rfl, hk2⟩
  obtain ⟨c0, c1, c2, c3⟩ := s4_keeps hk2 ⟨c0, c1, c2, c3⟩
  have HB2 := hid (And.intro (hk2.heap HB1.out.1 id) (HB1.out.2.trans hk2))
  clear hk2
  go_wp2_with fail
  refine Calls.mono (holds_calls M.g zone 0 _) ?_
  rintro r w3 ⟨rfl, hk3⟩
  rw [HN.out.2.2.2]
  obtain ⟨c0, c1, c2, c3⟩ := s4_keeps hk3 ⟨c0, c1, c2, c3⟩
  have HB3 := hid (And.intro (hk3.heap HB2.out.1 id) (HB2.out.2.trans hk3))
  clear hk3
  have hlt := lt_of HB3.out.1
  have hbe := snapF0_eq s M zone
  have hB0 : (bytesV (pad44 (headB s M.g))).size = 44 := by simp [bytesV, pad44_len _ (show (headB s M.g).length ≤ 44 by rw [headB_len]; omega)]
  have hs0 := (frm_facts (snapF s M zone 0) (snapF_body s M zone 0)).1
  have ha0 : allOne (frmC (snapF s M zone 0)) = true := frm_one _
  generalize hF0 : frmC (snapF s M zone 0) = F0 at *
  have HF0 := hid hF0
  clear hF0
  go_wp2_with fail
  go_region_held3 (fun W => W.cell? ⟨w.heap.size, 0, none⟩ = some (.int .i64 s.gen) ∧ W.cell? ⟨w.heap.size, 1, none⟩ = some (.int .i64 s.epoch) ∧ W.cell? ⟨w.heap.size, 2, none⟩ = some (.int .i64 s.next) ∧ W.cell? ⟨w.heap.size, 3, none⟩ = some (.pointer (some ⟨s.mb, 0, none⟩)))
    (repeat (first | assumption | exact ⟨c0, c1, c2, c3⟩ | refine s4_alloc ?_ | refine s4_keeps (by assumption) ?_ | refine s4_putnew ?_ | (refine s4_put ?_ ?_; (focus omega))))
    (first | (go_at_call 157; refine Calls.mono (shead_calls own t s M _ (HM.out.still (HB3.out.2.trans (by repeat (first | exact Keeps.refl _ _ | refine Keeps.alloc ?_ _ | refine Keeps.drew ?_ | refine Keeps.drewN ?_ _ | refine Keeps.trans ?_ (by assumption))))) HN.out.1) ?_; rintro r w4 ⟨rfl, hk4⟩; try (first | have hfr := cellsFree_full (n := 49) (hk4.heap (heap_d (heap_new w3 _)) id) rfl | have hfr := cellsFree_full (n := 49) (hk4.heap (heap_new w3 _) id) rfl | have hfr := cellsFree_full (n := 49) (hk4.heap (heap_new w3.drew _) id) rfl)))
  all_goals
    (first
      | (have hfb := putCells_at (heap_new w4 (.cells z_Frame 120)) (show z_Frame.size = F0.size by rw [hs0]; rfl)
         have hkw : Keeps (fun _ => False) w w4 := HB3.out.2.trans (Keeps.trans ((Keeps.refl _ _).drew) hk4)
         have hk5 := keeps_put0 (M := fun _ => False) (a := w) (b := w4.heap.size) (o := 0) (hkw.alloc (.cells z_Frame 120)) (fun h => by have := hkw.size; omega) F0
         have hsb := (keeps_put0 (M := fun k => k = w4.heap.size) (b := w4.heap.size) (o := 0) ((Keeps.refl _ w4).alloc (.cells z_Frame 120)) (fun _ => rfl) F0).heap (hk4.heap (heap_d HB3.out.1) id) (by have := lt_of (hk4.heap (heap_d HB3.out.1) id); omega)
         have hne : w4.heap.size ≠ w.heap.size := by have := lt_of (hk4.heap (heap_d HB3.out.1) id); omega
         have hge : w.heap.size ≤ w4.heap.size := hkw.size
         have HR := hid (And.intro hfb (And.intro hk5 (And.intro hsb (And.intro hne hge))))
         clear hfb hkw hk5 hsb hne hk4 hge
         generalize putCells (w4.alloc (.cells z_Frame 120)) ⟨w4.heap.size, 0, none⟩ F0 = W5 at *
         generalize w4.heap.size = fb at *)
      | (have hfb := putCells_at (hk4.heap (heap_d (heap_new w3 (.cells z_Frame 120))) id) (show z_Frame.size = F0.size by rw [hs0]; rfl)
         have hkw : Keeps (fun _ => False) w w4 := HB3.out.2.trans (Keeps.trans (((Keeps.refl _ _).alloc _).drew) hk4)
         have hk5 := keeps_put0 (M := fun _ => False) (a := w) (b := w3.heap.size) (o := 0) hkw (fun h => by have := HB3.out.2.size; omega) F0
         have hsb := (keeps_put0 (M := fun k => k = w3.heap.size) (b := w3.heap.size) (o := 0) (Keeps.refl _ w4) (fun _ => rfl) F0).heap (hk4.heap (heap_d (heap_old w3 (.cells z_Frame 120) HB3.out.1)) id) (by omega)
         have hne : w3.heap.size ≠ w.heap.size := by omega
         have hge : w.heap.size ≤ w3.heap.size := HB3.out.2.size
         have HR := hid (And.intro hfb (And.intro hk5 (And.intro hsb (And.intro hne hge))))
         clear hfb hkw hk5 hsb hne hk4 hge
         generalize putCells w4 ⟨w3.heap.size, 0, none⟩ F0 = W5 at *
         generalize w3.heap.size = fb at *))
  all_goals
    clear hbe hB0 c0 c1 c2 c3 HB HB1 HB2 HB3
    try clear hfr
    try clear hlt
    obtain ⟨c0, c1, c2, c3⟩ := snap_cells HR.out.2.2.1
    have e1 := cellsAt_full (n := 49) HR.out.1 hs0
    have hrow0 : RowAt (W5.alloc (.cells F0 120)) (fun k => W5.heap.size ≤ k) 120 49 (.slice (some ⟨W5.heap.size, 0, none⟩) 1 1) 1 ((snapFs s M zone 1).flatMap frmL) := by
      have hl : ((snapFs s M zone 1).flatMap frmL) = F0.toList := by rw [← HF0.out]; simp [snapFs, frmL, List.range_succ]
      rw [hl]
      exact ⟨by simp [hs0], .inr ⟨W5.heap.size, 1, F0, rfl, Nat.le_refl _, heap_new _ _, Nat.le_refl _, by unfold maxLen; omega, by omega, by rw [List.take_of_length_le (by simp [hs0])]⟩⟩
    have hbk := (M.g.right_small HM.out.right).b
    have hparts : 2 ≤ M.g.parts ∧ M.g.parts ≤ 129 := by unfold GeomS.parts; omega
    obtain ⟨np, hnp⟩ : ∃ np : Nat, M.g.parts = np := ⟨M.g.parts.toNat, by omega⟩
    have hnp2 : M.g.parts.toNat = np := by omega
    have hnpb : 2 ≤ np ∧ np ≤ 129 := by omega
    rw [hnp2] at *
    have HNP := hid hnp
    have HBK := hid hbk
    have HR0 := hid hrow0
    clear hnp hnp2 hbk hrow0 hparts
    go_wp2_with fail
    go_loopg [7, 8] np (fun (gk : Nat) (x i : Value) (wr : World) => ∃ d : Nat, d + gk = np + 1 ∧ 1 ≤ d ∧ d ≤ np ∧ i = .int .i64 d ∧ RowAt wr (fun k => W5.heap.size ≤ k) 120 49 x d ((snapFs s M zone d).flatMap frmL) ∧
      wr.heap[fb]? = some (.cells (frmC (snapF s M zone (d - 1))) 120 (0, 0)) ∧ wr.heap[w.heap.size]? = some (.cells (snapC s) 60 (0, 0)) ∧ Keeps (fun _ => False) w wr ∧ W5.heap.size ≤ wr.heap.size)
    case atStart =>
      exact ⟨1, by omega, by omega, by omega, rfl, HR0.out, heap_old _ _ (by rw [HF0.out]; exact HR.out.1), heap_old _ _ HR.out.2.2.1, HR.out.2.1.alloc _, by simp⟩
    case round =>
      obtain ⟨d, hd, hd1, hdn, rfl, hrow, hfm, hsn, hkw, hszw⟩ := hrel
      obtain ⟨c0, c1, c2, c3⟩ := snap_cells hsn
      have HX := hid (And.intro hrow (And.intro hfm (And.intro hsn (And.intro hkw hszw))))
      clear hrow hfm hsn hkw hszw
      go_wp2_with fail
      refine Calls.mono (mapgeom_calls own t s.mb M _ (HM.out.still HX.out.2.2.2.1)) ?_
      rintro r w6 ⟨rfl, hk6⟩
      have HX6 := hid hk6
      clear hk6
      go_wp2_with fail
      refine Calls.mono (parts_calls M.g (by have := HBK.out; omega) (by have := HBK.out; omega) _) ?_
      rintro r w7 ⟨rfl, hw7⟩
      have hk7 : Keeps (fun _ => False) wr w7 := by rw [hw7]; exact HX6.out.alloc _
      have HK7 := hid hk7
      rw [HNP.out]
      clear hw7 hk7 c0 c1 c2 c3
      by_cases c : d < np
      · have dd : decide (d < np) = true := by simpa using c
        obtain ⟨c0, c1, c2, c3⟩ := snap_cells (HK7.out.heap HX.out.2.2.1 id)
        go_wp2_with fail
        refine Calls.mono (spart_calls own t s M d _ (HM.out.still (HX.out.2.2.2.1.trans HK7.out)) HN.out.2.2.1 (by omega)) ?_
        rintro r w8 ⟨rfl, hk8⟩
        have hfm8 := hk8.heap (HK7.out.heap HX.out.2.1 id) id
        obtain ⟨z, z0, z1, z2, z3, z4⟩ := frm_facts _ (snapF_body s M zone (d - 1))
        have q0 := (cell_of hfm8 0).trans z0
        have q2 := (cell_of hfm8 2).trans z2
        have f0 := free_of hfm8 0
        have f2 := free_of hfm8 2
        have g1 := heap_set hfm8 0 (.int .i64 5)
        have g2 := heap_set g1 2 (.int .i64 d)
        have e6 : cellsFree ((w8.setCell ⟨fb, 0, none⟩ (.int .i64 5)).setCell ⟨fb, 2, none⟩ (.int .i64 d)) ⟨fb, 5, none⟩ 44 = true := by
          simp [cellsFree, g2, z]
        have g3 := putCells_get (o := 5) (cs := bytesV (pad44 (partB M d))) g2
        rw [snapF_next s M zone d hd1] at g3
        have z' := (frm_facts _ (snapF_body s M zone d)).1
        have e7 := cellsAt_full (n := 49) g3 z'
        have e8 : (bytesV (pad44 (partB M d))).size = 44 := by simp [bytesV, pad44_len _ (show (partB M d).length ≤ 44 by rw [partB_len]; omega)]
        have e9 := allOne_bytes (pad44 (partB M d))
        obtain ⟨W9, hW9⟩ : ∃ W9, putCells ((w8.setCell ⟨fb, 0, none⟩ (.int .i64 5)).setCell ⟨fb, 2, none⟩ (.int .i64 d)) ⟨fb, 5, none⟩ (bytesV (pad44 (partB M d))) = W9 := ⟨_, rfl⟩
        have hk9 : Keeps (fun k => k = fb) w8 W9 := by
          rw [← hW9]
          exact keeps_put0 (keeps_set (keeps_set (Keeps.refl _ _) _ _) _ _) (fun _ => rfl) _
        rw [hW9] at g3 e7
        have hsn9 := hk9.heap (hk8.heap (HK7.out.heap HX.out.2.2.1 id) id) (Ne.symm HR.out.2.2.2.1)
        have hkw9 : Keeps (fun k => k = fb) wr W9 := ((HK7.out.trans hk8).mono fun _ _ h => h.elim).trans hk9
        have HY := hid (And.intro g3 (And.intro hkw9 (And.intro hsn9 z')))
        have hft := HR.out.2.2.2.2
        clear g1 g2 g3 hk8 hk9 hsn9 hkw9 hfm8 z z0 z1 z2 z3 z4
        have hfr := frm_one (snapF s M zone d)
        generalize hFd : frmC (snapF s M zone d) = Fd at *
        have HFD := hid hFd
        clear hFd
        obtain ⟨a7, cap7, rfl⟩ := HX.out.1.slice
        obtain ⟨i0, hi, hz0, hz1, hz2⟩ := info_parts info_Frame
        go_wp2_with (at_builtin; refine wpList_append_tag rfl (.tmp 45) (.tmp 47) rfl Tryz.underlying208 hi hz0 hz1 hz2 size_z_Frame (by decide) rfl (Q := fun k => W5.heap.size ≤ k) (n := d) (m := 1) (xs := (snapFs s M zone d).flatMap frmL) ?own rfl (news := Fd.toList) ?c0 ?c1 ?c2 ?c3 ?c4 (by decide) ?go)
        case own =>
          show RowAt _ _ _ _ (.slice a7 d cap7) _ _
          have hr9 := HX.out.1.keeps HY.out.2.1 (fun k hk e => by have := lt_of HR.out.1; omega)
          exact hr9.keeps ((Keeps.refl (fun _ => False) W9).alloc _) (fun _ _ => id)
        case c0 => simp [HY.out.2.2.2]
        case c1 =>
          intro j u hu
          rw [add_off, Nat.zero_add, cell_of (heap_new W9 _) j]
          simpa using hu
        case c2 =>
          intro u hu
          rw [← HFD.out] at hu
          exact frm_oneCell _ u hu
        case c3 => unfold maxLen; omega
        case c4 => omega
        case go =>
          intro g cap w10 hown hg hk10
          have hgp : W5.heap.size ≤ g := by
            have h1 := HY.out.2.1.size
            have h2 := HX.out.2.2.2.2
            rcases hg with h | h <;> omega
          have hrow := (rowAt_of_owns hown hgp : RowAt w10 (fun k => W5.heap.size ≤ k) _ _ _ _ _)
          have hfm10 := hk10.heap (heap_old W9 _ HY.out.1) (by have := lt_of HR.out.1; omega)
          have hsn10 := hk10.heap (heap_old W9 _ HY.out.2.2.1) (by have := HR.out.2.1.size; have := lt_of HR.out.2.2.1; omega)
          have HZ := hid (And.intro hrow (And.intro hfm10 (And.intro hsn10 hk10)))
          clear hown hg hk10 hrow hfm10 hsn10 hi hz0 hz1 hz2
          go_wp2_with fail
          go_roundg (gk - 1)
          case measure => omega
          case rel =>
            refine ⟨d + 1, by omega, by omega, by omega, by go_num, ?_, ?_, HZ.out.2.2.1, ?_, ?_⟩
            · rw [snapFs_succ, List.flatMap_append, List.flatMap_singleton, frmL, HFD.out]
              exact HZ.out.1
            · rw [Nat.add_sub_cancel, HFD.out]; exact HZ.out.2.1
            · have a1 := HX.out.2.2.2.1.trans' HY.out.2.1 (fun i hi e => by have := HR.out.2.2.2.2; omega)
              exact (a1.alloc _).trans' HZ.out.2.2.2 (fun i hi h => by have := HR.out.2.1.size; omega)
            · have h1 := HY.out.2.1.size
              have h2 := HX.out.2.2.2.2
              have h3 := HZ.out.2.2.2.size
              simp at h3
              omega
      · have dd : decide (d < np) = false := by simpa using c
        have hdn : d = np := by omega
        subst hdn
        go_wp2_with fail
        go_ret2
        have : Keeps (fun _ => False) w w7 := HX.out.2.2.2.1.trans HK7.out
        refine ⟨_, rfl, ?_, this⟩
        rw [show M.g.parts.toNat = d by rw [HNP.out]; simp]
        exact (HX.out.1.keeps HK7.out fun _ _ => id).imp fun k _ h => Nat.le_trans (HR.out.2.1.size) h
end Go.Rv
