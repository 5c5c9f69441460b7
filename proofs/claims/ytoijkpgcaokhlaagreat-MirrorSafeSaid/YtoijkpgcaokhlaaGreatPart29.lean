/- Mirrors: a copy of an entry is read: up to the frame. -/
import Derived.Test.YtoijkpgcaokhlaaGreatPart28
import Derived.Test.YtoijkpgcaokhlaaGreatPart26
import Derived.Test.YtoijkpgcaokhlaaGreatPart27
import Derived.LoopN
import Derived.LoopTactic
set_option linter.unusedVariables false
set_option linter.unusedSimpArgs false
namespace Go.Rv
open Go Go.RowKit Go.Proofs
attribute [local irreducible] wpQuiet tab0 tabV
attribute [local go_sem ↓] ld_Entry st_Entry al_Entry ld_Frame st_Frame al_Frame ld_Sector st_Sector al_Sector ld_Table st_Table al_Table ld_Block st_Block al_Block bd_Block0 ld_Ent st_Ent al_Ent
attribute [local go_sem] cellsAt_new0 cellsAt_lt cellsAt_drew size_bytesV cellsFree_new0 size_z_Frame size_z_Entry

section
variable {P : Program} {fn : Func} {t u v : Tmp} {ty : TypeId} {n : Nat} {a : Addr} {cs : Array Value} {w : World}
theorem results_cell3 (h : fn.results = #[.cell t ty, .tmp u, .tmp v]) (hr : RowTy P ty n) (tmps : Array Value) (ha : tmps.getD t undef = .pointer (some a)) (hc : cellsAt w a n = some cs) :
    (results fn tmps).run P w = .ok (.tuple #[.agg cs, tmps.getD u undef, tmps.getD v undef]) w := by
  have ha' : tmps[t]?.getD undef = .pointer (some a) := by simpa using ha
  simp [results, h, asAddr, ha', run_loadVar_cells w a ty n hr hc]
end

theorem DriveAt.read_len {w : World} {own : Nat → Nat} {pb db : Nat} {D : DriveS} (h : DriveAt w own pb db D) (z off : Int) : (D.read z off).2.1.length = 64 := by
  have hg : (D.begin z).d.Good := by
    have : D.begin z = D := by obtain ⟨⟨mb, c, h1⟩, h2⟩ := h; exact DriveS.begin_calm h1.calm z
    rw [this]; exact h.good
  exact hg.read_len z off
theorem DevS.read_nz (D : DevS) (z off : Int) : (D.read z off).1.nz = D.nz ∧ (D.read z off).1.size = D.size ∧ (D.read z off).1.opn = D.opn := by
  have := D.begin_nz z
  unfold DevS.read
  split <;> exact ⟨this.1, this.2.1, this.2.2.2.1⟩
theorem DriveS.like_read (D : DriveS) (z off : Int) : D.like (D.read z off).1 := (D.like_begin z).trans (DevS.read_nz _ z off)

/-- while a copy is read: the mirror, the entry's box, the result's block. -/
structure CpAt (w : World) (own : Nat → Nat) (mb pb db plb : Nat) (M : MirS) (x : EntS) (own5 : Nat → Nat) (X : World) : Prop where
  mir : MirAt X own5 mb pb db plb M
  step : Step mgTag w own X own5
  set : Settled own5 X
  box : X.heap[w.heap.size]? = some (.cells (entC x) 83 (0, 0))
  res : X.heap[w.heap.size + 1]? = some (.cells z_Block 87 (0, 0))
  zero : own5 w.heap.size = 0 ∧ own5 (w.heap.size + 1) = 0
theorem CpAt.put {w : World} {own : Nat → Nat} {mb pb db plb : Nat} {M : MirS} {x : EntS} {own5 : Nat → Nat} {X Y : World} (h : CpAt w own mb pb db plb M x own5 X) {b : Nat} (hk : Keeps (fun k => k = b) X Y) (hb : w.heap.size + 2 ≤ b) (h0 : own5 b = 0) : CpAt w own mb pb db plb M x own5 Y := by
  obtain ⟨p1, p2, p3⟩ := Step.put0 h.step h.set (b := b) (by omega) h0 hk
  exact ⟨h.mir.kept p2 fun t ht e => mirTag_zero ht e, p1, p3, hk.heap h.box (by omega), hk.heap h.res (by omega), h.zero⟩
theorem CpAt.still {w : World} {own : Nat → Nat} {mb pb db plb : Nat} {M : MirS} {x : EntS} {own5 : Nat → Nat} {X Y : World} (h : CpAt w own mb pb db plb M x own5 X) (hk : Keeps (fun _ => False) X Y) : CpAt w own mb pb db plb M x own5 Y :=
  ⟨h.mir.still hk, h.step.trans (Step.kept (A := mgTag) (hk.mono fun _ _ h => h.elim) h.set).1, h.set.keeps hk, hk.heap h.box id, hk.heap h.res id, h.zero⟩
theorem CpAt.turn {w : World} {own : Nat → Nat} {mb pb db plb : Nat} {M M' : MirS} {x : EntS} {own5 own6 : Nat → Nat} {X Y : World} (h : CpAt w own mb pb db plb M x own5 X) (hs : Step mgTag X own5 Y own6) (hse : Settled own6 Y) (hm : MirAt Y own6 mb pb db plb M') : CpAt w own mb pb db plb M' x own6 Y :=
  ⟨hm, h.step.trans hs, hse, hs.heap h.box (by rw [h.zero.1]; exact mgTag_zero), hs.heap h.res (by rw [h.zero.2]; exact mgTag_zero), (hs.agree _ (lt_of h.box)).trans h.zero.1, (hs.agree _ (lt_of h.res)).trans h.zero.2⟩
/-- what the drawing regions read. -/
theorem CpAt.limbs {w : World} {own : Nat → Nat} {mb pb db plb : Nat} {M : MirS} {x : EntS} {own5 : Nat → Nat} {X Y : World} (h : CpAt w own mb pb db plb M x own5 X) (hY : Keeps (fun k => w.heap.size + 2 ≤ k ∧ own5 k = 0) X Y) : (Y.cell? ⟨mb, 0, none⟩ = some (.pointer (some ⟨pb, 0, none⟩)) ∧ Y.cell? ⟨w.heap.size, 3, none⟩ = some (.int .i64 x.off)) ∧ Y.rangeAt mb 7 (tabV tab0).toList ∧ Y.cell? ⟨w.heap.size, 4, none⟩ = some (.int .i64 x.seq) ∧ Y.cell? ⟨w.heap.size, 5, none⟩ = some (.int .i64 x.sum) ∧ cellsAt Y ⟨mb, 7, none⟩ 256 = some (tabV tab0) := by
  obtain ⟨bb, bc, cur, h1⟩ := h.mir.head
  have h2 := h1.keeps hY (fun k hk hn => by omega)
  have hb := hY.heap h.box (by omega)
  refine ⟨⟨h2.cells.1, cell_of hb 3⟩, fun j v hv => ?_, cell_of hb 4, cell_of hb 5, h2.cells.2.2.1⟩
  have := (cellsAt_cell h2.cells.2.2.1).2 j v (by simpa using hv)
  rwa [add_off] at this
/-- at the end: the result's block is written. -/
theorem CpAt.done {w : World} {own : Nat → Nat} {mb pb db plb : Nat} {M : MirS} {x : EntS} {own5 : Nat → Nat} {X : World} (h : CpAt w own mb pb db plb M x own5 X) (cs : Array Value) : ∃ own', MirAt (putCells X ⟨w.heap.size + 1, 0, none⟩ cs) own' mb pb db plb M ∧ Step mgTag w own (putCells X ⟨w.heap.size + 1, 0, none⟩ cs) own' ∧ Settled own' (putCells X ⟨w.heap.size + 1, 0, none⟩ cs) := by
  obtain ⟨p1, p2, p3⟩ := Step.put0 (w4 := putCells X ⟨w.heap.size + 1, 0, none⟩ cs) h.step h.set (b := w.heap.size + 1) (by omega) h.zero.2 (keeps_put0 (M := fun k => k = w.heap.size + 1) (Keeps.refl _ _) (fun _ => rfl) _)
  exact ⟨own5, h.mir.kept p2 fun t ht e => mirTag_zero ht e, p1, p3⟩
/-- a sector is loaded whole, its type by another name (so that a drawing region does not take it for a long array). -/
theorem ld_SectorT (T : TypeId) (hT : T = 103) (f : Operand → Value) (x : Operand) (d : Option Tmp) (t : TypeId) (pos : String) (af : Array Edge) (g : Option (Nat × Bool)) (w : World) :
    (execOp f ⟨d, .load T x, t, pos, af, g⟩).run Tryz.prog w = match f x with
      | .pointer (some a) => match cellsAt w a 64 with
        | some cs => .ok (.value (.agg cs)) w
        | none => stuckOp Tryz.prog f ⟨d, .load T x, t, pos, af, g⟩ w
      | _ => stuckOp Tryz.prog f ⟨d, .load T x, t, pos, af, g⟩ w := by subst hT; exact ld_Sector f x d t pos af g w
attribute [local go_sem ↓] ld_SectorT
theorem setCells_block {b : Nat} {e : TypeId} : ∀ (vs : List Value) (o : Nat) (c : Array Value) (w : World), w.heap[b]? = some (.cells c e (0, 0)) → ∃ c', (w.setCells b o vs).heap[b]? = some (.cells c' e (0, 0)) ∧ c'.size = c.size
  | [], _, c, _, h => ⟨c, h, rfl⟩
  | v :: r, o, c, w, h => by
    obtain ⟨c', h1, h2⟩ := setCells_block r (o + 1) _ _ (heap_set h o v)
    exact ⟨c', h1, by rw [h2]; simp⟩
theorem setCells_full {b : Nat} {e : TypeId} {w : World} {c : Array Value} {vs : List Value} (h : w.heap[b]? = some (.cells c e (0, 0))) (hs : c.size = vs.length) : (w.setCells b 0 vs).heap[b]? = some (.cells vs.toArray e (0, 0)) := by
  obtain ⟨c', h1, h2⟩ := setCells_block vs 0 c w h
  have hr := World.rangeAt_setCells_same w b 0 vs (there_full h hs)
  have hc : c' = vs.toArray := by
    apply Array.ext_getElem?
    intro i
    by_cases hi : i < vs.length
    · have := hr i vs[i] (List.getElem?_eq_getElem hi)
      rw [Nat.zero_add, cell_of h1] at this
      rw [this]; simp [hi]
    · rw [Array.getElem?_eq_none (by omega), Array.getElem?_eq_none (by simp; omega)]
  rw [h1, hc]
theorem readR_len (F : FrmS) (h : F.body.length = 44) : (readR F).1.bytes.length = 32 := by
  unfold readR
  split
  · rfl
  · split
    · rfl
    · exact ofR_len F.kind F.body h
theorem atR_len (S : List UInt8) (hS : S.length = 64) (zone off : Int) : (atR tab0 S zone off).1.body.length = 44 := by
  have := decR_body tab0 S hS
  unfold atR
  split
  · rfl
  · split
    · exact this
    · rfl
theorem zblock_bytes : z_Block = bytesV zero32 := by simp [zero32]; rfl

set_option maxHeartbeats 800000 in
set_option maxRecDepth 100000 in
theorem mcopy_calls (own : Nat → Nat) (mb pb db plb : Nat) (M : MirS) (x : EntS) (zone mate : Int) (w : World) (h : MirAt w own mb pb db plb M) (hset : Settled own w) :
    Calls Tryz.prog 84 #[.pointer (some ⟨mb, 0, none⟩), .agg (entC x), .int .i64 zone, .int .i64 mate] w fun r w' =>
    r = .returned (.tuple #[.agg (bytesV (M.cp x zone mate).2.1), .bool (M.cp x zone mate).2.2.1, .int .i64 (M.cp x zone mate).2.2.2]) ∧ ∃ own', MirAt w' own' mb pb db plb (M.cp x zone mate).1 ∧ Step mgTag w own w' own' ∧ Settled own' w' := by
  have b0 := heap_old _ (.cells z_Block 87) (heap_new w (.cells (entC x) 83))
  have b1 : ((w.alloc (.cells (entC x) 83)).alloc (.cells z_Block 87)).heap[w.heap.size + 1]? = some (.cells z_Block 87 (0, 0)) := by
    have := heap_new (w.alloc (.cells (entC x) 83)) (.cells z_Block 87)
    rwa [World.size_alloc] at this
  have hk0 : Keeps (fun _ => False) w ((w.alloc (.cells (entC x) 83)).alloc (.cells z_Block 87)) := (by repeat (first | exact Keeps.refl _ _ | refine Keeps.alloc ?_ _ | refine Keeps.drew ?_ | refine Keeps.drewN ?_ _ | refine Keeps.trans ?_ (by assumption)))
  obtain ⟨w0, hw0⟩ : ∃ w0, (w.alloc (.cells (entC x) 83)).alloc (.cells z_Block 87) = w0 := ⟨_, rfl⟩
  rw [hw0] at b0 b1 hk0
  have hz0 : w.heap.size + 2 ≤ w0.heap.size := by have := lt_of b1; omega
  have hc0 : CpAt w own mb pb db plb M x own w0 := ⟨h.still hk0, (Step.kept (A := mgTag) (hk0.mono fun _ _ h => h.elim) hset).1, hset.keeps hk0, b0, b1, hset _ (Nat.le_refl _), hset _ (by omega)⟩
  have HO0 : Hid (∀ k, w.heap.size ≤ k → own k = 0) := hid hset
  have hSl := h.drive.read_len zone x.off
  have hl := M.d.like_read zone x.off
  obtain ⟨RR, hRR⟩ : ∃ RR, M.cp x zone mate = RR := ⟨_, rfl⟩
  rw [hRR]
  unfold MirS.cp at hRR
  have hrd := fun own X hd hs => pread_calls own pb db M.d zone x.off X hd hs
  obtain ⟨D1, SB, r, hD⟩ : ∃ D1 SB r, M.d.read zone x.off = (D1, SB, r) := ⟨_, _, _, rfl⟩
  rw [hD] at hRR hSl hl hrd
  simp only [] at hRR hSl hl hrd
  have hmt : ∀ X, CpAt w own mb pb db plb M x own X → ∀ Y own6, Step drvTag X own Y own6 → Settled own6 Y → DriveAt Y own6 pb db D1 → CpAt w own mb pb db plb { M with d := D1 } x own6 Y := fun X hc Y own6 hs hse hd =>
    ⟨hc.mir.turn hs hd hl, hc.step.trans (hs.mono (B := mgTag) fun t h => .inr (.inl h)), hse, hs.heap hc.box (by rw [hc.zero.1]; unfold drvTag devTag; omega), hs.heap hc.res (by rw [hc.zero.2]; unfold drvTag devTag; omega), (hs.agree _ (lt_of hc.box)).trans hc.zero.1, (hs.agree _ (lt_of hc.res)).trans hc.zero.2⟩
  obtain ⟨M1, hM1⟩ : ∃ M1, ({ M with d := D1 } : MirS) = M1 := ⟨_, rfl⟩
  rw [hM1] at hRR hmt
  have HRD : Hid (∀ X, Keeps (fun _ => False) w0 X → Calls Tryz.prog 133 #[.pointer (some ⟨pb, 0, none⟩), .int .i64 zone, .int .i64 x.off] X fun e w' => e = .returned (.tuple #[.agg (bytesV SB), .int .i64 r]) ∧ ∃ own5, CpAt w own mb pb db plb M1 x own5 w' ∧ (∀ k, k < X.heap.size → own5 k = own k) ∧ Keeps (fun k => drvTag (own k)) X w') := hid fun X hX => by
    refine (hrd own X (hc0.still hX).mir.drive (hc0.still hX).set).mono ?_
    rintro e w' ⟨rfl, own5, hd, hs, hse⟩
    exact ⟨rfl, own5, hmt X (hc0.still hX) w' own5 hs hse hd, hs.agree, hs.keeps⟩
  have H0 := hid hc0
  have hs0 := (hc0.limbs (Keeps.refl _ _)).1
  have HS : Hid (∀ X, Keeps (fun _ => False) w0 X → X.cell? ⟨mb, 0, none⟩ = some (.pointer (some ⟨pb, 0, none⟩)) ∧ X.cell? ⟨w.heap.size, 3, none⟩ = some (.int .i64 x.off)) := hid fun X hX => (H0.out.limbs (hX.mono fun _ _ h => h.elim)).1
  have hHZ := hid hz0
  have hin2 : (Tryz.prog.info? 103).map (·.size) = some (SB.map byteV).length := by rw [List.length_map, hSl]; kernel_rfl
  have hsl2 : z_Sector.size = (SB.map byteV).length := by rw [List.length_map, hSl]; rfl
  have hbv : (SB.map byteV).toArray = bytesV SB := rfl
  have e6 : (bytesV SB).size = 64 := by simp [bytesV, hSl]
  have hun2 := Tryz.underlying103
  have hov := bytes_one SB
  have HRR := hid (And.intro hRR hSl)
  have nd0 : ¬ drvTag 0 := by unfold drvTag devTag; omega
  have HND := hid nd0
  clear h hset b0 b1 hk0 hc0 hRR hSl hl hrd hD hmt hM1 hz0 nd0
  have ts1 := HS.out w0.drew (Keeps.refl _ _).drew
  have ts2 := HS.out (w0.drew.alloc (.cells z_Sector 103)) ((Keeps.refl _ _).drew.alloc _)
  have ts3 := HS.out (w0.alloc (.cells z_Sector 103)).drew ((Keeps.refl _ _).alloc _).drew
  go_enter Tryz.func84, Tryz.ntmps84
  go_wp2_with fail
  try rw [hw0]
  go_region_held3 (fun X => X.cell? ⟨mb, 0, none⟩ = some (.pointer (some ⟨pb, 0, none⟩)) ∧ X.cell? ⟨w.heap.size, 3, none⟩ = some (.int .i64 x.off)) (assumption)
    ((go_at_call 133; refine Calls.mono (HRD.out _ (by repeat (first | exact Keeps.refl _ _ | refine Keeps.alloc ?_ _ | refine Keeps.drew ?_ | refine Keeps.drewN ?_ _ | refine Keeps.trans ?_ (by assumption)))) ?_; rintro e w5 ⟨rfl, own5, hc5, hag5, hk5⟩; have HY := hid hc5; have HS5 : Hid (∀ X, Keeps (fun k => w.heap.size + 2 ≤ k ∧ own5 k = 0) w5 X → X.cell? ⟨mb, 0, none⟩ = some (.pointer (some ⟨pb, 0, none⟩)) ∧ X.cell? ⟨w.heap.size, 3, none⟩ = some (.int .i64 x.off)) := hid (fun X hX => (HY.out.limbs hX).1); have hl5 := (hc5.limbs (Keeps.refl _ _)).1; have hl6 := HS5.out _ ((Keeps.refl _ w5).alloc (.cells z_Sector 103)); have hl7 := HS5.out _ (keeps_sets (vs := SB.map byteV) (o := 0) (b := w5.heap.size) ((Keeps.refl _ w5).alloc (.cells z_Sector 103)) (fun hx => absurd hx (Nat.lt_irrefl _))); have hta := there_full (heap_new w5 (.cells z_Sector 103)) hsl2; try (have hob := (hag5 _ (lt_of (heap_new w0 (.cells z_Sector 103)))).trans (HO0.out _ (Nat.le_trans (Nat.le_add_right _ 2) hHZ.out)); have hhb := hk5.heap (heap_new w0 (.cells z_Sector 103)) (by rw [HO0.out _ (Nat.le_trans (Nat.le_add_right _ 2) hHZ.out)]; exact HND.out); have hl8 := HS5.out _ (keeps_sets (vs := SB.map byteV) (o := 0) (b := w0.heap.size) (Keeps.refl _ w5) (fun hx => ⟨hHZ.out, hob⟩)); have htb := there_full hhb hsl2)))
  have hr8 := setCells_full (vs := SB.map byteV) (heap_new w5 (.cells z_Sector 103)) hsl2
  have hc8 := HY.out.put (b := w5.heap.size) (Y := (w5.alloc (.cells z_Sector 103)).setCells w5.heap.size 0 (SB.map byteV)) (keeps_sets ((Keeps.refl _ _).alloc _) (fun _ => rfl)) (lt_of HY.out.res) (HY.out.set _ (Nat.le_refl _))
  have H8 := hid (And.intro hr8 (And.intro hc8 (And.intro (show w.heap.size + 2 ≤ w5.heap.size from lt_of HY.out.res) (HY.out.set _ (Nat.le_refl w5.heap.size)))))
  clear hr8 hc8 hta hl5 hl6 hl7 hag5 hk5 hc5 HY HS5
  try clear hl8 htb hhb hob
  generalize (w5.alloc (.cells z_Sector 103)).setCells w5.heap.size 0 (SB.map byteV) = W8 at H8 ⊢
  generalize w5.heap.size = b8 at H8 ⊢
  rename_i hHd
  clear hHd w5
  revert H8
  revert b8
  revert W8
  revert own5
  refine ?m1
  rotate_left
  have hr8 := setCells_full (vs := SB.map byteV) hhb hsl2
  have hc8 := HY.out.put (b := w0.heap.size) (Y := w5.setCells w0.heap.size 0 (SB.map byteV)) (keeps_sets (Keeps.refl _ _) (fun _ => rfl)) hHZ.out hob
  have H8 := hid (And.intro hr8 (And.intro hc8 (And.intro hHZ.out hob)))
  clear hr8 hc8 hta hl5 hl6 hl7 hag5 hk5 hc5 HY HS5
  try clear hl8 htb hhb hob
  generalize w5.setCells w0.heap.size 0 (SB.map byteV) = W8 at H8 ⊢
  generalize w0.heap.size = b8 at H8 ⊢
  rename_i hHd
  clear hHd w5
  revert H8
  revert b8
  revert W8
  revert own5
  exact ?m1
  intro own5 W8 b8 H8
  have hRR := HRR.out.1
  have ez := allOne_bytes zero32
  have ez2 : (bytesV zero32).size = 32 := rfl
  have ezs : z_Block.size = (bytesV zero32).size := size_z_Block
  have hfr := cellsFree_full (n := 32) H8.out.2.1.res size_z_Block
  have HEZ := hid (And.intro ezs ez2)
  clear hs0 hin2 hsl2 hov ts1 ts2 ts3 ezs
  by_cases k1 : r = 0
  · rw [if_pos k1] at hRR
    subst k1
    obtain ⟨CP, hCP⟩ : ∃ CP, cpOf x zone mate SB = CP := ⟨_, rfl⟩
    rw [hCP] at hRR
    unfold cpOf at hCP
    have hat := fun X => at_calls tab0 SB HRR.out.2 zone x.off X
    obtain ⟨AF, hAF⟩ : ∃ AF, atR tab0 SB zone x.off = AF := ⟨_, rfl⟩
    rw [hAF] at hCP hat
    have hTs := size_tabV tab0
    have hlm := fun X (hX : Keeps (fun _ => False) W8 X) => (H8.out.2.1.still hX).limbs (Keeps.refl _ _)
    have hsm := fun (l : List UInt8) (b cap : Nat) (hl : l.length = 32) X hb => sum_n tab0 b 6 cap 32 l hl X hb (by omega)
    have hcd := crcSum_bd tab0
    obtain ⟨TT, hTT⟩ : ∃ TT, tabV tab0 = TT := ⟨_, rfl⟩
    rw [hTT] at hat hTs hlm hsm
    have HTT := hid hTT
    have HS9 : Hid (∀ X, Keeps (fun _ => False) W8 X → X.rangeAt mb 7 TT.toList ∧ cellsAt X ⟨b8, 0, none⟩ 64 = some (bytesV SB) ∧ X.cell? ⟨w.heap.size, 3, none⟩ = some (.int .i64 x.off)) := hid fun X hX => by
      obtain ⟨⟨-, l2⟩, l3, -⟩ := hlm X hX
      exact ⟨l3, cellsAt_full (c := bytesV SB) (hX.heap H8.out.1 id) e6, l2⟩
    have HLM := hid hlm
    have hal := atR_len SB HRR.out.2 zone x.off
    rw [hAF] at hal
    have f3 := frm_one AF.1
    have f4 := (frm_facts AF.1 hal).1
    have hun := Tryz.underlying72
    have hts2 : TT.toList.toArray = TT := by simp
    have hts3 : TT.toList.length = 256 := by simp [hTs]
    have hin : (Tryz.prog.info? 72).map (·.size) = some TT.toList.length := by
      rw [Array.length_toList, hTs]; kernel_rfl
    have hin2 : (Tryz.prog.info? 103).map (·.size) = some (SB.map byteV).length := by rw [List.length_map, HRR.out.2]; kernel_rfl
    have ts1 := HS9.out W8.drew (Keeps.refl _ _).drew
    have ts2 := HS9.out (W8.drew.alloc (.cells z_Frame 120)) ((Keeps.refl _ _).drew.alloc _)
    have ts3 := HS9.out (W8.alloc (.cells z_Frame 120)).drew ((Keeps.refl _ _).alloc _).drew
    have HAT := hid hat
    have HR := hid (And.intro hRR (And.intro hCP hal))
    have HSM := hid (And.intro hsm hcd)
    obtain ⟨T103, hT⟩ : ∃ T : TypeId, T = 103 := ⟨_, rfl⟩
    clear hRR hCP hat hTT hlm hAF hal hsm hcd
    go_wp2_with fail
    rw [← hT]
    go_region_held3 (fun X => X.rangeAt mb 7 TT.toList ∧ cellsAt X ⟨b8, 0, none⟩ 64 = some (bytesV SB) ∧ X.cell? ⟨w.heap.size, 3, none⟩ = some (.int .i64 x.off)) (assumption)
      ((go_at_call 108; refine Calls.mono (HAT.out _) ?_; rintro e w6 ⟨rfl, hk6⟩; have hk6' : Keeps (fun _ => False) W8 w6 := Keeps.trans (by repeat (first | exact Keeps.refl _ _ | refine Keeps.alloc ?_ _ | refine Keeps.drew ?_ | refine Keeps.drewN ?_ _ | refine Keeps.trans ?_ (by assumption))) hk6; have hl5 := HS9.out w6 hk6'; have hl6 := HS9.out (w6.alloc (.cells z_Frame 120)) (hk6'.alloc _); have hl7 := HS9.out (putCells (w6.alloc (.cells z_Frame 120)) ⟨w6.heap.size, 0, none⟩ (frmC AF.1)) (keeps_put0 (hk6'.alloc _) (fun h => absurd h (Nat.not_lt.2 hk6'.size)) _); try (have hl8 := HS9.out (putCells w6 ⟨W8.heap.size, 0, none⟩ (frmC AF.1)) (keeps_put0 hk6' (fun h => absurd h (Nat.lt_irrefl _)) _); have hfz := cellsFree_full (n := 49) (hk6.heap (heap_new W8 (.cells z_Frame 120)) id) size_z_Frame)))
    have hf8 := putCells_at (heap_new w6 (.cells z_Frame 120)) (show z_Frame.size = (frmC AF.1).size by rw [size_z_Frame, f4])
    have hc8 := H8.out.2.1.still (keeps_put0 (M := fun _ => False) (b := w6.heap.size) (o := 0) (hk6'.alloc (.cells z_Frame 120)) (fun h => absurd h (Nat.not_lt.2 hk6'.size)) (frmC AF.1))
    have H9 := hid (And.intro hf8 hc8)
    clear hf8 hc8 hl5 hl6 hl7 hk6 hk6'
    try clear hl8 hfz
    generalize putCells (w6.alloc (.cells z_Frame 120)) ⟨w6.heap.size, 0, none⟩ (frmC AF.1) = W9 at H9 ⊢
    generalize w6.heap.size = b9 at H9 ⊢
    rename_i hHd
    clear hHd w6
    revert H9
    revert b9
    revert W9
    refine ?m2
    rotate_left
    have hf8 := putCells_at (hk6.heap (heap_new W8 (.cells z_Frame 120)) id) (show z_Frame.size = (frmC AF.1).size by rw [size_z_Frame, f4])
    have hc8 := H8.out.2.1.still (keeps_put0 (M := fun _ => False) (b := W8.heap.size) (o := 0) hk6' (fun h => absurd h (Nat.lt_irrefl _)) (frmC AF.1))
    have H9 := hid (And.intro hf8 hc8)
    clear hf8 hc8 hl5 hl6 hl7 hk6 hk6'
    try clear hl8 hfz
    generalize putCells w6 ⟨W8.heap.size, 0, none⟩ (frmC AF.1) = W9 at H9 ⊢
    generalize W8.heap.size = b9 at H9 ⊢
    rename_i hHd
    clear hHd w6
    revert H9
    revert b9
    revert W9
    exact ?m2
    intro W9 b9 H9
    have hR := HR.out.1
    have hCP := HR.out.2.1
    have hal := HR.out.2.2
    obtain ⟨-, q0, q1, q2, q3, q4⟩ := frm_facts AF.1 hal
    have z0 := (cell_of H9.out.1 0).trans q0
    have z4 := (cell_of H9.out.1 4).trans q4
    have x4 := (H9.out.2.limbs (Keeps.refl _ _)).2.2.1
    have x5 := (H9.out.2.limbs (Keeps.refl _ _)).2.2.2.1
    have hfr := cellsFree_full (n := 32) H9.out.2.res size_z_Block
    clear ts1 ts2 ts3 hT hin hts2 hts3 hun hun2 hin2 hfr q0 q1 q2 q3 q4 e6 hTs f3
    have hfr := cellsFree_full (n := 32) H9.out.2.res size_z_Block
    have HALL := hid hal
    by_cases c1 : AF.2 ≠ 0 ∨ AF.1.kind = 2 ∨ AF.1.seq ≠ x.seq
    · rw [if_pos c1] at hCP
      rw [← hCP] at hR
      have HRR := hid hR
      have c2 : ((AF.2 != 0) = true) ∨ ((AF.2 != 0) = false ∧ (AF.1.kind == 2) = true) ∨ ((AF.2 != 0) = false ∧ (AF.1.kind == 2) = false ∧ (AF.1.seq != x.seq) = true) := by
        by_cases d1 : AF.2 = 0
        · by_cases d2 : AF.1.kind = 2
          · exact .inr (.inl ⟨by simpa using d1, by simpa using d2⟩)
          · exact .inr (.inr ⟨by simpa using d1, by simpa using d2, by simpa using (c1.resolve_left (fun h => h d1)).resolve_left d2⟩)
        · exact .inl (by simpa using d1)
      clear hR hCP c1 hal
      rcases c2 with d1 | ⟨d1, d2⟩ | ⟨d1, d2, d3⟩
      all_goals
        go_wp2_with fail
        refine bodyPost_ret (results_cell3 rfl row_Block _ rfl (cellsAt_full (putCells_at H9.out.2.res HEZ.out.1) HEZ.out.2)) rfl ⟨by rw [← HRR.out]; rfl, ?_⟩
        rw [← HRR.out]
        exact H9.out.2.done _
    · rw [if_neg c1] at hCP
      have d1 : (AF.2 != 0) = false := by simpa using fun h : AF.2 ≠ 0 => c1 (.inl h)
      have d2 : (AF.1.kind == 2) = false := by simpa using fun h => c1 (.inr (.inl h))
      have d3 : (AF.1.seq != x.seq) = false := by simpa using fun h : AF.1.seq ≠ x.seq => c1 (.inr (.inr h))
      have her := fun X => eread_calls AF.1 hal X
      have hel := readR_len AF.1 hal
      obtain ⟨E, hE⟩ : ∃ E, readR AF.1 = E := ⟨_, rfl⟩
      rw [hE] at hCP her hel
      have g3 := en_one E.1
      have g4 := (en_facts E.1 hel).1
      have cf := cellsAt_full (n := 49) H9.out.1 f4
      have HER := hid her
      have HCP := hid (And.intro hCP hR)
      clear hR hCP c1 hal her hE
      go_wp2_with fail
      refine Calls.mono (HER.out _) ?_
      rintro e w10 ⟨rfl, hk10⟩
      have hkk := keeps_put0 (M := fun _ => False) (b := w10.heap.size) (o := 0) (hk10.alloc (.cells z_Entry 89)) (fun h => absurd h (Nat.not_lt.2 hk10.size)) (enC E.1)
      have hc10 := H9.out.2.still hkk
      have hb10 := putCells_at (heap_new w10 (.cells z_Entry 89)) (show z_Entry.size = (enC E.1).size by rw [size_z_Entry, g4])
      obtain ⟨W10, hW10⟩ : ∃ W10, putCells (w10.alloc (.cells z_Entry 89)) ⟨w10.heap.size, 0, none⟩ (enC E.1) = W10 := ⟨_, rfl⟩
      rw [hW10] at hb10 hc10
      obtain ⟨b10, hbb⟩ : ∃ b10, w10.heap.size = b10 := ⟨_, rfl⟩
      have hbx := hb10
      rw [hbb] at hbx
      have H10 := hid (And.intro hbx hc10)
      have HBB := hid hbb
      obtain ⟨-, -, -, -, -, m5, -, m6⟩ := en_cells hel hb10
      have hel' := hel
      have HF : Hid (∀ W, Keeps (fun _ => False) W10 W → (W.cell? ⟨w10.heap.size, 5, none⟩ = some (.int .i64 E.1.mate)) ∧ W.cell? ⟨w.heap.size, 5, none⟩ = some (.int .i64 x.sum) ∧ cellsAt W ⟨mb, 7, none⟩ 256 = some TT ∧ cellsAt W ⟨w10.heap.size, 6, none⟩ 32 = some (bytesV E.1.bytes)) := hid fun W hW => by
        have l := (H10.out.2.still hW).limbs (Keeps.refl _ _)
        have hb := hW.heap H10.out.1 id
        rw [← HBB.out] at hb
        obtain ⟨-, -, -, -, -, m5, -, m6⟩ := en_cells hel hb
        refine ⟨m5, l.2.2.2.1, ?_, m6⟩
        rw [← HTT.out]; exact l.2.2.2.2
      have HSC : Hid (∀ W, Keeps (fun _ => False) W10 W → Calls Tryz.prog 82 #[.agg TT, .slice (some ⟨w10.heap.size, 6, none⟩) 32 32] W fun e w' => e = .returned (.int .u32 (crcSum tab0 E.1.bytes)) ∧ Keeps (fun _ => False) W w') := hid fun W hW => by
        refine HSM.out.1 E.1.bytes _ 32 hel W (fun j hj => ?_)
        have hb := hW.heap H10.out.1 id
        rw [← HBB.out] at hb
        exact (cell_of hb (6 + j)).trans (en_bytes E.1 j hj)
      obtain ⟨sm, hsm⟩ : ∃ sm, crcSum tab0 E.1.bytes = sm := ⟨_, rfl⟩
      have hsb := HSM.out.2 E.1.bytes
      rw [hsm] at HSC HCP hsb
      have hcv : IntKind.i64.wrap sm = sm := IntWalk.i64_in _ (by omega)
      have hfr := cellsFree_full (n := 32) hc10.res size_z_Block
      have HEL := hid hel
      clear hk10 hkk hc10 hb10 z0 z4 x4 x5 cf hbx hbb m5 m6 hel' hel hsm hsb
      by_cases c1 : E.2 ≠ 0 ∨ E.1.mate ≠ mate ∨ sm ≠ x.sum
      · have hCP := HCP.out.1
        rw [if_pos c1] at hCP
        have hR := HCP.out.2
        rw [← hCP] at hR
        have HRR := hid hR
        have c2 : ((E.2 != 0) = true) ∨ ((E.2 != 0) = false ∧ (E.1.mate != mate) = true) ∨ ((E.2 != 0) = false ∧ (E.1.mate != mate) = false ∧ (sm != x.sum) = true) := by
          by_cases d1 : E.2 = 0
          · by_cases d2 : E.1.mate = mate
            · exact .inr (.inr ⟨by simpa using d1, by simpa using d2, by simpa using (c1.resolve_left (fun h => h d1)).resolve_left (fun h => h d2)⟩)
            · exact .inr (.inl ⟨by simpa using d1, by simpa using d2⟩)
          · exact .inl (by simpa using d1)
        clear hR hCP c1
        rcases c2 with d1 | ⟨d1, d2⟩ | ⟨d1, d2, d3⟩
        all_goals
          go_wp2_with fail
          refine wp_region_still (by kernel_rfl) (by kernel_rfl) ?_
          repeat (first | (refine still_pass ?_ ?_; (focus (first | (go_simp; done) | rfl)); try simp only [Act.put, List.setIfInBounds_toArray, List.set_cons_succ, List.set_cons_zero]) | (apply still_step; (focus (go_simp; done)); (focus (intro W hW; unfold Oper.quietAt; (obtain ⟨m5, x5, tb, m6⟩ := HF.out W hW); go_simp; first | done | with_reducible rfl | (go_at_call 82; exact still_call hW (HSC.out W hW)) | exact ⟨rfl, rfl⟩)); try simp only [Act.put, List.setIfInBounds_toArray, List.set_cons_succ, List.set_cons_zero]))
          refine wpQuiet_nil ?_
          intro W hW
          have hcW := H10.out.2.still hW
          have hfr := cellsFree_full (n := 32) hcW.res size_z_Block
          have HW := hid hcW
          clear hW hcW
          go_wp2_with fail
          refine bodyPost_ret (results_cell3 rfl row_Block _ rfl (cellsAt_full (putCells_at HW.out.res HEZ.out.1) HEZ.out.2)) rfl ⟨by rw [← HRR.out]; rfl, ?_⟩
          rw [← HRR.out]
          exact HW.out.done _
      · have hCP := HCP.out.1
        rw [if_neg c1] at hCP
        have hR := HCP.out.2
        rw [← hCP] at hR
        have HRR := hid hR
        have d1 : (E.2 != 0) = false := by simpa using fun h : E.2 ≠ 0 => c1 (.inl h)
        have d2 : (E.1.mate != mate) = false := by simpa using fun h : E.1.mate ≠ mate => c1 (.inr (.inl h))
        have d3 : (sm != x.sum) = false := by simpa using fun h : sm ≠ x.sum => c1 (.inr (.inr h))
        have ey := allOne_bytes E.1.bytes
        have ey2 : (bytesV E.1.bytes).size = 32 := by simp [bytesV, HEL.out]
        clear hR hCP c1
        go_wp2_with fail
        refine wp_region_still (by kernel_rfl) (by kernel_rfl) ?_
        repeat (first | (refine still_pass ?_ ?_; (focus (first | (go_simp; done) | rfl)); try simp only [Act.put, List.setIfInBounds_toArray, List.set_cons_succ, List.set_cons_zero]) | (apply still_step; (focus (go_simp; done)); (focus (intro W hW; unfold Oper.quietAt; (obtain ⟨m5, x5, tb, m6⟩ := HF.out W hW); go_simp; first | done | with_reducible rfl | (go_at_call 82; exact still_call hW (HSC.out W hW)) | exact ⟨rfl, rfl⟩)); try simp only [Act.put, List.setIfInBounds_toArray, List.set_cons_succ, List.set_cons_zero]))
        refine wpQuiet_nil ?_
        intro W hW
        obtain ⟨m5, x5, tb, m6⟩ := HF.out W hW
        have hcW := H10.out.2.still hW
        have hfr := cellsFree_full (n := 32) hcW.res size_z_Block
        have HW := hid hcW
        clear hW hcW
        go_wp2_with fail
        refine bodyPost_ret (results_cell3 rfl row_Block _ rfl (cellsAt_full (putCells_at HW.out.res (size_z_Block.trans ey2.symm)) ey2)) rfl ⟨by rw [← HRR.out]; rfl, ?_⟩
        rw [← HRR.out]
        exact HW.out.done _
  · have b1 : (r == 0) = false := by simpa using k1
    rw [if_neg k1] at hRR
    by_cases k2 : r = 34
    · rw [if_pos k2] at hRR
      have HR := hid hRR
      subst k2
      clear k1 hRR
      go_wp2_with fail
      refine bodyPost_ret (results_cell3 rfl row_Block _ rfl (cellsAt_full (putCells_at H8.out.2.1.res HEZ.out.1) HEZ.out.2)) rfl ⟨by rw [← HR.out]; rfl, ?_⟩
      rw [← HR.out]
      exact H8.out.2.1.done _
    · have b2 : (r == 34) = false := by simpa using k2
      rw [if_neg k2] at hRR
      by_cases k3 : r = 32
      · rw [if_pos k3] at hRR
        have hlo := mlost_calls own5 mb pb db plb M1 zone W8 H8.out.2.1.mir H8.out.2.1.set
        obtain ⟨V, hV⟩ : ∃ V, (if (M1.quarG zone).2 = 34 then 34 else 0 : Int) = V := ⟨_, rfl⟩
        rw [hV] at hRR hlo
        have HR := hid hRR
        have HLO := hid hlo
        subst k3
        clear k1 k2 hRR hfr hV hlo
        go_wp2_with fail
        refine Calls.mono HLO.out ?_
        rintro e w9 ⟨rfl, own9, hm9, hs9, hset9⟩
        have hc9 := H8.out.2.1.turn hs9 hset9 hm9
        have hfr := cellsFree_full (n := 32) hc9.res size_z_Block
        have H9 := hid hc9
        clear hm9 hs9 hset9 hc9
        go_wp2_with fail
        refine bodyPost_ret (results_cell3 rfl row_Block _ rfl (cellsAt_full (putCells_at H9.out.res HEZ.out.1) HEZ.out.2)) rfl ⟨by rw [← HR.out]; rfl, ?_⟩
        rw [← HR.out]
        exact H9.out.done _
      · have b3 : (r == 32) = false := by simpa using k3
        rw [if_neg k3] at hRR
        have HR := hid hRR
        clear k1 k2 k3 hRR
        go_wp2_with fail
        refine bodyPost_ret (results_cell3 rfl row_Block _ rfl (cellsAt_full (putCells_at H8.out.2.1.res HEZ.out.1) HEZ.out.2)) rfl ⟨by rw [← HR.out]; rfl, ?_⟩
        rw [← HR.out]
        exact H8.out.2.1.done _
end Go.Rv

/- Mirrors: an entry is read. -/
namespace Go.Rv
open Go Go.RowKit Go.Proofs
attribute [local irreducible] wpQuiet tab0 tabV
attribute [local go_sem ↓] ld_Block st_Block al_Block bd_Block0 ld_Ent st_Ent al_Ent
attribute [local go_sem] cellsAt_new0 cellsAt_lt cellsAt_drew size_bytesV cellsFree_new0 size_z_Block

/-- an entry is read: of the first copy that is good. -/
def MirS.rd (M : MirS) (x : EntS) : MirS × List UInt8 × Int :=
  if M.lives x = false then (M, zero32, 10)
  else if (M.cp x x.zone x.mate).2.2.1 = true ∨ (M.cp x x.zone x.mate).2.2.2 ≠ 0 then ((M.cp x x.zone x.mate).1, (M.cp x x.zone x.mate).2.1, (M.cp x x.zone x.mate).2.2.2)
  else if ((M.cp x x.zone x.mate).1.cp x x.mate x.zone).2.2.1 = true ∨ ((M.cp x x.zone x.mate).1.cp x x.mate x.zone).2.2.2 ≠ 0 then (((M.cp x x.zone x.mate).1.cp x x.mate x.zone).1, ((M.cp x x.zone x.mate).1.cp x x.mate x.zone).2.1, ((M.cp x x.zone x.mate).1.cp x x.mate x.zone).2.2.2)
  else (((M.cp x x.zone x.mate).1.cp x x.mate x.zone).1, zero32, 41)
theorem index22_0 (a b c d : Int) (w : World) : (Instr.index 177 (.agg #[.int .i64 a, .int .i64 b, .int .i64 c, .int .i64 d]) (.int .i64 0)).run Tryz.prog w = .ok (.agg #[.int .i64 a, .int .i64 b]) w := by kernel_rfl
theorem index22_1 (a b c d : Int) (w : World) : (Instr.index 177 (.agg #[.int .i64 a, .int .i64 b, .int .i64 c, .int .i64 d]) (.int .i64 1)).run Tryz.prog w = .ok (.agg #[.int .i64 c, .int .i64 d]) w := by kernel_rfl
attribute [local go_sem] index22_0 index22_1
theorem cpOf_len (x : EntS) (zone mate : Int) (s : List UInt8) (hs : s.length = 64) : (cpOf x zone mate s).1.length = 32 := by
  unfold cpOf
  split
  · rfl
  · split
    · rfl
    · exact readR_len _ (atR_len s hs zone x.off)
theorem MirAt.cp_len {w : World} {own : Nat → Nat} {mb pb db plb : Nat} {M : MirS} (h : MirAt w own mb pb db plb M) (x : EntS) (zone mate : Int) : (M.cp x zone mate).2.1.length = 32 := by
  unfold MirS.cp
  split
  · exact cpOf_len x zone mate _ (h.drive.read_len zone x.off)
  · split
    · rfl
    · split <;> rfl

set_option maxHeartbeats 800000 in
set_option maxRecDepth 100000 in
theorem mread_calls (own : Nat → Nat) (mb pb db plb : Nat) (M : MirS) (x : EntS) (w : World) (h : MirAt w own mb pb db plb M) (hset : Settled own w) :
    Calls Tryz.prog 35 #[.pointer (some ⟨mb, 0, none⟩), .agg (entC x)] w fun r w' =>
    r = .returned (.tuple #[.agg (bytesV (M.rd x).2.1), .int .i64 (M.rd x).2.2]) ∧ ∃ own', MirAt w' own' mb pb db plb (M.rd x).1 ∧ Step mgTag w own w' own' ∧ Settled own' w' := by
  have b0 := heap_old _ (.cells z_Block 87) (heap_new w (.cells (entC x) 83))
  have b1 : ((w.alloc (.cells (entC x) 83)).alloc (.cells z_Block 87)).heap[w.heap.size + 1]? = some (.cells z_Block 87 (0, 0)) := by
    have := heap_new (w.alloc (.cells (entC x) 83)) (.cells z_Block 87)
    rwa [World.size_alloc] at this
  have hk0 : Keeps (fun _ => False) w ((w.alloc (.cells (entC x) 83)).alloc (.cells z_Block 87)) := (by repeat (first | exact Keeps.refl _ _ | refine Keeps.alloc ?_ _ | refine Keeps.drew ?_ | refine Keeps.drewN ?_ _ | refine Keeps.trans ?_ (by assumption)))
  obtain ⟨w0, hw0⟩ : ∃ w0, (w.alloc (.cells (entC x) 83)).alloc (.cells z_Block 87) = w0 := ⟨_, rfl⟩
  rw [hw0] at b0 b1 hk0
  have hc0 : CpAt w own mb pb db plb M x own w0 := ⟨h.still hk0, (Step.kept (A := mgTag) (hk0.mono fun _ _ h => h.elim) hset).1, hset.keeps hk0, b0, b1, hset _ (Nat.le_refl _), hset _ (by omega)⟩
  have e0 := cellsAt_full (n := 6) b0 rfl
  have hli := fun X hX => mlives_calls own mb pb db plb M x X ((h.still hk0).still hX)
  have hr0 := cellsFree_full (n := 32) b1 size_z_Block
  obtain ⟨RR, hRR⟩ : ∃ RR, M.rd x = RR := ⟨_, rfl⟩
  rw [hRR]
  unfold MirS.rd at hRR
  have ez := allOne_bytes zero32
  have ez2 : (bytesV zero32).size = 32 := rfl
  have ezs : z_Block.size = (bytesV zero32).size := size_z_Block
  have HEZ := hid (And.intro ezs ez2)
  have H0 := hid hc0
  clear h hset b0 b1 hk0 hc0 ezs
  cases hlv : M.lives x with
  | false =>
    rw [if_pos hlv] at hRR
    rw [hlv] at hli
    have HRR := hid hRR
    have HLI := hid hli
    clear hRR hli hlv
    go_enter Tryz.func35, Tryz.ntmps35
    go_wp2_with fail
    refine Calls.mono (HLI.out _ (Keeps.refl _ _)) ?_
    rintro e w1 ⟨rfl, hk1⟩
    have hc1 := H0.out.still hk1
    have hfr := cellsFree_full (n := 32) hc1.res size_z_Block
    have H1 := hid hc1
    clear hk1 hc1 hr0
    go_wp2_with fail
    refine bodyPost_ret (results_cell2 rfl row_Block _ rfl (cellsAt_full (putCells_at H1.out.res HEZ.out.1) HEZ.out.2)) rfl ⟨by rw [← HRR.out]; rfl, ?_⟩
    rw [← HRR.out]
    exact H1.out.done _
  | true =>
    rw [if_neg (by rw [hlv]; decide)] at hRR
    rw [hlv] at hli
    obtain ⟨C1, hC1⟩ : ∃ C1, M.cp x x.zone x.mate = C1 := ⟨_, rfl⟩
    rw [hC1] at hRR
    obtain ⟨C2, hC2⟩ : ∃ C2, C1.1.cp x x.mate x.zone = C2 := ⟨_, rfl⟩
    rw [hC2] at hRR
    have HRR := hid (And.intro hRR (And.intro hC1 hC2))
    have HLI := hid hli
    clear hRR hli hlv hC1 hC2
    have c1 := fun X (hX : Keeps (fun _ => False) w0 X) => cell_of (hX.heap H0.out.box id) 1
    have c2 := fun X (hX : Keeps (fun _ => False) w0 X) => cell_of (hX.heap H0.out.box id) 2
    have HC := hid (And.intro c1 c2)
    clear c1 c2
    go_enter Tryz.func35, Tryz.ntmps35
    go_wp2_with fail
    refine Calls.mono (HLI.out _ (Keeps.refl _ _)) ?_
    rintro e w1 ⟨rfl, hk1⟩
    have hc1 := H0.out.still hk1
    have c1 : w1.cell? ⟨w.heap.size, 1, none⟩ = some (.int .i64 x.zone) := HC.out.1 w1 hk1
    have c2 : w1.cell? ⟨w.heap.size, 2, none⟩ = some (.int .i64 x.mate) := HC.out.2 w1 hk1
    have H1 := hid hc1
    clear hk1 hc1 hr0 e0
    go_wp2_with fail
    go_loopg [27] 2 (fun (gk : Nat) (i : Value) (wr : World) => ∃ (d : Nat) (own5 : Nat → Nat) (Md : MirS), d + gk = 2 ∧ i = .int .i64 d ∧ CpAt w own mb pb db plb Md x own5 wr ∧ (d = 0 ∧ Md = M ∨ d = 1 ∧ Md = C1.1 ∧ C1.2.2.1 = false ∧ C1.2.2.2 = 0 ∨ d = 2 ∧ Md = C2.1 ∧ C1.2.2.1 = false ∧ C1.2.2.2 = 0 ∧ C2.2.2.1 = false ∧ C2.2.2.2 = 0))
    case atStart => exact ⟨0, own, M, by omega, rfl, H1.out, .inl ⟨rfl, rfl⟩⟩
    case round =>
      obtain ⟨d, own5, Md, hd, rfl, hin, hcs⟩ := hrel
      have e0 := cellsAt_full (n := 6) hin.box rfl
      have hlt := lt_of hin.box
      rcases hcs with ⟨rfl, rfl⟩ | ⟨rfl, rfl, k1, k2⟩ | ⟨rfl, rfl, k1, k2, k3, k4⟩
      · have hcp := fun X (hX : Keeps (fun _ => False) wr X) => mcopy_calls own5 mb pb db plb _ x x.zone x.mate X (hin.still hX).mir (hin.still hX).set
        have hlen := hin.mir.cp_len x x.zone x.mate
        rw [HRR.out.2.1] at hcp hlen
        have ey := allOne_bytes C1.2.1
        have ey2 : (bytesV C1.2.1).size = 32 := by simp [bytesV, hlen]
        have HX := hid (And.intro hin hlen)
        have HCP := hid hcp
        clear hin hcp hlen c1 c2
        go_wp2_with fail
        refine Calls.mono (HCP.out _ (by repeat (first | exact Keeps.refl _ _ | refine Keeps.alloc ?_ _ | refine Keeps.drew ?_ | refine Keeps.drewN ?_ _ | refine Keeps.setCell ?_ (fun h => absurd h (Nat.lt_irrefl _)) _ | refine keeps_put0 ?_ (fun h => absurd h (Nat.lt_irrefl _)) _ | refine Keeps.trans ?_ (by assumption)))) ?_
        rintro e w5 ⟨rfl, own6, hm6, hs6, hset6⟩
        have hc6 := (HX.out.1.still (by repeat (first | exact Keeps.refl _ _ | refine Keeps.alloc ?_ _ | refine Keeps.drew ?_ | refine Keeps.drewN ?_ _ | refine Keeps.setCell ?_ (fun h => absurd h (Nat.lt_irrefl _)) _ | refine keeps_put0 ?_ (fun h => absurd h (Nat.lt_irrefl _)) _ | refine Keeps.trans ?_ (by assumption)))).turn hs6 hset6 hm6
        have hlt6 := lt_of hc6.res
        have H6 := hid hc6
        clear hm6 hs6 hset6 hc6 e0 hlt
        cases q1 : C1.2.2.1 with
        | true =>
          have hR := HRR.out.1
          rw [if_pos (.inl q1)] at hR
          have HR := hid hR
          clear hR q1
          have hfr := fun (X : World) (hX : Keeps (fun _ => False) w5 X) => cellsFree_full (n := 32) (hX.heap H6.out.res id) size_z_Block
          have hfr2 := hfr (putCells (w5.alloc (.cells z_Block 87)) ⟨w5.heap.size, 0, none⟩ (bytesV C1.2.1)) (by repeat (first | exact Keeps.refl _ _ | refine Keeps.alloc ?_ _ | refine Keeps.drew ?_ | refine Keeps.drewN ?_ _ | refine Keeps.setCell ?_ (fun h => absurd h (Nat.lt_irrefl _)) _ | refine keeps_put0 ?_ (fun h => absurd h (Nat.lt_irrefl _)) _ | refine Keeps.trans ?_ (by assumption)))
          have hld := cellsAt_full (n := 32) (putCells_at (heap_new w5 (.cells z_Block 87)) (size_z_Block.trans ey2.symm)) ey2
          have hc7 := H6.out.still (Y := putCells (w5.alloc (.cells z_Block 87)) ⟨w5.heap.size, 0, none⟩ (bytesV C1.2.1)) (by repeat (first | exact Keeps.refl _ _ | refine Keeps.alloc ?_ _ | refine Keeps.drew ?_ | refine Keeps.drewN ?_ _ | refine Keeps.setCell ?_ (fun h => absurd h (Nat.lt_irrefl _)) _ | refine keeps_put0 ?_ (fun h => absurd h (Nat.lt_irrefl _)) _ | refine Keeps.trans ?_ (by assumption)))
          have H7 := hid hc7
          clear hfr hc7
          go_wp2_with fail
          refine bodyPost_ret (results_cell2 rfl row_Block _ rfl (cellsAt_full (putCells_at H7.out.res (size_z_Block.trans ey2.symm)) ey2)) rfl ⟨by rw [← HR.out]; rfl, ?_⟩
          rw [← HR.out]
          exact H7.out.done _
        | false =>
          by_cases q2 : C1.2.2.2 ≠ 0
          · have hR := HRR.out.1
            rw [if_pos (.inr q2)] at hR
            have HR := hid hR
            have q3 : (C1.2.2.2 != 0) = true := by simpa using q2
            have hR : (C1.1, C1.2.1, C1.2.2.2) = RR := hR
            clear hR q1 q2
            have hfr := fun (X : World) (hX : Keeps (fun _ => False) w5 X) => cellsFree_full (n := 32) (hX.heap H6.out.res id) size_z_Block
            have hfr2 := hfr (putCells (w5.alloc (.cells z_Block 87)) ⟨w5.heap.size, 0, none⟩ (bytesV C1.2.1)) (by repeat (first | exact Keeps.refl _ _ | refine Keeps.alloc ?_ _ | refine Keeps.drew ?_ | refine Keeps.drewN ?_ _ | refine Keeps.setCell ?_ (fun h => absurd h (Nat.lt_irrefl _)) _ | refine keeps_put0 ?_ (fun h => absurd h (Nat.lt_irrefl _)) _ | refine Keeps.trans ?_ (by assumption)))
            have hld := cellsAt_full (n := 32) (putCells_at (heap_new w5 (.cells z_Block 87)) (size_z_Block.trans ey2.symm)) ey2
            have hc7 := H6.out.still (Y := putCells (w5.alloc (.cells z_Block 87)) ⟨w5.heap.size, 0, none⟩ (bytesV C1.2.1)) (by repeat (first | exact Keeps.refl _ _ | refine Keeps.alloc ?_ _ | refine Keeps.drew ?_ | refine Keeps.drewN ?_ _ | refine Keeps.setCell ?_ (fun h => absurd h (Nat.lt_irrefl _)) _ | refine keeps_put0 ?_ (fun h => absurd h (Nat.lt_irrefl _)) _ | refine Keeps.trans ?_ (by assumption)))
            have H7 := hid hc7
            clear hfr hc7
            go_wp2_with fail
            refine bodyPost_ret (results_cell2 rfl row_Block _ rfl (cellsAt_full (putCells_at H7.out.res (size_z_Block.trans ey2.symm)) ey2)) rfl ⟨by rw [← HR.out]; rfl, ?_⟩
            rw [← HR.out]
            exact H7.out.done _
          · have q3 : (C1.2.2.2 != 0) = false := by simpa using q2
            have q2' : C1.2.2.2 = 0 := by simpa using q2
            have Q2 := hid q2'
            have Q1 := hid q1
            have hc7 := H6.out.still (Y := putCells (w5.alloc (.cells z_Block 87)) ⟨w5.heap.size, 0, none⟩ (bytesV C1.2.1)) (by repeat (first | exact Keeps.refl _ _ | refine Keeps.alloc ?_ _ | refine Keeps.drew ?_ | refine Keeps.drewN ?_ _ | refine Keeps.setCell ?_ (fun h => absurd h (Nat.lt_irrefl _)) _ | refine keeps_put0 ?_ (fun h => absurd h (Nat.lt_irrefl _)) _ | refine Keeps.trans ?_ (by assumption)))
            have H7 := hid hc7
            clear hc7 q1 q2 q2'
            go_wp2_with fail
            go_roundg (gk - 1)
            case measure => omega
            case rel => exact ⟨1, own6, C1.1, by omega, by go_num, H7.out, .inr (.inl ⟨rfl, rfl, Q1.out, Q2.out⟩)⟩
      · have hcp := fun X (hX : Keeps (fun _ => False) wr X) => mcopy_calls own5 mb pb db plb _ x x.mate x.zone X (hin.still hX).mir (hin.still hX).set
        have hlen := hin.mir.cp_len x x.mate x.zone
        rw [HRR.out.2.2] at hcp hlen
        have ey := allOne_bytes C2.2.1
        have ey2 : (bytesV C2.2.1).size = 32 := by simp [bytesV, hlen]
        have HX := hid (And.intro hin hlen)
        have HCP := hid hcp
        clear hin hcp hlen c1 c2
        go_wp2_with fail
        refine Calls.mono (HCP.out _ (by repeat (first | exact Keeps.refl _ _ | refine Keeps.alloc ?_ _ | refine Keeps.drew ?_ | refine Keeps.drewN ?_ _ | refine Keeps.setCell ?_ (fun h => absurd h (Nat.lt_irrefl _)) _ | refine keeps_put0 ?_ (fun h => absurd h (Nat.lt_irrefl _)) _ | refine Keeps.trans ?_ (by assumption)))) ?_
        rintro e w5 ⟨rfl, own6, hm6, hs6, hset6⟩
        have hc6 := (HX.out.1.still (by repeat (first | exact Keeps.refl _ _ | refine Keeps.alloc ?_ _ | refine Keeps.drew ?_ | refine Keeps.drewN ?_ _ | refine Keeps.setCell ?_ (fun h => absurd h (Nat.lt_irrefl _)) _ | refine keeps_put0 ?_ (fun h => absurd h (Nat.lt_irrefl _)) _ | refine Keeps.trans ?_ (by assumption)))).turn hs6 hset6 hm6
        have hlt6 := lt_of hc6.res
        have H6 := hid hc6
        clear hm6 hs6 hset6 hc6 e0 hlt
        cases q1 : C2.2.2.1 with
        | true =>
          have hR := HRR.out.1
          rw [if_neg (by rw [k1, k2]; simp), if_pos (.inl q1)] at hR
          have HR := hid hR
          clear hR q1
          have hfr := fun (X : World) (hX : Keeps (fun _ => False) w5 X) => cellsFree_full (n := 32) (hX.heap H6.out.res id) size_z_Block
          have hfr2 := hfr (putCells (w5.alloc (.cells z_Block 87)) ⟨w5.heap.size, 0, none⟩ (bytesV C2.2.1)) (by repeat (first | exact Keeps.refl _ _ | refine Keeps.alloc ?_ _ | refine Keeps.drew ?_ | refine Keeps.drewN ?_ _ | refine Keeps.setCell ?_ (fun h => absurd h (Nat.lt_irrefl _)) _ | refine keeps_put0 ?_ (fun h => absurd h (Nat.lt_irrefl _)) _ | refine Keeps.trans ?_ (by assumption)))
          have hld := cellsAt_full (n := 32) (putCells_at (heap_new w5 (.cells z_Block 87)) (size_z_Block.trans ey2.symm)) ey2
          have hc7 := H6.out.still (Y := putCells (w5.alloc (.cells z_Block 87)) ⟨w5.heap.size, 0, none⟩ (bytesV C2.2.1)) (by repeat (first | exact Keeps.refl _ _ | refine Keeps.alloc ?_ _ | refine Keeps.drew ?_ | refine Keeps.drewN ?_ _ | refine Keeps.setCell ?_ (fun h => absurd h (Nat.lt_irrefl _)) _ | refine keeps_put0 ?_ (fun h => absurd h (Nat.lt_irrefl _)) _ | refine Keeps.trans ?_ (by assumption)))
          have H7 := hid hc7
          clear hfr hc7
          go_wp2_with fail
          refine bodyPost_ret (results_cell2 rfl row_Block _ rfl (cellsAt_full (putCells_at H7.out.res (size_z_Block.trans ey2.symm)) ey2)) rfl ⟨by rw [← HR.out]; rfl, ?_⟩
          rw [← HR.out]
          exact H7.out.done _
        | false =>
          by_cases q2 : C2.2.2.2 ≠ 0
          · have hR := HRR.out.1
            rw [if_neg (by rw [k1, k2]; simp), if_pos (.inr q2)] at hR
            have HR := hid hR
            have q3 : (C2.2.2.2 != 0) = true := by simpa using q2
            have hR : (C2.1, C2.2.1, C2.2.2.2) = RR := hR
            clear hR q1 q2
            have hfr := fun (X : World) (hX : Keeps (fun _ => False) w5 X) => cellsFree_full (n := 32) (hX.heap H6.out.res id) size_z_Block
            have hfr2 := hfr (putCells (w5.alloc (.cells z_Block 87)) ⟨w5.heap.size, 0, none⟩ (bytesV C2.2.1)) (by repeat (first | exact Keeps.refl _ _ | refine Keeps.alloc ?_ _ | refine Keeps.drew ?_ | refine Keeps.drewN ?_ _ | refine Keeps.setCell ?_ (fun h => absurd h (Nat.lt_irrefl _)) _ | refine keeps_put0 ?_ (fun h => absurd h (Nat.lt_irrefl _)) _ | refine Keeps.trans ?_ (by assumption)))
            have hld := cellsAt_full (n := 32) (putCells_at (heap_new w5 (.cells z_Block 87)) (size_z_Block.trans ey2.symm)) ey2
            have hc7 := H6.out.still (Y := putCells (w5.alloc (.cells z_Block 87)) ⟨w5.heap.size, 0, none⟩ (bytesV C2.2.1)) (by repeat (first | exact Keeps.refl _ _ | refine Keeps.alloc ?_ _ | refine Keeps.drew ?_ | refine Keeps.drewN ?_ _ | refine Keeps.setCell ?_ (fun h => absurd h (Nat.lt_irrefl _)) _ | refine keeps_put0 ?_ (fun h => absurd h (Nat.lt_irrefl _)) _ | refine Keeps.trans ?_ (by assumption)))
            have H7 := hid hc7
            clear hfr hc7
            go_wp2_with fail
            refine bodyPost_ret (results_cell2 rfl row_Block _ rfl (cellsAt_full (putCells_at H7.out.res (size_z_Block.trans ey2.symm)) ey2)) rfl ⟨by rw [← HR.out]; rfl, ?_⟩
            rw [← HR.out]
            exact H7.out.done _
          · have q3 : (C2.2.2.2 != 0) = false := by simpa using q2
            have q2' : C2.2.2.2 = 0 := by simpa using q2
            have Q2 := hid q2'
            have Q1 := hid q1
            have hc7 := H6.out.still (Y := putCells (w5.alloc (.cells z_Block 87)) ⟨w5.heap.size, 0, none⟩ (bytesV C2.2.1)) (by repeat (first | exact Keeps.refl _ _ | refine Keeps.alloc ?_ _ | refine Keeps.drew ?_ | refine Keeps.drewN ?_ _ | refine Keeps.setCell ?_ (fun h => absurd h (Nat.lt_irrefl _)) _ | refine keeps_put0 ?_ (fun h => absurd h (Nat.lt_irrefl _)) _ | refine Keeps.trans ?_ (by assumption)))
            have H7 := hid hc7
            clear hc7 q1 q2 q2'
            go_wp2_with fail
            go_roundg (gk - 1)
            case measure => omega
            case rel => exact ⟨2, own6, C2.1, by omega, by go_num, H7.out, .inr (.inr ⟨rfl, rfl, k1, k2, Q1.out, Q2.out⟩)⟩
      · have hfr := cellsFree_full (n := 32) hin.res size_z_Block
        have hR := HRR.out.1
        rw [if_neg (by rw [k1, k2]; simp), if_neg (by rw [k3, k4]; simp)] at hR
        have HR := hid hR
        have HX := hid hin
        clear hin c1 c2 e0 hlt hR k1 k2 k3 k4
        go_wp2_with fail
        refine bodyPost_ret (results_cell2 rfl row_Block _ rfl (cellsAt_full (putCells_at HX.out.res HEZ.out.1) HEZ.out.2)) rfl ⟨by rw [← HR.out]; rfl, ?_⟩
        rw [← HR.out]
        exact HX.out.done _
end Go.Rv

/- Mirrors: both copies of an entry are read. -/
namespace Go.Rv
open Go Go.RowKit Go.Proofs
attribute [local irreducible] wpQuiet tab0 tabV
attribute [local go_sem ↓] ld_Block st_Block al_Block bd_Block0 ld_Ent st_Ent al_Ent
attribute [local go_sem] cellsAt_new0 cellsAt_lt cellsAt_drew size_bytesV cellsFree_new0 size_z_Block index22_0 index22_1

/-- one copy more: the bytes, how many are good in zones that aren't bad, how many are good. -/
def ckO (C : MirS × List UInt8 × Bool × Int) (O : List UInt8) : List UInt8 := if C.2.2.1 = true then C.2.1 else O
def ckN (C : MirS × List UInt8 × Bool × Int) (z : Int) : Nat := if C.2.2.1 = true ∧ C.1.isBad z = false then 1 else 0
def ckG (C : MirS × List UInt8 × Bool × Int) : Nat := if C.2.2.1 = true then 1 else 0
/-- both copies of an entry are read. -/
def MirS.chk (M : MirS) (x : EntS) : MirS × List UInt8 × Int × Int :=
  if M.lives x = false then (M, zero32, 0, 10)
  else if (M.cp x x.zone x.mate).2.2.2 ≠ 0 then ((M.cp x x.zone x.mate).1, zero32, 0, (M.cp x x.zone x.mate).2.2.2)
  else if ((M.cp x x.zone x.mate).1.cp x x.mate x.zone).2.2.2 ≠ 0 then (((M.cp x x.zone x.mate).1.cp x x.mate x.zone).1, zero32, 0, ((M.cp x x.zone x.mate).1.cp x x.mate x.zone).2.2.2)
  else if ckG (M.cp x x.zone x.mate) + ckG ((M.cp x x.zone x.mate).1.cp x x.mate x.zone) = 0 then (((M.cp x x.zone x.mate).1.cp x x.mate x.zone).1, zero32, 0, 41)
  else (((M.cp x x.zone x.mate).1.cp x x.mate x.zone).1, ckO ((M.cp x x.zone x.mate).1.cp x x.mate x.zone) (ckO (M.cp x x.zone x.mate) zero32), (ckN (M.cp x x.zone x.mate) x.zone + ckN ((M.cp x x.zone x.mate).1.cp x x.mate x.zone) x.mate : Nat), 0)
theorem ckN_le (C : MirS × List UInt8 × Bool × Int) (z : Int) : ckN C z ≤ 1 := by unfold ckN; split <;> omega
theorem ckG_le (C : MirS × List UInt8 × Bool × Int) : ckG C ≤ 1 := by unfold ckG; split <;> omega

/-- between two rounds: beside the entry's box and the result's block the bytes found so far. -/
structure CkAt (w : World) (own : Nat → Nat) (mb pb db plb : Nat) (M : MirS) (x : EntS) (O : List UInt8) (ob : Nat) (own5 : Nat → Nat) (X : World) : Prop where
  cp : CpAt w own mb pb db plb M x own5 X
  out : X.heap[ob]? = some (.cells (bytesV O) 87 (0, 0))
  zero : own5 ob = 0
  len : O.length = 32
  far : w.heap.size + 2 ≤ ob
theorem CkAt.still {w : World} {own : Nat → Nat} {mb pb db plb : Nat} {M : MirS} {x : EntS} {O : List UInt8} {ob : Nat} {own5 : Nat → Nat} {X Y : World} (h : CkAt w own mb pb db plb M x O ob own5 X) (hk : Keeps (fun _ => False) X Y) : CkAt w own mb pb db plb M x O ob own5 Y :=
  ⟨h.cp.still hk, hk.heap h.out id, h.zero, h.len, h.far⟩
theorem CkAt.turn {w : World} {own : Nat → Nat} {mb pb db plb : Nat} {M M' : MirS} {x : EntS} {O : List UInt8} {ob : Nat} {own5 own6 : Nat → Nat} {X Y : World} (h : CkAt w own mb pb db plb M x O ob own5 X) (hs : Step mgTag X own5 Y own6) (hse : Settled own6 Y) (hm : MirAt Y own6 mb pb db plb M') : CkAt w own mb pb db plb M' x O ob own6 Y :=
  ⟨h.cp.turn hs hse hm, hs.heap h.out (by rw [h.zero]; exact mgTag_zero), (hs.agree _ (lt_of h.out)).trans h.zero, h.len, h.far⟩
theorem CkAt.put {w : World} {own : Nat → Nat} {mb pb db plb : Nat} {M : MirS} {x : EntS} {O O' : List UInt8} {ob : Nat} {own5 : Nat → Nat} {X : World} (h : CkAt w own mb pb db plb M x O ob own5 X) (hl : O'.length = 32) : CkAt w own mb pb db plb M x O' ob own5 (putCells X ⟨ob, 0, none⟩ (bytesV O')) :=
  ⟨h.cp.put (b := ob) (keeps_put0 (M := fun k => k = ob) (Keeps.refl _ _) (fun _ => rfl) _) h.far h.zero, putCells_at h.out (by simp [bytesV, hl, h.len]), h.zero, hl, h.far⟩

set_option maxHeartbeats 800000 in
set_option maxRecDepth 100000 in
theorem mcheck_calls (own : Nat → Nat) (mb pb db plb : Nat) (M : MirS) (x : EntS) (w : World) (h : MirAt w own mb pb db plb M) (hset : Settled own w) :
    Calls Tryz.prog 41 #[.pointer (some ⟨mb, 0, none⟩), .agg (entC x)] w fun r w' =>
    r = .returned (.tuple #[.agg (bytesV (M.chk x).2.1), .int .i64 (M.chk x).2.2.1, .int .i64 (M.chk x).2.2.2]) ∧ ∃ own', MirAt w' own' mb pb db plb (M.chk x).1 ∧ Step mgTag w own w' own' ∧ Settled own' w' := by
  have b0 := heap_old _ (.cells z_Block 87) (heap_new w (.cells (entC x) 83))
  have b1 : ((w.alloc (.cells (entC x) 83)).alloc (.cells z_Block 87)).heap[w.heap.size + 1]? = some (.cells z_Block 87 (0, 0)) := by
    have := heap_new (w.alloc (.cells (entC x) 83)) (.cells z_Block 87)
    rwa [World.size_alloc] at this
  have hk0 : Keeps (fun _ => False) w ((w.alloc (.cells (entC x) 83)).alloc (.cells z_Block 87)) := (by repeat (first | exact Keeps.refl _ _ | refine Keeps.alloc ?_ _ | refine Keeps.drew ?_ | refine Keeps.drewN ?_ _ | refine Keeps.trans ?_ (by assumption)))
  have hz0 : ((w.alloc (.cells (entC x) 83)).alloc (.cells z_Block 87)).heap.size = w.heap.size + 2 := by rw [World.size_alloc, World.size_alloc]
  obtain ⟨w0, hw0⟩ : ∃ w0, (w.alloc (.cells (entC x) 83)).alloc (.cells z_Block 87) = w0 := ⟨_, rfl⟩
  rw [hw0] at b0 b1 hk0 hz0
  have hc0 : CpAt w own mb pb db plb M x own w0 := ⟨h.still hk0, (Step.kept (A := mgTag) (hk0.mono fun _ _ h => h.elim) hset).1, hset.keeps hk0, b0, b1, hset _ (Nat.le_refl _), hset _ (by omega)⟩
  have e0 := cellsAt_full (n := 6) b0 rfl
  have hli := fun X hX => mlives_calls own mb pb db plb M x X ((h.still hk0).still hX)
  obtain ⟨RR, hRR⟩ : ∃ RR, M.chk x = RR := ⟨_, rfl⟩
  rw [hRR]
  unfold MirS.chk at hRR
  have ez := allOne_bytes zero32
  have ez2 : (bytesV zero32).size = 32 := rfl
  have ezs : z_Block.size = (bytesV zero32).size := size_z_Block
  have HEZ := hid (And.intro ezs ez2)
  have H0 := hid (And.intro hc0 (And.intro hset hz0))
  clear h hset b0 b1 hk0 hc0 ezs hz0
  cases hlv : M.lives x with
  | false =>
    rw [if_pos hlv] at hRR
    rw [hlv] at hli
    have HRR := hid hRR
    have HLI := hid hli
    clear hRR hli hlv
    go_enter Tryz.func41, Tryz.ntmps41
    go_wp2_with fail
    refine Calls.mono (HLI.out _ (Keeps.refl _ _)) ?_
    rintro e w1 ⟨rfl, hk1⟩
    have hc1 := H0.out.1.still hk1
    have hfr := cellsFree_full (n := 32) hc1.res size_z_Block
    have H1 := hid hc1
    clear hk1 hc1
    go_wp2_with fail
    refine bodyPost_ret (results_cell3 rfl row_Block _ rfl (cellsAt_full (putCells_at H1.out.res HEZ.out.1) HEZ.out.2)) rfl ⟨by rw [← HRR.out]; rfl, ?_⟩
    rw [← HRR.out]
    exact H1.out.done _
  | true =>
    rw [if_neg (by rw [hlv]; decide)] at hRR
    rw [hlv] at hli
    obtain ⟨C1, hC1⟩ : ∃ C1, M.cp x x.zone x.mate = C1 := ⟨_, rfl⟩
    rw [hC1] at hRR
    obtain ⟨C2, hC2⟩ : ∃ C2, C1.1.cp x x.mate x.zone = C2 := ⟨_, rfl⟩
    rw [hC2] at hRR
    have HRR := hid (And.intro hRR (And.intro hC1 hC2))
    have HLI : Hid (Calls Tryz.prog 83 #[.pointer (some ⟨mb, 0, none⟩), .agg (entC x)] w0 fun e w' => e = .returned (.bool true) ∧ Keeps (fun _ => False) w0 w') := hid (hli _ (Keeps.refl _ _))
    clear hRR hli hlv hC1 hC2
    go_enter Tryz.func41, Tryz.ntmps41
    go_wp2_with fail
    refine Calls.mono HLI.out ?_
    rintro e w1 ⟨rfl, hk1⟩
    have hc1 := H0.out.1.still hk1
    have H1 := hid (And.intro hc1 hk1)
    have hlt := lt_of hc1.box
    have c1 := cell_of hc1.box 1
    have c2 := cell_of hc1.box 2
    simp only [entC] at c1 c2
    clear hk1 hc1 e0
    go_wp2_with fail
    have hci : CkAt w own mb pb db plb M x zero32 w1.heap.size own (w1.alloc (.cells z_Block 87)) :=
      ⟨H1.out.1.still (by repeat (first | exact Keeps.refl _ _ | refine Keeps.alloc ?_ _ | refine Keeps.drew ?_ | refine Keeps.drewN ?_ _ | refine Keeps.trans ?_ (by assumption))), by rw [← zblock_bytes]; exact heap_new _ _, H1.out.1.set _ (Nat.le_refl _), rfl, by have := H1.out.2.size; have := H0.out.2.2; omega⟩
    have HCI := hid hci
    clear hci hlt
    generalize w1.heap.size = ob at HCI ⊢
    go_loopg [8, 9, 31] 2 (fun (gk : Nat) (nv gv i : Value) (wr : World) => ∃ (d : Nat) (own5 : Nat → Nat) (Md : MirS) (O : List UInt8) (nn ng : Nat), d + gk = 2 ∧ i = .int .i64 d ∧ nv = .int .i64 nn ∧ gv = .int .i64 ng ∧ CkAt w own mb pb db plb Md x O ob own5 wr ∧ (d = 0 ∧ Md = M ∧ O = zero32 ∧ nn = 0 ∧ ng = 0 ∨ d = 1 ∧ Md = C1.1 ∧ O = ckO C1 zero32 ∧ nn = ckN C1 x.zone ∧ ng = ckG C1 ∧ C1.2.2.2 = 0 ∨ d = 2 ∧ Md = C2.1 ∧ O = ckO C2 (ckO C1 zero32) ∧ nn = ckN C1 x.zone + ckN C2 x.mate ∧ ng = ckG C1 + ckG C2 ∧ C1.2.2.2 = 0 ∧ C2.2.2.2 = 0))
    case atStart => exact ⟨0, own, M, zero32, 0, 0, by omega, rfl, rfl, rfl, HCI.out, .inl ⟨rfl, rfl, rfl, rfl, rfl⟩⟩
    case round =>
      obtain ⟨d, own5, Md, O, nn, ng, hd, rfl, rfl, rfl, hin, hcs⟩ := hrel
      have e0 := cellsAt_full (n := 6) hin.cp.box rfl
      have hlt := lt_of hin.cp.box
      rcases hcs with ⟨rfl, rfl, rfl, rfl, rfl⟩ | ⟨rfl, rfl, rfl, rfl, rfl, k1⟩ | ⟨rfl, rfl, rfl, rfl, rfl, k1, k2⟩
      · have hcp := fun X (hX : Keeps (fun _ => False) wr X) => mcopy_calls own5 mb pb db plb _ x x.zone x.mate X (hin.cp.still hX).mir (hin.cp.still hX).set
        have hlen := hin.cp.mir.cp_len x x.zone x.mate
        rw [HRR.out.2.1] at hcp hlen
        have ey := allOne_bytes C1.2.1
        have ey2 : (bytesV C1.2.1).size = 32 := by simp [bytesV, hlen]
        have HX := hid (And.intro hin hlen)
        have HCP := hid hcp
        clear hin hcp hlen c1 c2
        go_wp2_with fail
        refine Calls.mono (HCP.out _ (by repeat (first | exact Keeps.refl _ _ | refine Keeps.alloc ?_ _ | refine Keeps.drew ?_ | refine Keeps.drewN ?_ _ | refine Keeps.setCell ?_ (fun h => absurd h (Nat.lt_irrefl _)) _ | refine keeps_put0 ?_ (fun h => absurd h (Nat.lt_irrefl _)) _ | refine Keeps.trans ?_ (by assumption)))) ?_
        rintro e w5 ⟨rfl, own6, hm6, hs6, hset6⟩
        have hc6 := (HX.out.1.still (Y := wr.alloc (.cells #[.int .i64 x.zone, .int .i64 x.mate] 176)) (by repeat (first | exact Keeps.refl _ _ | refine Keeps.alloc ?_ _ | refine Keeps.drew ?_ | refine Keeps.drewN ?_ _ | refine Keeps.setCell ?_ (fun h => absurd h (Nat.lt_irrefl _)) _ | refine keeps_put0 ?_ (fun h => absurd h (Nat.lt_irrefl _)) _ | refine Keeps.trans ?_ (by assumption)))).turn hs6 hset6 hm6
        have hb6 := hs6.heap (heap_new wr (.cells #[.int .i64 x.zone, .int .i64 x.mate] 176)) (by rw [HX.out.1.cp.set _ (Nat.le_refl _)]; exact mgTag_zero)
        have hlt6 := lt_of hc6.cp.res
        have hc7 := hc6.still (Y := putCells (w5.alloc (.cells z_Block 87)) ⟨w5.heap.size, 0, none⟩ (bytesV C1.2.1)) (by repeat (first | exact Keeps.refl _ _ | refine Keeps.alloc ?_ _ | refine Keeps.drew ?_ | refine Keeps.drewN ?_ _ | refine Keeps.setCell ?_ (fun h => absurd h (Nat.lt_irrefl _)) _ | refine keeps_put0 ?_ (fun h => absurd h (Nat.lt_irrefl _)) _ | refine Keeps.trans ?_ (by assumption)))
        have hb7 := (Keeps.heap (M := fun _ => False) (w' := putCells (w5.alloc (.cells z_Block 87)) ⟨w5.heap.size, 0, none⟩ (bytesV C1.2.1)) (by repeat (first | exact Keeps.refl _ _ | refine Keeps.alloc ?_ _ | refine Keeps.drew ?_ | refine Keeps.drewN ?_ _ | refine Keeps.setCell ?_ (fun h => absurd h (Nat.lt_irrefl _)) _ | refine keeps_put0 ?_ (fun h => absurd h (Nat.lt_irrefl _)) _ | refine Keeps.trans ?_ (by assumption))) hb6 id)
        have hl7 := putCells_at (heap_new w5 (.cells z_Block 87)) (size_z_Block.trans ey2.symm)
        obtain ⟨w7, hw7⟩ : ∃ w7, putCells (w5.alloc (.cells z_Block 87)) ⟨w5.heap.size, 0, none⟩ (bytesV C1.2.1) = w7 := ⟨_, rfl⟩
        rw [hw7] at hc7 hb7 hl7
        have hfr := cellsFree_full (n := 32) hc7.cp.res size_z_Block
        have H6 := hid (And.intro hc7 (And.intro hb7 hl7))
        clear hm6 hs6 hset6 hc6 e0 hlt hb6 hc7 hb7 hl7
        by_cases q2 : C1.2.2.2 ≠ 0
        · have hR := HRR.out.1
          rw [if_pos q2] at hR
          have HR := hid hR
          have q3 : (C1.2.2.2 != 0) = true := by simpa using q2
          clear hR q2
          go_wp2_with fail
          refine bodyPost_ret (results_cell3 rfl row_Block _ rfl (cellsAt_full (putCells_at H6.out.1.cp.res HEZ.out.1) HEZ.out.2)) rfl ⟨by rw [← HR.out]; rfl, ?_⟩
          rw [← HR.out]
          exact H6.out.1.cp.done _
        · have q3 : (C1.2.2.2 != 0) = false := by simpa using q2
          have q2' : C1.2.2.2 = 0 := by simpa using q2
          have Q2 := hid q2'
          clear q2 q2'
          cases q1 : C1.2.2.1 with
          | false =>
            have u1 : ckO C1 zero32 = zero32 := by unfold ckO; rw [if_neg (by rw [q1]; decide)]
            have u2 : ckN C1 x.zone = 0 := by unfold ckN; rw [if_neg (by rw [q1]; exact fun h => absurd h.1 (by decide))]
            have u3 : ckG C1 = 0 := by unfold ckG; rw [if_neg (by rw [q1]; decide)]
            have HU := hid (And.intro u1 (And.intro u2 u3))
            clear q1 u1 u2 u3
            go_wp2_with fail
            go_roundg (gk - 1)
            case measure => omega
            case rel => exact ⟨1, own6, C1.1, ckO C1 zero32, ckN C1 x.zone, ckG C1, by omega, by go_num, by rw [HU.out.2.1]; go_num, by rw [HU.out.2.2]; go_num, by rw [HU.out.1]; exact H6.out.1, .inr (.inl ⟨rfl, rfl, rfl, rfl, rfl, Q2.out⟩)⟩
          | true =>
            have u1 : ckO C1 zero32 = C1.2.1 := by unfold ckO; rw [if_pos q1]
            have u3 : ckG C1 = 1 := by unfold ckG; rw [if_pos q1]
            have hld := cellsAt_full (n := 32) H6.out.2.2 ey2
            have hfo := cellsFree_full (n := 32) H6.out.1.out (by simp [bytesV, H6.out.1.len])
            have hc8 := H6.out.1.put (O' := C1.2.1) HX.out.2
            have hne : wr.heap.size ≠ ob := by have := lt_of HX.out.1.out; omega
            have hb8 : (putCells w7 ⟨ob, 0, none⟩ (bytesV C1.2.1)).heap[wr.heap.size]? = _ := (putCells_ne w7 0 (bytesV C1.2.1) hne).trans H6.out.2.1
            obtain ⟨w8, hw8⟩ : ∃ w8, putCells w7 ⟨ob, 0, none⟩ (bytesV C1.2.1) = w8 := ⟨_, rfl⟩
            rw [hw8] at hc8 hb8
            have cz := cell_of hb8 0
            have H8 := hid hc8
            have HU := hid (And.intro u1 u3)
            have Q1 := hid q1
            clear q1 u1 u3 hc8 hb8 hne
            go_wp2_with fail
            refine Calls.mono (mbad_calls own6 mb pb db plb C1.1 x.zone w8 H8.out.cp.mir) ?_
            rintro e w9 ⟨rfl, hk9⟩
            have H9 := hid (H8.out.still hk9)
            clear hk9 cz hld hfo hfr
            cases qb : C1.1.isBad x.zone with
            | true =>
              have u2 : ckN C1 x.zone = 0 := by unfold ckN; rw [if_neg (by rw [qb]; exact fun h => absurd h.2 (by decide))]
              have HU2 := hid u2
              clear qb u2
              go_wp2_with fail
              go_roundg (gk - 1)
              case measure => omega
              case rel => exact ⟨1, own6, C1.1, ckO C1 zero32, ckN C1 x.zone, ckG C1, by omega, by go_num, by rw [HU2.out]; go_num, by rw [HU.out.2]; go_num, by rw [HU.out.1]; exact H9.out, .inr (.inl ⟨rfl, rfl, rfl, rfl, rfl, Q2.out⟩)⟩
            | false =>
              have u2 : ckN C1 x.zone = 1 := by unfold ckN; rw [if_pos ⟨Q1.out, qb⟩]
              have HU2 := hid u2
              clear qb u2
              go_wp2_with fail
              go_roundg (gk - 1)
              case measure => omega
              case rel => exact ⟨1, own6, C1.1, ckO C1 zero32, ckN C1 x.zone, ckG C1, by omega, by go_num, by rw [HU2.out]; go_num, by rw [HU.out.2]; go_num, by rw [HU.out.1]; exact H9.out, .inr (.inl ⟨rfl, rfl, rfl, rfl, rfl, Q2.out⟩)⟩
      · have hcp := fun X (hX : Keeps (fun _ => False) wr X) => mcopy_calls own5 mb pb db plb _ x x.mate x.zone X (hin.cp.still hX).mir (hin.cp.still hX).set
        have hlen := hin.cp.mir.cp_len x x.mate x.zone
        rw [HRR.out.2.2] at hcp hlen
        have ey := allOne_bytes C2.2.1
        have ey2 : (bytesV C2.2.1).size = 32 := by simp [bytesV, hlen]
        have HX := hid (And.intro hin hlen)
        have HCP := hid hcp
        have hn1 := ckN_le C1 x.zone
        have hg1 := ckG_le C1
        clear hin hcp hlen c1 c2
        go_wp2_with fail
        refine Calls.mono (HCP.out _ (by repeat (first | exact Keeps.refl _ _ | refine Keeps.alloc ?_ _ | refine Keeps.drew ?_ | refine Keeps.drewN ?_ _ | refine Keeps.setCell ?_ (fun h => absurd h (Nat.lt_irrefl _)) _ | refine keeps_put0 ?_ (fun h => absurd h (Nat.lt_irrefl _)) _ | refine Keeps.trans ?_ (by assumption)))) ?_
        rintro e w5 ⟨rfl, own6, hm6, hs6, hset6⟩
        have hc6 := (HX.out.1.still (Y := wr.alloc (.cells #[.int .i64 x.mate, .int .i64 x.zone] 176)) (by repeat (first | exact Keeps.refl _ _ | refine Keeps.alloc ?_ _ | refine Keeps.drew ?_ | refine Keeps.drewN ?_ _ | refine Keeps.setCell ?_ (fun h => absurd h (Nat.lt_irrefl _)) _ | refine keeps_put0 ?_ (fun h => absurd h (Nat.lt_irrefl _)) _ | refine Keeps.trans ?_ (by assumption)))).turn hs6 hset6 hm6
        have hb6 := hs6.heap (heap_new wr (.cells #[.int .i64 x.mate, .int .i64 x.zone] 176)) (by rw [HX.out.1.cp.set _ (Nat.le_refl _)]; exact mgTag_zero)
        have hlt6 := lt_of hc6.cp.res
        have hc7 := hc6.still (Y := putCells (w5.alloc (.cells z_Block 87)) ⟨w5.heap.size, 0, none⟩ (bytesV C2.2.1)) (by repeat (first | exact Keeps.refl _ _ | refine Keeps.alloc ?_ _ | refine Keeps.drew ?_ | refine Keeps.drewN ?_ _ | refine Keeps.setCell ?_ (fun h => absurd h (Nat.lt_irrefl _)) _ | refine keeps_put0 ?_ (fun h => absurd h (Nat.lt_irrefl _)) _ | refine Keeps.trans ?_ (by assumption)))
        have hb7 := (Keeps.heap (M := fun _ => False) (w' := putCells (w5.alloc (.cells z_Block 87)) ⟨w5.heap.size, 0, none⟩ (bytesV C2.2.1)) (by repeat (first | exact Keeps.refl _ _ | refine Keeps.alloc ?_ _ | refine Keeps.drew ?_ | refine Keeps.drewN ?_ _ | refine Keeps.setCell ?_ (fun h => absurd h (Nat.lt_irrefl _)) _ | refine keeps_put0 ?_ (fun h => absurd h (Nat.lt_irrefl _)) _ | refine Keeps.trans ?_ (by assumption))) hb6 id)
        have hl7 := putCells_at (heap_new w5 (.cells z_Block 87)) (size_z_Block.trans ey2.symm)
        obtain ⟨w7, hw7⟩ : ∃ w7, putCells (w5.alloc (.cells z_Block 87)) ⟨w5.heap.size, 0, none⟩ (bytesV C2.2.1) = w7 := ⟨_, rfl⟩
        rw [hw7] at hc7 hb7 hl7
        have hfr := cellsFree_full (n := 32) hc7.cp.res size_z_Block
        have H6 := hid (And.intro hc7 (And.intro hb7 hl7))
        clear hm6 hs6 hset6 hc6 e0 hlt hb6 hc7 hb7 hl7
        by_cases q2 : C2.2.2.2 ≠ 0
        · have hR := HRR.out.1
          rw [if_neg (by rw [k1]; simp), if_pos q2] at hR
          have HR := hid hR
          have q3 : (C2.2.2.2 != 0) = true := by simpa using q2
          clear hR q2
          go_wp2_with fail
          refine bodyPost_ret (results_cell3 rfl row_Block _ rfl (cellsAt_full (putCells_at H6.out.1.cp.res HEZ.out.1) HEZ.out.2)) rfl ⟨by rw [← HR.out]; rfl, ?_⟩
          rw [← HR.out]
          exact H6.out.1.cp.done _
        · have q3 : (C2.2.2.2 != 0) = false := by simpa using q2
          have q2' : C2.2.2.2 = 0 := by simpa using q2
          have Q2 := hid q2'
          clear q2 q2'
          cases q1 : C2.2.2.1 with
          | false =>
            have u1 : ckO C2 (ckO C1 zero32) = (ckO C1 zero32) := by unfold ckO; rw [if_neg (by rw [q1]; decide)]
            have u2 : ckN C2 x.mate = 0 := by unfold ckN; rw [if_neg (by rw [q1]; exact fun h => absurd h.1 (by decide))]
            have u3 : ckG C2 = 0 := by unfold ckG; rw [if_neg (by rw [q1]; decide)]
            have HU := hid (And.intro u1 (And.intro u2 u3))
            clear q1 u1 u2 u3
            go_wp2_with fail
            go_roundg (gk - 1)
            case measure => omega
            case rel => exact ⟨2, own6, C2.1, ckO C2 (ckO C1 zero32), ckN C1 x.zone + ckN C2 x.mate, ckG C1 + ckG C2, by omega, by go_num, by rw [HU.out.2.1]; go_num, by rw [HU.out.2.2]; go_num, by rw [HU.out.1]; exact H6.out.1, .inr (.inr ⟨rfl, rfl, rfl, rfl, rfl, k1, Q2.out⟩)⟩
          | true =>
            have u1 : ckO C2 (ckO C1 zero32) = C2.2.1 := by unfold ckO; rw [if_pos q1]
            have u3 : ckG C2 = 1 := by unfold ckG; rw [if_pos q1]
            have hld := cellsAt_full (n := 32) H6.out.2.2 ey2
            have hfo := cellsFree_full (n := 32) H6.out.1.out (by simp [bytesV, H6.out.1.len])
            have hc8 := H6.out.1.put (O' := C2.2.1) HX.out.2
            have hne : wr.heap.size ≠ ob := by have := lt_of HX.out.1.out; omega
            have hb8 : (putCells w7 ⟨ob, 0, none⟩ (bytesV C2.2.1)).heap[wr.heap.size]? = _ := (putCells_ne w7 0 (bytesV C2.2.1) hne).trans H6.out.2.1
            obtain ⟨w8, hw8⟩ : ∃ w8, putCells w7 ⟨ob, 0, none⟩ (bytesV C2.2.1) = w8 := ⟨_, rfl⟩
            rw [hw8] at hc8 hb8
            have cz := cell_of hb8 0
            have H8 := hid hc8
            have HU := hid (And.intro u1 u3)
            have Q1 := hid q1
            clear q1 u1 u3 hc8 hb8 hne
            go_wp2_with fail
            refine Calls.mono (mbad_calls own6 mb pb db plb C2.1 x.mate w8 H8.out.cp.mir) ?_
            rintro e w9 ⟨rfl, hk9⟩
            have H9 := hid (H8.out.still hk9)
            clear hk9 cz hld hfo hfr
            cases qb : C2.1.isBad x.mate with
            | true =>
              have u2 : ckN C2 x.mate = 0 := by unfold ckN; rw [if_neg (by rw [qb]; exact fun h => absurd h.2 (by decide))]
              have HU2 := hid u2
              clear qb u2
              go_wp2_with fail
              go_roundg (gk - 1)
              case measure => omega
              case rel => exact ⟨2, own6, C2.1, ckO C2 (ckO C1 zero32), ckN C1 x.zone + ckN C2 x.mate, ckG C1 + ckG C2, by omega, by go_num, by rw [HU2.out]; go_num, by rw [HU.out.2]; go_num, by rw [HU.out.1]; exact H9.out, .inr (.inr ⟨rfl, rfl, rfl, rfl, rfl, k1, Q2.out⟩)⟩
            | false =>
              have u2 : ckN C2 x.mate = 1 := by unfold ckN; rw [if_pos ⟨Q1.out, qb⟩]
              have HU2 := hid u2
              clear qb u2
              go_wp2_with fail
              go_roundg (gk - 1)
              case measure => omega
              case rel => exact ⟨2, own6, C2.1, ckO C2 (ckO C1 zero32), ckN C1 x.zone + ckN C2 x.mate, ckG C1 + ckG C2, by omega, by go_num, by rw [HU2.out]; go_num, by rw [HU.out.2]; go_num, by rw [HU.out.1]; exact H9.out, .inr (.inr ⟨rfl, rfl, rfl, rfl, rfl, k1, Q2.out⟩)⟩
      · have hR := HRR.out.1
        rw [if_neg (by rw [k1]; simp), if_neg (by rw [k2]; simp)] at hR
        have hfr := cellsFree_full (n := 32) hin.cp.res size_z_Block
        by_cases kg : ckG C1 + ckG C2 = 0
        · rw [if_pos kg] at hR
          have HR := hid hR
          have bg : ((((ckG C1 + ckG C2 : Nat) : Int)) == 0) = true := by rw [kg]; rfl
          have HX := hid hin
          clear hin c1 c2 e0 hlt hR k1 k2 kg
          generalize (((ckG C1 + ckG C2 : Nat) : Int)) = GG at *
          go_wp2_with fail
          refine bodyPost_ret (results_cell3 rfl row_Block _ rfl (cellsAt_full (putCells_at HX.out.cp.res HEZ.out.1) HEZ.out.2)) rfl ⟨by rw [← HR.out]; rfl, ?_⟩
          rw [← HR.out]
          exact HX.out.cp.done _
        · rw [if_neg kg] at hR
          have HR := hid hR
          have bg : ((((ckG C1 + ckG C2 : Nat) : Int)) == 0) = false := by
            have : (((ckG C1 + ckG C2 : Nat) : Int)) ≠ 0 := by omega
            simpa using this
          have hlo := hin.len
          have ey := allOne_bytes (ckO C2 (ckO C1 zero32))
          have ey2 : (bytesV (ckO C2 (ckO C1 zero32))).size = 32 := by simp [bytesV, hlo]
          have hld := cellsAt_full (n := 32) hin.out ey2
          have HX := hid hin
          clear hin c1 c2 e0 hlt hR k1 k2 kg hlo
          generalize (((ckG C1 + ckG C2 : Nat) : Int)) = GG at *
          generalize (((ckN C1 x.zone + ckN C2 x.mate : Nat) : Int)) = NN at *
          generalize ckO C2 (ckO C1 zero32) = OO at *
          go_wp2_with fail
          refine bodyPost_ret (results_cell3 rfl row_Block _ rfl (cellsAt_full (putCells_at HX.out.cp.res (size_z_Block.trans ey2.symm)) ey2)) rfl ⟨by rw [← HR.out]; rfl, ?_⟩
          rw [← HR.out]
          exact HX.out.cp.done _
end Go.Rv
