/- Mirrors: a record is placed. -/
import Derived.Test.YtoijkpgcaokhlaaGreatPart25
import Derived.Test.YtoijkpgcaokhlaaGreatPart24
import Derived.Laws.BitsAllLaws
set_option linter.unusedVariables false
set_option linter.unusedSimpArgs false
namespace Go.Rv
open Go Go.RowKit Go.Proofs
attribute [local irreducible] wpQuiet tab0 tabV
attribute [local go_sem ↓] ld_Entry st_Entry al_Entry ld_Frame st_Frame al_Frame ld_Ent st_Ent al_Ent ld_Table st_Table al_Table
attribute [local go_sem] cellsAt_new0 cellsAt_lt cellsAt_drew size_bytesV cellsFree_new0 size_z_Frame size_z_Ent

def MirS.placed (M : MirS) (e : EnS) (seq : Int) : EntS := ⟨1, M.a, M.b, M.used, seq, crcSum tab0 e.bytes⟩
def MirS.more (M : MirS) : MirS := { M with used := wrap64 (M.used + 1) }
theorem sum_n (T : Nat → Int) (b o cap n : Nat) (l : List UInt8) (hn : l.length = n) (w : World) (hb : BytesAt w b o l) (hl : n ≤ 100000) :
    Calls Tryz.prog 82 #[.agg (tabV T), .slice (some ⟨b, o, none⟩) n cap] w fun e w' => e = .returned (.int .u32 (crcSum T l)) ∧ Keeps (fun _ => False) w w' := by
  subst hn
  exact sum_calls T b o cap l w hb hl

set_option maxHeartbeats 800000 in
set_option maxRecDepth 100000 in
theorem mplace_ok (own : Nat → Nat) (mb pb db plb : Nat) (M : MirS) (e : EnS) (he : e.bytes.length = 32) (epoch seq : Int) (hf : (e.frameR 0 0 epoch seq).2 = 0) (hr : M.ready.2 = 0) (hp : (M.ready.1.both e epoch seq).2.2 = 0) (w : World) (h : MirAt w own mb pb db plb M) (hset : Settled own w) :
    Calls Tryz.prog 34 #[.pointer (some ⟨mb, 0, none⟩), .agg (enC e), .int .i64 epoch, .int .i64 seq] w fun r w' => r = .returned (.tuple #[.agg (entC ((M.ready.1.both e epoch seq).1.placed e seq)), .int .i64 0]) ∧ ∃ own', MirAt w' own' mb pb db plb (M.ready.1.both e epoch seq).1.more ∧ Step mgTag w own w' own' ∧ Settled own' w' := by
  have q := (en_facts e he).1
  have H0 := hid (PlIn.new w e)
  have hc := cellsAt_full H0.out.box q
  have hfc := fun X => eframe_calls e he 0 0 epoch seq X
  have hfl := e.frameR_len he 0 0 epoch seq
  obtain ⟨FR, hFR⟩ : ∃ FR, e.frameR 0 0 epoch seq = FR := ⟨_, rfl⟩
  rw [hFR] at hfc hfl hf
  rw [hf] at hfc
  have f3 := frm_one FR.1
  have f4 := (frm_facts FR.1 hfl).1
  have HFC := hid hfc
  have H := hid (And.intro h (And.intro hset he))
  clear hf hfc hfl hFR he h hset
  obtain ⟨RD, hRD⟩ : ∃ RD, M.ready = RD := ⟨_, rfl⟩
  have hrd := fun own w h hs => mready_calls own mb pb db plb M w h hs
  rw [hRD] at hrd hr hp ⊢
  rw [hr] at hrd
  have HRD := hid hrd
  obtain ⟨RB, hRB⟩ : ∃ RB, RD.1.both e epoch seq = RB := ⟨_, rfl⟩
  have hrb := fun own w h hs => mboth_calls own mb pb db plb RD.1 e H.out.2.2 epoch seq w h hs
  rw [hRB] at hrb hp ⊢
  rw [hp] at hrb
  have HRB := hid hrb
  clear hrd hRD hr hrb hRB hp
  go_enter Tryz.func34, Tryz.ntmps34
  go_wp2_with fail
  refine Calls.mono (HFC.out _) ?_
  rintro r w1 ⟨rfl, hk1⟩
  have h1 := H0.out.still hk1
  have h2 := h1.still (Y := putCells (w1.alloc (.cells z_Frame 120)) ⟨w1.heap.size, 0, none⟩ (frmC FR.1)) (keeps_put0 (by repeat (first | exact Keeps.refl _ _ | refine Keeps.alloc ?_ _ | refine Keeps.drew ?_ | refine Keeps.drewN ?_ _ | refine Keeps.trans ?_ (by assumption))) (fun h => absurd h (Nat.lt_irrefl _)) _)
  obtain ⟨w2, hw2⟩ : ∃ w2, putCells (w1.alloc (.cells z_Frame 120)) ⟨w1.heap.size, 0, none⟩ (frmC FR.1) = w2 := ⟨_, rfl⟩
  rw [hw2] at h2
  have H2 := hid h2
  clear hk1 h1 h2
  go_wp2_with fail
  refine wp_loop_once ?_
  go_wp2_with fail
  refine Calls.mono (HRD.out own _ (H.out.1.still H2.out.keeps) (H.out.2.1.keeps H2.out.keeps)) ?_
  rintro r w3 ⟨rfl, own3, hM3, hs3, hset3⟩
  have h3 := (PlOn.mk H2.out.box H2.out.res).kept hs3 ⟨H.out.2.1 _ (Nat.le_refl _), H.out.2.1 _ (by omega)⟩ mgTag_zero
  have st3 := (Step.kept (A := mgTag) (H2.out.keeps.mono fun _ _ h => h.elim) H.out.2.1).1.trans hs3
  have ho0 : own3 w.heap.size = 0 ∧ own3 (w.heap.size + 1) = 0 := by
    rw [hs3.agree _ (lt_of H2.out.res), hs3.agree _ (lt_of H2.out.box)]; exact ⟨H.out.2.1 _ (Nat.le_refl _), H.out.2.1 _ (by omega)⟩
  have hc := cellsAt_full h3.box q
  have H3 := hid (And.intro hM3 (And.intro st3 (And.intro hset3 (And.intro h3 ho0))))
  clear hM3 hs3 hset3 h3 st3 ho0
  go_wp2_with fail
  refine Calls.mono (HRB.out own3 _ H3.out.1 H3.out.2.2.1) ?_
  rintro r w4 ⟨rfl, own4, hM4, hs4, hset4⟩
  have h4 := H3.out.2.2.2.1.kept hs4 H3.out.2.2.2.2 (by unfold drvTag devTag; omega)
  have ho4 : own4 w.heap.size = 0 ∧ own4 (w.heap.size + 1) = 0 := by
    rw [hs4.agree _ (lt_of H3.out.2.2.2.1.res), hs4.agree _ (lt_of H3.out.2.2.2.1.box)]; exact H3.out.2.2.2.2
  have st4 := H3.out.2.1.trans (hs4.mono (B := mgTag) fun t h => .inr (.inl h))
  have H4 := hid (And.intro hM4 (And.intro st4 (And.intro hset4 (And.intro h4 ho4))))
  have hlt4 := lt_of h4.res
  clear hM4 hs4 hset4 h4 st4 ho4
  obtain ⟨M4, hM4⟩ : ∃ M4, RB.1 = M4 := ⟨_, rfl⟩
  rw [hM4] at H4
  obtain ⟨PE, hPE⟩ : ∃ PE, RB.1.placed e seq = PE := ⟨_, rfl⟩
  have HPE := hid (And.intro hPE hM4)
  clear hPE hM4
  obtain ⟨sm, hsm⟩ : ∃ sm, crcSum tab0 e.bytes = sm := ⟨_, rfl⟩
  have hsb := crcSum_bd tab0 e.bytes
  rw [hsm] at hsb
  have hcv : IntKind.i64.wrap sm = sm := IntWalk.i64_in _ (by omega)
  have hTs := size_tabV tab0
  obtain ⟨TT, hTT⟩ : ∃ TT, tabV tab0 = TT := ⟨_, rfl⟩
  rw [hTT] at hTs
  have HSM : Hid (∀ X, Keeps (fun _ => False) w4 X → Calls Tryz.prog 82 #[.agg TT, .slice (some ⟨w.heap.size, 6, none⟩) 32 32] X fun e w' => e = .returned (.int .u32 sm) ∧ Keeps (fun _ => False) X w') := hid fun X hX => by
    rw [← hTT, ← hsm]
    refine sum_n tab0 w.heap.size 6 32 32 e.bytes H.out.2.2 X (fun j hj => ?_) (by omega)
    exact (cell_of (hX.heap H4.out.2.2.2.1.box id) (6 + j)).trans (en_bytes e j hj)
  have HS5 : Hid (∀ X, Keeps (fun _ => False) w4 X → X.rangeAt mb 7 TT.toList ∧ X.cell? ⟨mb, 265, none⟩ = some (.int .i64 M4.a) ∧ X.cell? ⟨mb, 266, none⟩ = some (.int .i64 M4.b) ∧ X.cell? ⟨mb, 267, none⟩ = some (.int .i64 M4.used)) := hid fun X hX => by
    have hm := H4.out.1.still hX
    refine ⟨fun j v hv => ?_, hm.go.2.2.2.1, hm.go.2.2.2.2.1, hm.go.2.2.2.2.2.1⟩
    obtain ⟨⟨bb, bc, cur, h1⟩, -⟩ := hm
    have := (cellsAt_cell h1.cells.2.2.1).2 j v (by rw [hTT]; simpa using hv)
    rwa [add_off] at this
  have hs5 := HS5.out w4 (Keeps.refl _ _)
  have hun := Tryz.underlying72
  have hts2 : TT.toList.toArray = TT := by simp
  have hts3 : TT.toList.length = 256 := by simp [hTs]
  have hin : (Tryz.prog.info? 72).map (·.size) = some TT.toList.length := by
    rw [Array.length_toList, hTs]; kernel_rfl
  have HTT := hid (And.intro hTT hsm)
  clear hTT hsm hsb
  go_wp2_with fail
  go_region_held3 (fun X => X.rangeAt mb 7 TT.toList ∧ X.cell? ⟨mb, 265, none⟩ = some (.int .i64 M4.a) ∧ X.cell? ⟨mb, 266, none⟩ = some (.int .i64 M4.b) ∧ X.cell? ⟨mb, 267, none⟩ = some (.int .i64 M4.used))
    (first | assumption | (refine HS5.out _ ?_; repeat (first | assumption | exact Keeps.refl _ _ | refine Keeps.alloc ?_ _ | refine Keeps.drew ?_ | (refine keeps_put0 ?_ ?_ _; rotate_left; (focus (intro hx; omega))))))
    ((go_at_call 82; refine Calls.mono (HSM.out _ (by repeat (first | exact Keeps.refl _ _ | refine Keeps.alloc ?_ _ | refine Keeps.drew ?_ | refine Keeps.drewN ?_ _ | refine Keeps.trans ?_ (by assumption)))) ?_; rintro r w5 ⟨rfl, hk5⟩; have hk5' : Keeps (fun _ => False) w4 w5 := Keeps.trans (by repeat (first | exact Keeps.refl _ _ | refine Keeps.alloc ?_ _ | refine Keeps.drew ?_ | refine Keeps.drewN ?_ _ | refine Keeps.trans ?_ (by assumption))) hk5; have hz5 := hk5'.size; try (have hfr := cellsFree_full (n := 6) (hk5.heap (heap_new _ (.cells z_Ent 83)) id) rfl)))
  have hpv : #[.int .i64 1, .int .i64 M4.a, .int .i64 M4.b, .int .i64 M4.used, .int .i64 seq, .int .i64 sm] = entC PE := by rw [← HPE.out.1, HPE.out.2, ← HTT.out.2]; rfl
  rw [hpv]
  have hm6 := putCells_at (heap_new w5 (.cells z_Ent 83)) (show z_Ent.size = (entC PE).size from rfl)
  have hk6 := keeps_put0 (M := fun _ => False) (a := w4) (b := w5.heap.size) (o := 0) (hk5'.alloc (.cells z_Ent 83)) (fun h => by omega) (entC PE)
  have hb6 : w.heap.size + 1 < w5.heap.size := by omega
  have H6 := hid (And.intro hm6 (And.intro hk6 hb6))
  clear hm6 hk6 hb6 hk5 hk5' hz5 hpv
  try clear hfr
  generalize putCells (w5.alloc (.cells z_Ent 83)) ⟨w5.heap.size, 0, none⟩ (entC PE) = W6 at *
  generalize w5.heap.size = b6 at *
  rotate_left
  have hpv : #[.int .i64 1, .int .i64 M4.a, .int .i64 M4.b, .int .i64 M4.used, .int .i64 seq, .int .i64 sm] = entC PE := by rw [← HPE.out.1, HPE.out.2, ← HTT.out.2]; rfl
  rw [hpv]
  have hm6 := putCells_at (hk5.heap (heap_new _ (.cells z_Ent 83)) id) (show z_Ent.size = (entC PE).size from rfl)
  have hk6 := keeps_put0 (M := fun _ => False) (a := w4) (b := w4.heap.size) (o := 0) hk5' (fun h => by omega) (entC PE)
  have hb6 : w.heap.size + 1 < w4.heap.size := by omega
  have H6 := hid (And.intro hm6 (And.intro hk6 hb6))
  clear hm6 hk6 hb6 hk5 hk5' hz5 hpv
  try clear hfr
  generalize putCells w5 ⟨w4.heap.size, 0, none⟩ (entC PE) = W6 at *
  generalize w4.heap.size = b6 at *
  rotate_left
  all_goals
    have hM6 := H4.out.1.still H6.out.2.1
    have hs6 := H4.out.2.2.1.keeps H6.out.2.1
    obtain ⟨-, -, -, -, -, c7, -, -, f7⟩ := hM6.go
    obtain ⟨bb, bc, cur, h1⟩ := hM6.head
    have hx := heap_set h1.heap 267 (.int .i64 (wrap64 (M4.used + 1)))
    rw [mirC_used _ _ _ _ _ _ _ _ _ (size_tabV tab0)] at hx
    have ho := MirAt.open h1 hM6 hs6 M4.a M4.b (wrap64 (M4.used + 1)) (keeps_set (Keeps.refl _ _) _ _) hx
    have hne : b6 ≠ mb := by
      intro e
      have a1 := h1.heap
      rw [← e, H6.out.1] at a1
      simp only [Option.some.injEq, Obj.cells.injEq] at a1
      have := a1.2.1
      revert this
      decide
    have hne2 : w.heap.size + 1 ≠ mb := by
      intro e
      have a1 := h1.heap
      rw [← e, H6.out.2.1.heap H4.out.2.2.2.1.res id] at a1
      simp only [Option.some.injEq, Obj.cells.injEq] at a1
      have := a1.2.1
      revert this
      decide
    have hb7 : (W6.setCell ⟨mb, 267, none⟩ (.int .i64 (wrap64 (M4.used + 1)))).heap[b6]? = some (.cells (entC PE) 83 (0, 0)) := by rw [heap_set_ne _ _ hne]; exact H6.out.1
    have hr7 : (W6.setCell ⟨mb, 267, none⟩ (.int .i64 (wrap64 (M4.used + 1)))).heap[w.heap.size + 1]? = some (.cells (entC ent0) 83 (0, 0)) := by rw [heap_set_ne _ _ hne2]; exact H6.out.2.1.heap H4.out.2.2.2.1.res id
    obtain ⟨W7, hW7⟩ : ∃ W7, W6.setCell ⟨mb, 267, none⟩ (.int .i64 (wrap64 (M4.used + 1))) = W7 := ⟨_, rfl⟩
    rw [hW7] at ho hb7 hr7
    have st7 := (H4.out.2.1.trans (Step.kept (A := mgTag) (H6.out.2.1.mono fun _ _ h => h.elim) H4.out.2.2.1).1).trans (ho.2.1.mono (B := mgTag) fun t h => .inl h)
    have H7 := hid (And.intro ho.1 (And.intro st7 (And.intro ho.2.2 hr7)))
    have e1 := cellsAt_full (n := 6) hb7 rfl
    have e2 := cellsFree_full (n := 6) hr7 rfl
    clear hM6 hs6 h1 hx ho hne hne2 hb7 hr7 st7
    have e3 : allOne (entC PE) = true := rfl
    have e4 : (entC PE).size = 6 := rfl
    have HE4 := hid e4
    obtain ⟨EP, hEP⟩ : ∃ EP, entC PE = EP := ⟨_, rfl⟩
    have HEP := hid hEP
    rw [hEP] at e1 e3 e4 HE4
    clear hEP
    go_wp2_with fail
    refine bodyPost_ret (results_cell2 rfl row_Ent _ rfl (cellsAt_full (putCells_at H7.out.2.2.2 (by rw [HE4.out]; rfl)) HE4.out)) rfl ⟨by rw [HPE.out.1, HEP.out]; rfl, own4, ?_⟩
    obtain ⟨p1, p2, p3⟩ := Step.put0 (w4 := putCells W7 ⟨w.heap.size + 1, 0, none⟩ EP) H7.out.2.1 H7.out.2.2.1 (b := w.heap.size + 1) (by omega) H4.out.2.2.2.2.2 (keeps_put0 (M := fun k => k = w.heap.size + 1) (Keeps.refl _ _) (fun _ => rfl) _)
    refine ⟨?_, p1, p3⟩
    have := H7.out.1.kept p2 fun t ht e => mirTag_zero ht e
    rw [HPE.out.2]
    exact this
end Go.Rv

/- Mirrors: the open segment is told. -/
namespace Go.Rv
open Go Go.RowKit Go.Proofs
attribute [local irreducible] wpQuiet tab0 tabV

set_option maxHeartbeats 400000 in
set_option maxRecDepth 100000 in
theorem mopen_calls (own : Nat → Nat) (mb pb db plb : Nat) (M : MirS) (w : World) (h : MirAt w own mb pb db plb M) : Calls Tryz.prog 28 #[.pointer (some ⟨mb, 0, none⟩)] w fun e w' => e = .returned (.tuple #[.int .i64 M.a, .int .i64 M.b, .int .i64 M.used]) ∧ Keeps (fun _ => False) w w' := by
  have HF : Hid (∀ W, Keeps (fun _ => False) w W → W.cell? ⟨mb, 265, none⟩ = some (.int .i64 M.a) ∧ W.cell? ⟨mb, 266, none⟩ = some (.int .i64 M.b) ∧ W.cell? ⟨mb, 267, none⟩ = some (.int .i64 M.used)) := hid fun W hW => by
    obtain ⟨-, -, -, c5, c6, c7, -⟩ := (h.still hW).go
    exact ⟨c5, c6, c7⟩
  clear h
  go_enter Tryz.func28, Tryz.ntmps28
  go_wp2_with fail
  refine wp_region_still (by kernel_rfl) (by kernel_rfl) ?_
  repeat (first | (refine still_pass ?_ ?_; (focus (first | (go_simp; done) | rfl)); try simp only [Act.put, List.setIfInBounds_toArray, List.set_cons_succ, List.set_cons_zero]) | (apply still_step; (focus (go_simp; done)); (focus (intro W hW; unfold Oper.quietAt; (obtain ⟨c5, c6, c7⟩ := HF.out W hW); go_simp; first | done | with_reducible rfl | fail | exact ⟨rfl, rfl⟩)); try simp only [Act.put, List.setIfInBounds_toArray, List.set_cons_succ, List.set_cons_zero]))
  refine wpQuiet_nil ?_
  intro W hW
  have HW := hid hW
  clear hW
  go_wp2_with fail
  go_ret3
  exact ⟨rfl, HW.out⟩
end Go.Rv

/- Readers of bytes: taking. -/
namespace Go.Rv
open Go Go.RowKit Go.Proofs
attribute [local irreducible] wpQuiet tab0 tabV
attribute [local go_sem] cellsAt_new0 cellsAt_lt cellsAt_drew size_bytesV

/-- a reader that has not failed, and what is left to be read. -/
structure RdAt (w : World) (rb : Nat) (l : List UInt8) : Prop where
  ex : ∃ (a : Option Addr) (cap : Nat), w.heap[rb]? = some (.cells #[.slice a l.length cap, .bool false] 316 (0, 0)) ∧ l.length ≤ cap ∧ (0 < l.length → ∃ b o, a = some ⟨b, o, none⟩ ∧ b < rb ∧ BytesAt w b o l)
theorem RdAt.still {w w' : World} {rb : Nat} {l : List UInt8} (h : RdAt w rb l) (hk : Keeps (fun _ => False) w w') : RdAt w' rb l := by
  obtain ⟨a, cap, h1, h2, h3⟩ := h.ex
  refine ⟨a, cap, hk.heap h1 id, h2, fun h0 => ?_⟩
  obtain ⟨b, o, h4, hlt, h5⟩ := h3 h0
  exact ⟨b, o, h4, hlt, h5.keeps hk id⟩
theorem BytesAt.ne {w : World} {b o rb : Nat} {l : List UInt8} {a : Option Addr} {n cap : Nat} {e : TypeId} (h : BytesAt w b o l) (h0 : 0 < l.length) (hr : w.heap[rb]? = some (.cells #[.slice a n cap, .bool false] e (0, 0))) : b ≠ rb := by
  intro e
  subst e
  have h1 := h 0 h0
  rw [cell_of hr, Nat.add_zero] at h1
  have ho : o = 0 ∨ o = 1 ∨ 2 ≤ o := by omega
  rcases ho with rfl | rfl | ho
  · simp [byteV] at h1
  · simp [byteV] at h1
  · rw [Array.getElem?_eq_none (by simpa using ho)] at h1; cases h1
theorem BytesAt.part {w : World} {b o : Nat} {l : List UInt8} (h : BytesAt w b o l) (n : Nat) : BytesAt w b o (l.take n) ∧ BytesAt w b (o + n) (l.drop n) := by
  constructor
  · intro j hj
    rw [List.length_take] at hj
    rw [List.getElem_take]
    exact h j (by omega)
  · intro j hj
    rw [List.length_drop] at hj
    rw [List.getElem_drop, Nat.add_assoc]
    exact h (n + j) (by omega)

set_option maxHeartbeats 400000 in
set_option maxRecDepth 100000 in
theorem rtake_calls (rb : Nat) (l : List UInt8) (n : Nat) (w : World) (h : RdAt w rb l) (hn : n ≤ l.length) (h0 : 0 < n) : Calls Tryz.prog 220 #[.pointer (some ⟨rb, 0, none⟩), .int .i64 n] w fun e w' =>
    ∃ b o, e = .returned (.slice (some ⟨b, o, none⟩) n n) ∧ b ≠ rb ∧ BytesAt w' b o (l.take n) ∧ RdAt w' rb (l.drop n) ∧ Keeps (fun k => k = rb) w w' := by
  obtain ⟨a, cap, h1, h2, h3⟩ := h.ex
  obtain ⟨b, o, rfl, hlt, h5⟩ := h3 (by omega)
  have HLT := hid hlt
  clear hlt
  have hne := h5.ne (by omega) h1
  have c0 := cell_of h1 0
  have c1 := cell_of h1 1
  have f0 := free_of h1 0
  simp at c0 c1
  obtain ⟨m, hm⟩ : ∃ m, l.length = m := ⟨_, rfl⟩
  have H := hid (And.intro h1 (And.intro h5 (And.intro hne hm)))
  rw [hm] at c0 h2 hn
  have d1 : decide ((n : Int) < 0) = false := by simp
  have d2 : decide (m < n) = false := by simp; omega
  have d3 : (n : Int) ≤ (cap : Int) := by omega
  have d4 : (n : Int) ≤ (m : Int) := by omega
  have d5 : ¬ n = 0 := by omega
  have d6 : (0 : Int) ≤ n := by omega
  clear h1 h3 h5 hne hm
  obtain ⟨k1, k2, k3, k4⟩ := H.out
  have hk : ∀ v, Keeps (fun k => k = rb) w (w.setCell ⟨rb, 0, none⟩ v) := fun v => keeps_set (Keeps.refl _ _) _ _
  have HK := hid (And.intro k1 (And.intro k2 (And.intro k3 (And.intro k4 hk))))
  clear k1 k2 k3 k4 hk
  by_cases hcn : cap = n
  · subst hcn
    have hmn : m = cap := by omega
    have HM := hid hmn
    clear hmn d5
    go_enter Tryz.func220, Tryz.ntmps220
    go_wp2_with fail
    go_ret
    obtain ⟨k1, k2, k3, k4, hk⟩ := HK.out
    have hz : l.drop cap = [] := List.drop_eq_nil_of_le (by rw [k4, HM.out]; exact Nat.le_refl _)
    refine ⟨b, o, rfl, k3, ((k2.part cap).1).keeps (hk _) k3, ⟨some ⟨b, o, none⟩, 0, ?_, ?_, fun h => ?_⟩, hk _⟩
    · rw [hz]; exact heap_set k1 0 _
    · rw [hz]; exact Nat.zero_le _
    · rw [hz] at h; cases h
  · go_enter Tryz.func220, Tryz.ntmps220
    go_wp2_with fail
    go_ret
    obtain ⟨k1, k2, k3, k4, hk⟩ := HK.out
    refine ⟨b, o, rfl, k3, ((k2.part n).1).keeps (hk _) k3, ⟨some ⟨b, o + n, none⟩, cap - n, ?_, ?_, fun h => ⟨b, o + n, rfl, HLT.out, ((k2.part n).2).keeps (hk _) k3⟩⟩, hk _⟩
    · rw [List.length_drop, k4]; exact heap_set k1 0 _
    · rw [List.length_drop, k4]; omega
end Go.Rv

/- Readers of bytes: numbers. -/
namespace Go.Rv
open Go Go.RowKit Go.Proofs
attribute [local irreducible] wpQuiet tab0 tabV
attribute [local go_sem] cellsAt_new0 cellsAt_lt cellsAt_drew size_bytesV

/-- the number that bytes say, the least first. -/
def leV : List UInt8 → Nat
  | [] => 0
  | c :: l => c.toNat + 256 * leV l
theorem leV_lt : ∀ l : List UInt8, leV l < 256 ^ l.length
  | [] => by simp [leV]
  | c :: l => by
    have := leV_lt l
    have hc := c.toNat_lt
    simp only [leV, List.length_cons, Nat.pow_succ]
    omega
theorem leV_snoc : ∀ (l : List UInt8) (c : UInt8), leV (l ++ [c]) = leV l + c.toNat * 256 ^ l.length
  | [], c => by simp [leV]
  | d :: l, c => by
    have := leV_snoc l c
    simp only [List.cons_append, leV, this, List.length_cons, Nat.pow_succ]
    rw [Nat.mul_add]
    have e : 256 * (c.toNat * 256 ^ l.length) = c.toNat * (256 ^ l.length * 256) := by
      rw [← Nat.mul_assoc, Nat.mul_comm 256, Nat.mul_assoc, Nat.mul_comm 256]
    omega

theorem i64_or (a b : Nat) (ha : a < 9223372036854775808) (hb : b < 9223372036854775808) : bits .or .i64 (a : Int) (b : Int) = ((a ||| b : Nat) : Int) := by
  have hx : a ||| b < 2 ^ 63 := Nat.or_lt_two_pow (by omega) (by omega)
  show IntKind.i64.wrap ((BitVec.ofInt 64 (a : Int) ||| BitVec.ofInt 64 (b : Int)).toNat : Int) = _
  rw [BitVec.toNat_or, ofInt_u64 a (by omega), ofInt_u64 b (by omega)]
  exact IntWalk.i64_in _ (by omega)
theorem or_step (d : Nat) (hd : d < 7) (v : Nat) (hv : v < 256 ^ d) (x : UInt8) : bits .or .i64 (v : Int) (wrap64 (wrap64 (x.toNat : Int) * 2 ^ (8 * d))) = ((v + x.toNat * 256 ^ d : Nat) : Int) := by
  have hx := x.toNat_lt
  have hp : (2 : Nat) ^ (8 * d) = 256 ^ d := by rw [Nat.pow_mul]
  have hb : x.toNat * 2 ^ (8 * d) < 9223372036854775808 ∧ v < 9223372036854775808 := by
    have hc : d = 0 ∨ d = 1 ∨ d = 2 ∨ d = 3 ∨ d = 4 ∨ d = 5 ∨ d = 6 := by omega
    rcases hc with rfl | rfl | rfl | rfl | rfl | rfl | rfl <;> simp only [Nat.reduceMul, Nat.reducePow] at hv ⊢ <;> omega
  have e1 : wrap64 (x.toNat : Int) = x.toNat := by unfold wrap64; omega
  have e2 : wrap64 ((x.toNat : Int) * 2 ^ (8 * d)) = ((x.toNat * 2 ^ (8 * d) : Nat) : Int) := by
    rw [show ((x.toNat : Int) * 2 ^ (8 * d)) = ((x.toNat * 2 ^ (8 * d) : Nat) : Int) by push_cast; rfl]
    have := hb.1
    generalize x.toNat * 2 ^ (8 * d) = y at *
    unfold wrap64; omega
  rw [e1, e2, i64_or _ _ hb.2 hb.1, Nat.or_comm, nat_join (8 * d) _ _ (Nat.mul_mod_left _ _) (by rw [hp]; exact hv), hp, Nat.add_comm]

set_option maxHeartbeats 400000 in
set_option maxRecDepth 100000 in
theorem rnum_calls (rb : Nat) (l : List UInt8) (n : Nat) (w : World) (h : RdAt w rb l) (hn : n ≤ l.length) (h0 : 0 < n) (h7 : n ≤ 7) : Calls Tryz.prog 195 #[.pointer (some ⟨rb, 0, none⟩), .int .i64 n] w fun e w' =>
    e = .returned (.int .i64 (leV (l.take n) : Nat)) ∧ RdAt w' rb (l.drop n) ∧ Keeps (fun k => k = rb) w w' := by
  obtain ⟨m, hm⟩ : ∃ m, l.take n = m := ⟨_, rfl⟩
  rw [hm]
  have hml : m.length = n := by rw [← hm, List.length_take]; exact Nat.min_eq_left hn
  have H := hid (And.intro h (And.intro hn (And.intro h0 (And.intro h7 (And.intro hm hml)))))
  clear hm hml
  have hi : inB (n : Int) 1 7 = true := by simp [inB]; omega
  have HI := hid hi
  clear h hi
  go_enter Tryz.func195, Tryz.ntmps195
  go_wp2_with fail
  refine Calls.mono (cwithin_calls n w) ?_
  rintro e w1 ⟨rfl, rfl⟩
  rw [HI.out]
  go_wp2_with fail
  refine Calls.mono (rtake_calls rb l n _ H.out.1 H.out.2.1 H.out.2.2.1) ?_
  rintro e w2 ⟨b, o, rfl, hne, hby, hrd, hk⟩
  rw [H.out.2.2.2.2.1] at hby
  have H2 := hid (And.intro hby (And.intro hrd (And.intro hk H.out.2.2.2.2.2)))
  clear hby hrd hk
  go_wp2_with fail
  go_loopg [5, 17] n (fun (gk : Nat) (v i : Value) (wr : World) => ∃ d : Nat, d + gk = n ∧ i = .int .i64 d ∧ v = .int .i64 (leV (m.take d) : Nat) ∧ wr = w2)
  case atStart => exact ⟨0, by omega, rfl, by simp [leV], rfl⟩
  case round =>
    obtain ⟨d, hd, rfl, rfl, rfl⟩ := hrel
    by_cases c : d < n
    · have dd : decide (d < n) = true := by simpa using c
      have hcell := H2.out.1 d (by rw [H2.out.2.2.2]; exact c)
      unfold byteV at hcell
      have hc : d = 0 ∨ d = 1 ∨ d = 2 ∨ d = 3 ∨ d = 4 ∨ d = 5 ∨ d = 6 := by omega
      generalize hg : m[d]'(by rw [H2.out.2.2.2]; exact c) = x at hcell
      have HG := hid hg
      obtain ⟨v, hv⟩ : ∃ v, leV (m.take d) = v := ⟨_, rfl⟩
      rw [hv]
      have HV := hid hv
      clear hg hv
      go_wp2_with fail
      go_roundg (gk - 1)
      case measure => omega
      case rel =>
        have hlt : leV (m.take d) < 256 ^ d := by
          have := leV_lt (m.take d)
          rwa [List.length_take, Nat.min_eq_left (by rw [H2.out.2.2.2]; omega)] at this
        refine ⟨d + 1, by omega, by go_num, ?_, rfl⟩
        have hs := or_step d (by have := H.out.2.2.2.1; omega) v (by rw [← HV.out]; exact hlt) x
        rw [hs, List.take_succ_eq_append_getElem (by rw [H2.out.2.2.2]; exact c), leV_snoc, HV.out, HG.out, List.length_take, Nat.min_eq_left (by rw [H2.out.2.2.2]; omega)]
    · have hdn : d = n := by omega
      subst hdn
      have dd : decide (d < d) = false := by simp
      go_wp2_with fail
      go_ret
      refine ⟨by rw [List.take_of_length_le (by rw [H2.out.2.2.2]; exact Nat.le_refl _)]; rfl, H2.out.2.1, H2.out.2.2.1⟩
end Go.Rv

/- Readers of bytes: a new one; bytes; the end. -/
namespace Go.Rv
open Go Go.RowKit Go.Proofs
attribute [local irreducible] wpQuiet tab0 tabV
attribute [local go_sem] cellsAt_new0 cellsAt_lt cellsAt_drew size_bytesV

theorem rbytes_calls (rb : Nat) (l : List UInt8) (n : Nat) (w : World) (h : RdAt w rb l) (hn : n ≤ l.length) (h0 : 0 < n) : Calls Tryz.prog 196 #[.pointer (some ⟨rb, 0, none⟩), .int .i64 n] w fun e w' =>
    ∃ b o, e = .returned (.slice (some ⟨b, o, none⟩) n n) ∧ b ≠ rb ∧ BytesAt w' b o (l.take n) ∧ RdAt w' rb (l.drop n) ∧ Keeps (fun k => k = rb) w w' := by
  have H := hid (And.intro h (And.intro hn h0))
  clear h hn h0
  go_enter Tryz.func196, Tryz.ntmps196
  go_wp2_with fail
  refine Calls.mono (rtake_calls rb l n _ H.out.1 H.out.2.1 H.out.2.2) ?_
  rintro e w2 ⟨b, o, rfl, hx⟩
  have HX := hid hx
  clear hx
  go_wp2_with fail
  go_ret
  exact ⟨b, o, rfl, HX.out⟩
theorem rdone_calls (rb : Nat) (w : World) (h : RdAt w rb []) : Calls Tryz.prog 197 #[.pointer (some ⟨rb, 0, none⟩)] w fun e w' => e = .returned (.int .i64 0) ∧ w = w' := by
  obtain ⟨a, cap, h1, -, -⟩ := h.ex
  have c0 := cell_of h1 0
  have c1 := cell_of h1 1
  simp at c0 c1
  clear h h1
  go_enter Tryz.func197, Tryz.ntmps197
  go_wp2_with fail
  go_ret
  exact ⟨rfl, rfl⟩

set_option maxHeartbeats 400000 in
set_option maxRecDepth 100000 in
theorem rnew_calls (b o cap n : Nat) (l : List UInt8) (hln : l.length = n) (w : World) (hb : BytesAt w b o l) (h0 : 0 < n) (hl : n ≤ 1000) : Calls Tryz.prog 194 #[.slice (some ⟨b, o, none⟩) n cap] w fun e w' =>
    ∃ rb, e = .returned (.pointer (some ⟨rb, 0, none⟩)) ∧ w.heap.size ≤ rb ∧ RdAt w' rb l ∧ Keeps (fun _ => False) w w' := by
  obtain ⟨i0, hi, hz0, hz1, hz2⟩ := info_parts infoU8
  have HI := hid (And.intro hi (And.intro hz0 (And.intro hz1 hz2)))
  have HB := hid (And.intro hb hln)
  clear hi hz0 hz1 hz2 hb hln
  go_enter Tryz.func194, Tryz.ntmps194
  obtain ⟨hi, hz0, hz1, hz2⟩ := HI.out
  go_wp2_with (at_builtin; refine wpList_append_tag rfl (.tmp 3) (.tmp 4) rfl Tryz.underlying174 hi hz0 hz1 hz2 rfl (by decide) rfl (Q := fun _ => False) (n := 0) (m := n) (xs := []) ?own rfl (news := l.map byteV) ?c0 ?c1 ?c2 ?c3 ?c4 h0 ?go)
  case own => exact ⟨by simp, .inl ⟨_, rfl, rfl⟩⟩
  case c0 => simp [HB.out.2]
  case c1 =>
    intro j a ha
    obtain ⟨hlt, e⟩ := List.getElem?_eq_some_iff.1 ha
    have hj : j < l.length := by simpa using hlt
    have := (HB.out.1.keeps (M := fun _ => False) (w' := w.alloc (.cells #[] 5)) ((Keeps.refl _ _).alloc _) id) j hj
    rw [add_off]
    simpa [← e] using this
  case c2 => exact fun u hu => by obtain ⟨c, _, rfl⟩ := List.mem_map.1 hu; rfl
  case c3 => unfold maxLen; omega
  case c4 => omega
  case go =>
    intro g cap' w3 hown hg hk3
    have hgp : w.heap.size ≤ g := by
      omega
    have hrow := (rowAt_of_owns hown hgp : RowAt w3 (fun k => w.heap.size ≤ k) _ _ _ _ _)
    have HY := hid (And.intro hrow (And.intro hk3 hgp))
    clear hown hg hk3 hrow hgp hi hz0 hz1 hz2
    go_wp2_with fail
    go_ret
    have hr := HY.out.1
    have hle : n ≤ cap' := by
      obtain ⟨-, ⟨a, h1, h2⟩ | ⟨g', cap2, cur, h1, -, -, h2, -⟩⟩ := hr
      · omega
      · cases h1; exact h2
    have hbt := (hr.bytes h0).1
    have hgl : g < w3.heap.size := cell_lt (hbt 0 (by rw [HB.out.2]; exact h0))
    have hk : Keeps (fun _ => False) w (w3.alloc (.cells #[.slice (some ⟨g, 0, none⟩) n cap', .bool false] 316)) := (((Keeps.refl _ _).alloc _).trans HY.out.2.1).alloc _
    have hs3 := HY.out.2.1.size
    rw [World.size_alloc] at hs3
    refine ⟨w3.heap.size, rfl, by omega, ⟨some ⟨g, 0, none⟩, cap', ?_, by rw [HB.out.2]; exact hle, fun _ => ⟨g, 0, rfl, hgl, ?_⟩⟩, hk⟩
    · rw [HB.out.2]; exact heap_new _ _
    · exact hbt.keeps (M := fun _ => False) ((Keeps.refl _ _).alloc _) id
end Go.Rv
