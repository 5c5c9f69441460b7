/- Mirrors: a record is put into a zone. -/
import Derived.Test.YtoijkpgcaokhlaaGreatPart24
import Derived.Test.YtoijkpgcaokhlaaGreatPart16
import Derived.Test.YtoijkpgcaokhlaaGreatPart12
set_option linter.unusedVariables false
set_option linter.unusedSimpArgs false
namespace Go.Rv
open Go Go.RowKit Go.Proofs
attribute [local irreducible] wpQuiet tab0 tabV
attribute [local go_sem ↓] ld_Entry st_Entry al_Entry ld_Frame st_Frame al_Frame ld_Sector st_Sector al_Sector ld_Table st_Table al_Table
attribute [local go_sem] cellsAt_new0 cellsAt_lt cellsAt_drew size_bytesV cellsFree_new0 size_z_Frame

theorem keeps_sets {M : Nat → Prop} {a : World} {b : Nat} : ∀ {vs : List Value} {o : Nat} {w : World}, Keeps M a w → (b < a.heap.size → M b) → Keeps M a (w.setCells b o vs)
  | [], _, _, h, _ => h
  | v :: r, o, _, h, hp => keeps_sets (vs := r) (h.setCell (p := ⟨b, o, none⟩) hp v) hp
theorem there_full {w : World} {b n : Nat} {c : Array Value} {e : TypeId} (h : w.heap[b]? = some (.cells c e (0, 0))) (hn : c.size = n) : w.there b 0 n := fun j hj => by
  refine ⟨?_, free_of h _⟩
  rw [Nat.zero_add, cell_of h j, Array.getElem?_eq_getElem (by omega)]; rfl
theorem bytes_one (l : List UInt8) : ∀ v ∈ l.map byteV, v.oneCell' = true := fun v hv => by
  obtain ⟨c, _, rfl⟩ := List.mem_map.1 hv; rfl
def EnS.withMate (e : EnS) (m : Int) : EnS := { e with mate := m }
theorem enC_mate (e : EnS) (m : Int) : (enC e).setIfInBounds 5 (.int .i64 m) = enC (e.withMate m) := by simp [enC, EnS.withMate]
theorem EnS.frames_right {e : EnS} {zone off epoch seq : Int} (h : (e.frameR zone off epoch seq).2 = 0) : (e.frameR zone off epoch seq).1 = e.frame zone off epoch seq ∧ (e.frame zone off epoch seq).right = true := by
  unfold EnS.frameR at h ⊢
  split at h
  · rename_i c
    rw [if_pos c]
    unfold EnS.frames at c
    simp only [Bool.and_eq_true] at c
    exact ⟨rfl, c.1.1.2⟩
  · cases h
/-- a record is put at the open segment's place of a zone. -/
def MirS.put (M : MirS) (e : EnS) (zone mate epoch seq : Int) : MirS × Int :=
  if ((e.withMate mate).frameR zone M.used epoch seq).2 ≠ 0 then (M, ((e.withMate mate).frameR zone M.used epoch seq).2)
  else ({ M with d := (M.d.append zone (frmSec tab0 ((e.withMate mate).frame zone M.used epoch seq))).1 },
    if (M.d.append zone (frmSec tab0 ((e.withMate mate).frame zone M.used epoch seq))).2.2 = 0 ∧ (M.d.append zone (frmSec tab0 ((e.withMate mate).frame zone M.used epoch seq))).2.1 ≠ M.used then 30 else (M.d.append zone (frmSec tab0 ((e.withMate mate).frame zone M.used epoch seq))).2.2)

set_option maxHeartbeats 600000 in
set_option maxRecDepth 100000 in
theorem mput_calls (own : Nat → Nat) (mb pb db plb : Nat) (M : MirS) (e : EnS) (he : e.bytes.length = 32) (zone mate epoch seq : Int) (w : World) (h : MirAt w own mb pb db plb M) (hset : Settled own w) :
    Calls Tryz.prog 131 #[.pointer (some ⟨mb, 0, none⟩), .agg (enC e), .int .i64 zone, .int .i64 mate, .int .i64 epoch, .int .i64 seq] w fun r w' =>
    r = .returned (.int .i64 (M.put e zone mate epoch seq).2) ∧ ∃ own', MirAt w' own' mb pb db plb (M.put e zone mate epoch seq).1 ∧ Step drvTag w own w' own' ∧ Settled own' w' := by
  have he5 := (cell_of (heap_new w (.cells (enC e) 89)) 5).trans (en_facts e he).2.2.2.2.2.2
  have hf5 := free_of (heap_new w (.cells (enC e) 89)) 5
  have hb0 := heap_set (heap_new w (.cells (enC e) 89)) 5 (.int .i64 mate)
  rw [enC_mate] at hb0
  have q := (en_facts e he).1
  have hk0 : Keeps (fun _ => False) w ((w.alloc (.cells (enC e) 89)).setCell ⟨w.heap.size, 5, none⟩ (.int .i64 mate)) := Keeps.setCell (by repeat (first | exact Keeps.refl _ _ | refine Keeps.alloc ?_ _ | refine Keeps.drew ?_ | refine Keeps.drewN ?_ _ | refine Keeps.trans ?_ (by assumption))) (fun h => absurd h (Nat.lt_irrefl _)) _
  obtain ⟨R, hR⟩ : ∃ R, M.put e zone mate epoch seq = R := ⟨_, rfl⟩
  rw [hR]
  unfold MirS.put at hR
  have he' : (e.withMate mate).bytes.length = 32 := he
  obtain ⟨E, hE⟩ : ∃ E, e.withMate mate = E := ⟨_, rfl⟩
  rw [hE] at hR hb0 he'
  obtain ⟨FR, hFR⟩ : ∃ FR, E.frameR zone M.used epoch seq = FR := ⟨_, rfl⟩
  have HFC : Hid (∀ X, Calls Tryz.prog 79 #[.agg (enC E), .int .i64 zone, .int .i64 M.used, .int .i64 epoch, .int .i64 seq] X fun r w' => r = .returned (.tuple #[.agg (frmC FR.1), .int .i64 FR.2]) ∧ Keeps (fun _ => False) X w') := hid fun X => by rw [← hFR]; exact eframe_calls E he' zone M.used epoch seq X
  have hf44 : FR.1.body.length = 44 := by
    rw [← hFR]; unfold EnS.frameR; split
    · exact E.body_len he'
    · rfl
  have HR := hid (And.intro hR (And.intro hFR he'))
  have f3 := frm_one FR.1
  have f4 := (frm_facts FR.1 hf44).1
  obtain ⟨w0, hw0⟩ : ∃ w0, (w.alloc (.cells (enC e) 89)).setCell ⟨w.heap.size, 5, none⟩ (.int .i64 mate) = w0 := ⟨_, rfl⟩
  rw [hw0] at hb0 hk0
  have H := hid (And.intro (h.still hk0) (And.intro (hset.keeps hk0) (And.intro hb0 (And.intro hk0 (And.intro hset h)))))
  have q' := (en_facts E he').1
  have HS : Hid (∀ X, Keeps (fun _ => False) w0 X → cellsAt X ⟨w.heap.size, 0, none⟩ 38 = some (enC E) ∧ X.cell? ⟨mb, 267, none⟩ = some (.int .i64 M.used)) := hid fun X hX => ⟨cellsAt_full (hX.heap H.out.2.2.1 id) q', (H.out.1.still hX).go.2.2.2.2.2.1⟩
  have hs0 := HS.out w0 (Keeps.refl _ _)
  clear h hset hR hFR hE hb0 hk0
  go_enter Tryz.func131, Tryz.ntmps131
  go_wp2_with fail
  go_region_held3 (fun X => cellsAt X ⟨w.heap.size, 0, none⟩ 38 = some (enC E) ∧ X.cell? ⟨mb, 267, none⟩ = some (.int .i64 M.used))
    (first | assumption | (refine HS.out _ ?_; repeat (first | assumption | exact Keeps.refl _ _ | refine Keeps.alloc ?_ _ | refine Keeps.drew ?_ | (refine keeps_put0 ?_ ?_ _; rotate_left; (focus (intro hx; omega))))))
    ((go_at_call 79; refine Calls.mono (HFC.out _) ?_; rintro r w1 ⟨rfl, hk1⟩; have hk1' : Keeps (fun _ => False) w0 w1 := Keeps.trans (by repeat (first | exact Keeps.refl _ _ | refine Keeps.alloc ?_ _ | refine Keeps.drew ?_ | refine Keeps.drewN ?_ _ | refine Keeps.trans ?_ (by assumption))) hk1; have hz1 := hk1'.size; try (have hfr := cellsFree_full (n := 49) (hk1.heap (heap_new _ (.cells z_Frame 120)) id) size_z_Frame)))
  have hm := putCells_at (heap_new w1 (.cells z_Frame 120)) (show z_Frame.size = (frmC FR.1).size by rw [size_z_Frame, f4])
  have hkw := keeps_put0 (M := fun _ => False) (a := w0) (b := w1.heap.size) (o := 0) (hk1'.alloc (.cells z_Frame 120)) (fun h => by omega) (frmC FR.1)
  have H7 := hid (And.intro hm hkw)
  clear hm hkw hk1 hk1' hz1
  try clear hfr
  generalize putCells (w1.alloc (.cells z_Frame 120)) ⟨w1.heap.size, 0, none⟩ (frmC FR.1) = W7 at *
  generalize w1.heap.size = b7 at *
  rotate_left
  have hm := putCells_at (hk1.heap (heap_new _ (.cells z_Frame 120)) id) (show z_Frame.size = (frmC FR.1).size by rw [size_z_Frame, f4])
  have hkw := keeps_put0 (M := fun _ => False) (a := w0) (b := w0.heap.size) (o := 0) hk1' (fun h => by omega) (frmC FR.1)
  have H7 := hid (And.intro hm hkw)
  clear hm hkw hk1 hk1' hz1
  try clear hfr
  generalize putCells w1 ⟨w0.heap.size, 0, none⟩ (frmC FR.1) = W7 at *
  generalize w0.heap.size = b7 at *
  rotate_left
  all_goals
    by_cases kR : FR.2 = 0
    · obtain ⟨hF1, hFr⟩ := EnS.frames_right (e := E) (zone := zone) (off := M.used) (epoch := epoch) (seq := seq) (by rw [HR.out.2.1]; exact kR)
      have hR2 := HR.out.1
      rw [HR.out.2.1, if_neg (by simp [kR])] at hR2
      rw [HR.out.2.1] at hF1
      obtain ⟨F, hF⟩ : ∃ F, E.frame zone M.used epoch seq = F := ⟨_, rfl⟩
      rw [hF] at hF1 hFr hR2
      rw [hF1] at f3 f4 hf44
      have h7 := H7.out
      rw [hF1] at h7
      have hTs := size_tabV tab0
      obtain ⟨TT, hTT⟩ : ∃ TT, tabV tab0 = TT := ⟨_, rfl⟩
      obtain ⟨SB, hSB⟩ : ∃ SB, frmSec tab0 F = SB := ⟨_, rfl⟩
      have hSl : SB.length = 64 := by rw [← hSB]; exact frmSec_len tab0 F hf44
      have HEN : Hid (∀ X, Calls Tryz.prog 177 #[.agg TT, .agg (frmC F)] X fun r w' => r = .returned (.tuple #[.agg (bytesV SB), .int .i64 0]) ∧ Keeps (fun _ => False) X w') := hid fun X => by rw [← hTT, ← hSB]; exact encode_good tab0 F hf44 hFr X
      rw [hTT] at hTs
      have hM7 := H.out.1.still h7.2
      have HS5 : Hid (∀ X, Keeps (fun _ => False) W7 X → X.rangeAt mb 7 TT.toList ∧ cellsAt X ⟨b7, 0, none⟩ 49 = some (frmC F)) := hid fun X hX => by
        refine ⟨fun j v hv => ?_, cellsAt_full (hX.heap h7.1 id) f4⟩
        obtain ⟨⟨bb, bc, cur, h1⟩, -⟩ := hM7.still hX
        have := (cellsAt_cell h1.cells.2.2.1).2 j v (by rw [hTT]; simpa using hv)
        rwa [add_off] at this
      have hs5 := HS5.out W7 (Keeps.refl _ _)
      have HX := hid (And.intro hM7 (And.intro (H.out.2.1.keeps h7.2) (And.intro (H.out.2.2.2.1.trans h7.2) hR2)))
      have hun := Tryz.underlying72
      have hts2 : TT.toList.toArray = TT := by simp
      have hts3 : TT.toList.length = 256 := by simp [hTs]
      have hin : (Tryz.prog.info? 72).map (·.size) = some TT.toList.length := by
        rw [Array.length_toList, hTs]; kernel_rfl
      have e6 : (bytesV SB).size = 64 := by simp [bytesV, hSl]
      have e7 := allOne_bytes SB
      have HSB := hid (And.intro hSB hSl)
      have hov := bytes_one SB
      have hin2 : (Tryz.prog.info? 103).map (·.size) = some (SB.map byteV).length := by rw [List.length_map, hSl]; kernel_rfl
      have hsl2 : z_Sector.size = (SB.map byteV).length := by rw [List.length_map, hSl]; rfl
      have hbv : (SB.map byteV).toArray = bytesV SB := rfl
      rw [kR]
      try rw [hF1]
      clear hR2 hF hF1 hFr h7 hTT hSB hSl hM7 hs0 kR hf44
      go_wp2_with fail
      go_region_held3 (fun X => X.rangeAt mb 7 TT.toList ∧ cellsAt X ⟨b7, 0, none⟩ 49 = some (frmC F))
        (first | assumption | (refine HS5.out _ ?_; repeat (first | assumption | exact Keeps.refl _ _ | refine Keeps.alloc ?_ _ | refine Keeps.drew ?_ | (refine keeps_sets ?_ ?_; rotate_left; (focus (intro hx; omega))))))
        ((go_at_call 177; refine Calls.mono (HEN.out _) ?_; rintro r w1 ⟨rfl, hk1⟩; have hk1' : Keeps (fun _ => False) W7 w1 := Keeps.trans (by repeat (first | exact Keeps.refl _ _ | refine Keeps.alloc ?_ _ | refine Keeps.drew ?_ | refine Keeps.drewN ?_ _ | refine Keeps.trans ?_ (by assumption))) hk1; have hz1 := hk1'.size; have hta := there_full (heap_new w1 (.cells z_Sector 103)) hsl2; try (have htb := there_full (hk1.heap (heap_new _ (.cells z_Sector 103)) id) hsl2)))
      have hr8 := World.rangeAt_setCells_same (w1.alloc (.cells z_Sector 103)) w1.heap.size 0 (SB.map byteV) hta
      have hk8 : Keeps (fun _ => False) W7 ((w1.alloc (.cells z_Sector 103)).setCells w1.heap.size 0 (SB.map byteV)) := keeps_sets (hk1'.alloc _) (fun h => by omega)
      have hb8 : w.heap.size ≤ w1.heap.size := by have := HX.out.2.2.1.size; omega
      have H8 := hid (And.intro hr8 (And.intro hk8 hb8))
      clear hr8 hk8 hb8 hk1 hk1' hz1 hta
      try clear htb
      generalize (w1.alloc (.cells z_Sector 103)).setCells w1.heap.size 0 (SB.map byteV) = W8 at *
      generalize w1.heap.size = b8 at *
      rotate_left
      have hr8 := World.rangeAt_setCells_same w1 W7.heap.size 0 (SB.map byteV) htb
      have hk8 : Keeps (fun _ => False) W7 (w1.setCells W7.heap.size 0 (SB.map byteV)) := keeps_sets hk1' (fun h => by omega)
      have hb8 : w.heap.size ≤ W7.heap.size := by have := HX.out.2.2.1.size; omega
      have H8 := hid (And.intro hr8 (And.intro hk8 hb8))
      clear hr8 hk8 hb8 hk1 hk1' hz1 hta
      try clear htb
      generalize w1.setCells W7.heap.size 0 (SB.map byteV) = W8 at *
      generalize W7.heap.size = b8 at *
      rotate_left
      all_goals
        have hM8 := HX.out.1.still H8.out.2.1
        have hS8 := HX.out.2.1.keeps H8.out.2.1
        have c0 := hM8.go.1
        have d1 := H8.out.1
        have hbz : own b8 = 0 := H.out.2.2.2.2.1 _ H8.out.2.2
        have hun2 := Tryz.underlying103
        obtain ⟨D3, off3, r3, hap3⟩ : ∃ D3 off3 r3, M.d.append zone SB = (D3, off3, r3) := ⟨_, _, _, rfl⟩
        have hR3 := HX.out.2.2.2
        rw [HSB.out.1, hap3] at hR3
        have hpa : ∀ X, Keeps (fun _ => False) W8 X → Calls Tryz.prog 164 #[.pointer (some ⟨pb, 0, none⟩), .int .i64 zone, .agg (bytesV SB)] X fun e w' => e = .returned (.tuple #[.int .i64 off3, .int .i64 r3]) ∧ ∃ own', (MirAt w' own' mb pb db plb { M with d := D3 } ∧ Step drvTag w own w' own' ∧ Settled own' w') ∧ (w'.cell? ⟨mb, 0, none⟩ = some (.pointer (some ⟨pb, 0, none⟩)) ∧ w'.rangeAt b8 0 (SB.map byteV)) ∧ w'.cell? ⟨mb, 267, none⟩ = some (.int .i64 M.used) := fun X hX => by
          have hl := M.d.like_append zone SB
          refine (pappend_calls own pb db M.d zone SB HSB.out.2 X (hM8.still hX).drive (hS8.keeps hX)).mono ?_
          rw [hap3] at hl ⊢
          rintro e w' ⟨rfl, own', hd', hs', hset'⟩
          have hM' := (hM8.still hX).turn hs' hd' hl
          have hst := (Step.kept (A := drvTag) (((HX.out.2.2.1.trans H8.out.2.1).trans hX).mono fun _ _ h => h.elim) H.out.2.2.2.2.1).1.trans hs'
          refine ⟨rfl, own', ⟨hM', hst, hset'⟩, ⟨hM'.go.1, fun j v hv => ?_⟩, hM'.go.2.2.2.2.2.1⟩
          have hx := (hX.cell (cell_lt (H8.out.1 j v hv)) id).trans (H8.out.1 j v hv)
          exact (hs'.keeps.cell (cell_lt hx) (by rw [hbz]; unfold drvTag devTag; omega)).trans hx
        have HPA := hid hpa
        have HR3 := hid hR3
        clear hpa hM8 hS8 hR3 hap3
        go_wp2_with fail
        go_region_held3 (fun X => X.cell? ⟨mb, 0, none⟩ = some (.pointer (some ⟨pb, 0, none⟩)) ∧ X.rangeAt b8 0 (SB.map byteV)) (repeat (first | assumption | exact ⟨c0, d1⟩))
          ((go_at_call 164; refine Calls.mono (HPA.out _ ((Keeps.refl _ _).drew)) ?_; rintro e w5 ⟨rfl, own5, hA5, hS5, c7⟩; have HY := hid hA5; clear hA5))
        by_cases k3 : r3 = 0
        · by_cases k4 : off3 = M.used
          · have hR4 := HR3.out
            rw [if_neg (by simp [k4])] at hR4
            have HR4 := hid hR4
            subst k3
            have b2 : (off3 != M.used) = false := by simpa using k4
            clear k4 hR4
            go_wp2_with fail
            go_ret
            rw [← HR4.out]
            exact ⟨rfl, own5, HY.out⟩
          · have hR4 := HR3.out
            rw [if_pos ⟨k3, k4⟩] at hR4
            have HR4 := hid hR4
            subst k3
            have b2 : (off3 != M.used) = true := by simpa using k4
            clear k4 hR4
            go_wp2_with fail
            go_ret
            rw [← HR4.out]
            exact ⟨rfl, own5, HY.out⟩
        · have hR4 := HR3.out
          rw [if_neg (by simp [k3])] at hR4
          have HR4 := hid hR4
          have b1 : (r3 == 0) = false := by simpa using k3
          clear k3 hR4
          go_wp2_with fail
          go_ret
          rw [← HR4.out]
          exact ⟨rfl, own5, HY.out⟩
    · have hR2 := HR.out.1
      rw [HR.out.2.1, if_pos kR] at hR2
      have kR' : (FR.2 != 0) = true := by simpa using kR
      have HR2 := hid hR2
      clear kR hR2
      go_wp2_with fail
      go_ret
      rw [← HR2.out]
      exact ⟨rfl, own, H.out.1.still H7.out.2, (Step.kept (A := drvTag) ((H.out.2.2.2.1.trans H7.out.2).mono fun _ _ h => h.elim) H.out.2.2.2.2.1).1, H.out.2.1.keeps H7.out.2⟩
end Go.Rv

/- Mirrors: a record is put into both zones. -/
namespace Go.Rv
open Go Go.RowKit Go.Proofs
attribute [local irreducible] wpQuiet tab0 tabV
attribute [local go_sem ↓] ld_Entry st_Entry al_Entry
attribute [local go_sem] cellsAt_new0 cellsAt_lt cellsAt_drew size_bytesV

def MirS.both (M : MirS) (e : EnS) (epoch seq : Int) : MirS × Int × Int :=
  if (M.put e M.a M.b epoch seq).2 ≠ 0 then ((M.put e M.a M.b epoch seq).1, M.a, (M.put e M.a M.b epoch seq).2)
  else (((M.put e M.a M.b epoch seq).1.put e M.b M.a epoch seq).1, M.b, ((M.put e M.a M.b epoch seq).1.put e M.b M.a epoch seq).2)

set_option maxHeartbeats 600000 in
set_option maxRecDepth 100000 in
theorem mboth_calls (own : Nat → Nat) (mb pb db plb : Nat) (M : MirS) (e : EnS) (he : e.bytes.length = 32) (epoch seq : Int) (w : World) (h : MirAt w own mb pb db plb M) (hset : Settled own w) :
    Calls Tryz.prog 81 #[.pointer (some ⟨mb, 0, none⟩), .agg (enC e), .int .i64 epoch, .int .i64 seq] w fun r w' =>
    r = .returned (.tuple #[.int .i64 (M.both e epoch seq).2.1, .int .i64 (M.both e epoch seq).2.2]) ∧ ∃ own', MirAt w' own' mb pb db plb (M.both e epoch seq).1 ∧ Step drvTag w own w' own' ∧ Settled own' w' := by
  have hb0 := heap_new w (.cells (enC e) 89)
  have q := (en_facts e he).1
  have hk0 : Keeps (fun _ => False) w (w.alloc (.cells (enC e) 89)) := (by repeat (first | exact Keeps.refl _ _ | refine Keeps.alloc ?_ _ | refine Keeps.drew ?_ | refine Keeps.drewN ?_ _ | refine Keeps.trans ?_ (by assumption)))
  obtain ⟨R, hR⟩ : ∃ R, M.both e epoch seq = R := ⟨_, rfl⟩
  rw [hR]
  unfold MirS.both at hR
  have HR := hid hR
  obtain ⟨w0, hw0⟩ : ∃ w0, w.alloc (.cells (enC e) 89) = w0 := ⟨_, rfl⟩
  rw [hw0] at hb0 hk0
  have H := hid (And.intro (h.still hk0) (And.intro (hset.keeps hk0) (And.intro hb0 (And.intro hk0 (And.intro hset he)))))
  have HF : Hid (∀ W, Keeps (fun _ => False) w0 W → W.cell? ⟨mb, 265, none⟩ = some (.int .i64 M.a) ∧ W.cell? ⟨mb, 266, none⟩ = some (.int .i64 M.b)) := hid fun W hW => ⟨(H.out.1.still hW).go.2.2.2.1, (H.out.1.still hW).go.2.2.2.2.1⟩
  clear h hset hR hb0 hk0 he
  go_enter Tryz.func81, Tryz.ntmps81
  go_wp2_with fail
  refine wp_region_still (by kernel_rfl) (by kernel_rfl) ?_
  repeat (first | (refine still_pass ?_ ?_; (focus (first | (go_simp; done) | rfl)); try simp only [Act.put, List.setIfInBounds_toArray, List.set_cons_succ, List.set_cons_zero]) | (apply still_step; (focus (go_simp; done)); (focus (intro W hW; unfold Oper.quietAt; (obtain ⟨c5, c6⟩ := HF.out W hW); go_simp; first | done | with_reducible rfl | fail | exact ⟨rfl, rfl⟩)); try simp only [Act.put, List.setIfInBounds_toArray, List.set_cons_succ, List.set_cons_zero]))
  refine wpQuiet_nil ?_
  intro W hW
  have hbx := hW.heap H.out.2.2.1 id
  have hM := H.out.1.still hW
  have hst : Step drvTag w own W own := (Step.kept (A := drvTag) ((H.out.2.2.2.1.trans hW).mono fun _ _ h => h.elim) H.out.2.2.2.2.1).1
  have hc := cellsAt_full hbx q
  have HX := hid (And.intro hM (And.intro (H.out.2.1.keeps hW) (And.intro hst hbx)))
  clear hW hM hst hbx hw0
  go_wp2_with fail
  refine Calls.mono (mput_calls own mb pb db plb M e H.out.2.2.2.2.2 M.a M.b epoch seq W HX.out.1 HX.out.2.1) ?_
  rintro r w1 ⟨rfl, own1, hM1, hs1, hset1⟩
  have hbx1 := hs1.heap HX.out.2.2.2 (by rw [H.out.2.2.2.2.1 _ (Nat.le_refl _)]; unfold drvTag devTag; omega)
  have hc := cellsAt_full hbx1 q
  have H1 := hid (And.intro hM1 (And.intro (HX.out.2.2.1.trans hs1) hset1))
  obtain ⟨P1, hP1⟩ : ∃ P1, M.put e M.a M.b epoch seq = P1 := ⟨_, rfl⟩
  rw [hP1] at H1 HR ⊢
  clear hM1 hs1 hset1 hbx1 hP1
  by_cases k : P1.2 = 0
  · have hR2 := HR.out
    rw [if_neg (by simp [k])] at hR2
    have HR2 := hid hR2
    rw [k]
    clear k hR2
    go_wp2_with fail
    refine Calls.mono (mput_calls own1 mb pb db plb P1.1 e H.out.2.2.2.2.2 M.b M.a epoch seq w1 H1.out.1 H1.out.2.2) ?_
    rintro r w2 ⟨rfl, own2, hM2, hs2, hset2⟩
    have H2 := hid (And.intro hM2 (And.intro (H1.out.2.1.trans hs2) hset2))
    clear hM2 hs2 hset2
    go_wp2_with fail
    go_ret2
    rw [← HR2.out]
    exact ⟨rfl, own2, H2.out⟩
  · have hR2 := HR.out
    rw [if_pos k] at hR2
    have HR2 := hid hR2
    have k' : (P1.2 != 0) = true := by simpa using k
    clear k hR2
    go_wp2_with fail
    go_ret2
    rw [← HR2.out]
    exact ⟨rfl, own1, H1.out⟩
end Go.Rv

/- Mirrors: a record isn't placed: it can't be, or there is no room. -/
namespace Go.Rv
open Go Go.RowKit Go.Proofs
attribute [local irreducible] wpQuiet tab0 tabV
attribute [local go_sem ↓] ld_Entry st_Entry al_Entry ld_Frame st_Frame al_Frame ld_Ent st_Ent al_Ent
attribute [local go_sem] cellsAt_new0 cellsAt_lt cellsAt_drew size_bytesV cellsFree_new0 size_z_Frame

theorem EnS.frameR_two (e : EnS) (zone off epoch seq : Int) : (e.frameR zone off epoch seq).2 = 0 ∨ (e.frameR zone off epoch seq).2 = 10 := by
  unfold EnS.frameR; split
  · exact .inl rfl
  · exact .inr rfl
theorem EnS.frameR_len (e : EnS) (h : e.bytes.length = 32) (zone off epoch seq : Int) : (e.frameR zone off epoch seq).1.body.length = 44 := by
  unfold EnS.frameR; split
  · exact e.body_len h
  · rfl

/-- at the beginning: the box and the result's block. -/
structure PlIn (w : World) (e : EnS) (X : World) : Prop where
  keeps : Keeps (fun _ => False) w X
  box : X.heap[w.heap.size]? = some (.cells (enC e) 89 (0, 0))
  res : X.heap[w.heap.size + 1]? = some (.cells (entC ent0) 83 (0, 0))
theorem PlIn.still {w : World} {e : EnS} {X Y : World} (h : PlIn w e X) (hk : Keeps (fun _ => False) X Y) : PlIn w e Y := ⟨h.keeps.trans hk, hk.heap h.box id, hk.heap h.res id⟩
theorem PlIn.new (w : World) (e : EnS) : PlIn w e ((w.alloc (.cells (enC e) 89)).alloc (.cells z_Ent 83)) :=
  ⟨(by repeat (first | exact Keeps.refl _ _ | refine Keeps.alloc ?_ _ | refine Keeps.drew ?_ | refine Keeps.drewN ?_ _ | refine Keeps.trans ?_ (by assumption))), heap_old _ _ (heap_new _ _), by have := heap_new (w.alloc (.cells (enC e) 89)) (.cells z_Ent 83); rw [World.size_alloc] at this; exact this⟩

set_option maxHeartbeats 600000 in
set_option maxRecDepth 100000 in
theorem mplace_form (mb : Nat) (e : EnS) (he : e.bytes.length = 32) (epoch seq : Int) (hf : (e.frameR 0 0 epoch seq).2 ≠ 0) (w : World) :
    Calls Tryz.prog 34 #[.pointer (some ⟨mb, 0, none⟩), .agg (enC e), .int .i64 epoch, .int .i64 seq] w fun r w' => r = .returned (.tuple #[.agg (entC ent0), .int .i64 10]) ∧ Keeps (fun _ => False) w w' := by
  have q := (en_facts e he).1
  have H0 := hid (PlIn.new w e)
  have hc := cellsAt_full H0.out.box q
  have hfc := fun X => eframe_calls e he 0 0 epoch seq X
  have hfl := e.frameR_len he 0 0 epoch seq
  have h10 := (e.frameR_two 0 0 epoch seq).resolve_left hf
  obtain ⟨FR, hFR⟩ : ∃ FR, e.frameR 0 0 epoch seq = FR := ⟨_, rfl⟩
  rw [hFR] at hfc hfl h10
  rw [h10] at hfc
  have f3 := frm_one FR.1
  have f4 := (frm_facts FR.1 hfl).1
  have HFC := hid hfc
  clear hf hfc hfl h10 hFR he
  go_enter Tryz.func34, Tryz.ntmps34
  go_wp2_with fail
  refine Calls.mono (HFC.out _) ?_
  rintro r w1 ⟨rfl, hk1⟩
  have h1 := H0.out.still hk1
  have h2 := h1.still (Y := putCells (w1.alloc (.cells z_Frame 120)) ⟨w1.heap.size, 0, none⟩ (frmC FR.1)) (keeps_put0 (by repeat (first | exact Keeps.refl _ _ | refine Keeps.alloc ?_ _ | refine Keeps.drew ?_ | refine Keeps.drewN ?_ _ | refine Keeps.trans ?_ (by assumption))) (fun h => absurd h (Nat.lt_irrefl _)) _)
  obtain ⟨w2, hw2⟩ : ∃ w2, putCells (w1.alloc (.cells z_Frame 120)) ⟨w1.heap.size, 0, none⟩ (frmC FR.1) = w2 := ⟨_, rfl⟩
  rw [hw2] at h2
  have hfr := cellsFree_full (n := 6) h2.res rfl
  have H2 := hid h2
  clear hk1 h1 h2
  go_wp2_with fail
  refine bodyPost_ret (results_cell2 rfl row_Ent _ rfl (cellsAt_full (putCells_at H2.out.res rfl) rfl)) rfl ⟨rfl, ?_⟩
  exact keeps_put0 H2.out.keeps (fun h => absurd h (by omega)) _
end Go.Rv

/- Mirrors: a record is placed, or there is no room for it. -/
namespace Go.Rv
open Go Go.RowKit Go.Proofs
attribute [local irreducible] wpQuiet tab0 tabV
attribute [local go_sem ↓] ld_Entry st_Entry al_Entry ld_Frame st_Frame al_Frame ld_Ent st_Ent al_Ent ld_Table st_Table al_Table
attribute [local go_sem] cellsAt_new0 cellsAt_lt cellsAt_drew size_bytesV cellsFree_new0 size_z_Frame

/-- the box and the result's block, behind what a mirror's turning may turn. -/
structure PlOn (w : World) (e : EnS) (X : World) : Prop where
  box : X.heap[w.heap.size]? = some (.cells (enC e) 89 (0, 0))
  res : X.heap[w.heap.size + 1]? = some (.cells (entC ent0) 83 (0, 0))
theorem PlOn.kept {w : World} {e : EnS} {X Y : World} {own own' : Nat → Nat} {A : Nat → Prop} (h : PlOn w e X) (hs : Step A X own Y own') (h0 : own w.heap.size = 0 ∧ own (w.heap.size + 1) = 0) (hA : ¬ A 0) : PlOn w e Y :=
  ⟨hs.heap h.box (by rw [h0.1]; exact hA), hs.heap h.res (by rw [h0.2]; exact hA)⟩
/-- a block of nobody's, laid since, is written. -/
theorem Step.put0 {A : Nat → Prop} {w w3 w4 : World} {own own3 : Nat → Nat} (h : Step A w own w3 own3) (hset : Settled own3 w3) {b : Nat} (hb : w.heap.size ≤ b) (h0 : own3 b = 0) (hk : Keeps (fun k => k = b) w3 w4) : Step A w own w4 own3 ∧ Step (fun t => t = 0) w3 own3 w4 own3 ∧ Settled own3 w4 := by
  obtain ⟨s1, s2⟩ := Step.kept (A := fun t => t = 0) (hk.mono fun k _ e => by rw [e]; exact h0) hset
  exact ⟨⟨h.keeps.trans' hk fun i hi e => by omega, h.agree, h.fresh⟩, s1, s2⟩
theorem mirTag_zero {t : Nat} (h : mirTag t) : t ≠ 0 := (mirTag_lt h).1
theorem mgTag_zero : ¬ mgTag 0 := by unfold mgTag drvTag devTag poolTag; omega

set_option maxHeartbeats 600000 in
set_option maxRecDepth 100000 in
theorem mplace_none (own : Nat → Nat) (mb pb db plb : Nat) (M : MirS) (e : EnS) (he : e.bytes.length = 32) (epoch seq : Int) (hf : (e.frameR 0 0 epoch seq).2 = 0) (hr : M.ready.2 ≠ 0) (w : World) (h : MirAt w own mb pb db plb M) (hset : Settled own w) :
    Calls Tryz.prog 34 #[.pointer (some ⟨mb, 0, none⟩), .agg (enC e), .int .i64 epoch, .int .i64 seq] w fun r w' => r = .returned (.tuple #[.agg (entC ent0), .int .i64 M.ready.2]) ∧ ∃ own', MirAt w' own' mb pb db plb M.ready.1 ∧ Step mgTag w own w' own' ∧ Settled own' w' := by
  have q := (en_facts e he).1
  have H0 := hid (PlIn.new w e)
  have hc := cellsAt_full H0.out.box q
  have hfc := fun X => eframe_calls e he 0 0 epoch seq X
  have hfl := e.frameR_len he 0 0 epoch seq
  obtain ⟨FR, hFR⟩ : ∃ FR, e.frameR 0 0 epoch seq = FR := ⟨_, rfl⟩
  rw [hFR] at hfc hfl hf
  rw [hf] at hfc
  have f3 := frm_one FR.1
  have f4 := (frm_facts FR.1 hfl).1
  have HFC := hid hfc
  have H := hid (And.intro h hset)
  clear hf hfc hfl hFR he h hset
  obtain ⟨RD, hRD⟩ : ∃ RD, M.ready = RD := ⟨_, rfl⟩
  have hrd := fun own w h hs => mready_calls own mb pb db plb M w h hs
  rw [hRD] at hrd hr ⊢
  have HRD := hid hrd
  have kr : (RD.2 != 0) = true := by simpa using hr
  clear hrd hRD hr
  go_enter Tryz.func34, Tryz.ntmps34
  go_wp2_with fail
  refine Calls.mono (HFC.out _) ?_
  rintro r w1 ⟨rfl, hk1⟩
  have h1 := H0.out.still hk1
  have h2 := h1.still (Y := putCells (w1.alloc (.cells z_Frame 120)) ⟨w1.heap.size, 0, none⟩ (frmC FR.1)) (keeps_put0 (by repeat (first | exact Keeps.refl _ _ | refine Keeps.alloc ?_ _ | refine Keeps.drew ?_ | refine Keeps.drewN ?_ _ | refine Keeps.trans ?_ (by assumption))) (fun h => absurd h (Nat.lt_irrefl _)) _)
  obtain ⟨w2, hw2⟩ : ∃ w2, putCells (w1.alloc (.cells z_Frame 120)) ⟨w1.heap.size, 0, none⟩ (frmC FR.1) = w2 := ⟨_, rfl⟩
  rw [hw2] at h2
  have H2 := hid h2
  clear hk1 h1 h2
  go_wp2_with fail
  refine wp_loop_once ?_
  go_wp2_with fail
  refine Calls.mono (HRD.out own _ (H.out.1.still H2.out.keeps) (H.out.2.keeps H2.out.keeps)) ?_
  rintro r w3 ⟨rfl, own3, hM3, hs3, hset3⟩
  have h3 := (PlOn.mk H2.out.box H2.out.res).kept hs3 ⟨H.out.2 _ (Nat.le_refl _), H.out.2 _ (by omega)⟩ mgTag_zero
  have st3 := (Step.kept (A := mgTag) (H2.out.keeps.mono fun _ _ h => h.elim) H.out.2).1.trans hs3
  have hfr := cellsFree_full (n := 6) h3.res rfl
  have ho := (st3.agree)
  have H3 := hid (And.intro hM3 (And.intro st3 (And.intro hset3 h3)))
  have hl0 := H2.out.keeps.size
  have ho1 : own3 (w.heap.size + 1) = 0 := by
    rw [hs3.agree _ (lt_of H2.out.res)]; exact H.out.2 _ (by omega)
  have HO1 := hid ho1
  clear hM3 hs3 hset3 h3 st3 ho ho1
  go_wp2_with fail
  refine bodyPost_ret (results_cell2 rfl row_Ent _ rfl (cellsAt_full (putCells_at H3.out.2.2.2.res rfl) rfl)) rfl ⟨rfl, own3, ?_⟩
  obtain ⟨p1, p2, p3⟩ := Step.put0 (w4 := putCells w3 ⟨w.heap.size + 1, 0, none⟩ (entC ent0)) H3.out.2.1 H3.out.2.2.1 (b := w.heap.size + 1) (by omega) HO1.out (keeps_put0 (M := fun k => k = w.heap.size + 1) (Keeps.refl _ _) (fun _ => rfl) _)
  exact ⟨H3.out.1.kept p2 fun t ht e => mirTag_zero ht e, p1, p3⟩
end Go.Rv
