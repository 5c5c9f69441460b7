/- Devices: more commands. -/
import Derived.Test.YtoijkpgcaokhlaaGreatPart03
import Derived.Deep.RegionLaw
import Derived.Deep.DeepCutAuto
set_option linter.unusedVariables false
set_option linter.unusedSimpArgs false
namespace Go.Rv
open Go Go.RowKit Go.Proofs
attribute [local irreducible] wpQuiet
attribute [local go_sem ↓] ld_Sector st_Sector al_Sector bs_Sector
attribute [local go_sem] cellsAt_new0 cellsAt_lt cellsAt_drew size_bytesV

set_option maxHeartbeats 1000000 in
theorem dfinish_calls (own : Nat → Nat) (db : Nat) (D : DevS) (z : Int) (w : World) (h : DevAt w own db D) (hset : Settled own w) : Calls Tryz.prog 204 #[.pointer (some ⟨db, 0, none⟩), .int .i64 z] w fun e w' => e = .returned (.int .i64 (D.finish z).2) ∧ DevAt w' own db (D.finish z).1 ∧ Keeps (fun k => devTag (own k)) w w' := by
  have H := hid h
  have HS := hid hset
  clear h hset
  by_cases hb : (D.begin z).2 = 0
  · obtain ⟨hh, hbe⟩ := DevS.begin_ok hb
    obtain ⟨i, rfl, hi⟩ := DevS.has_ex hh
    have hr : D.finish i = ((D.begin i).1.setz i (D.z i).finish.1, (D.z i).finish.2) := by unfold DevS.finish; rw [if_neg (by omega)]; simp
    rw [hr]
    have HB := hid (And.intro hb hbe)
    clear hb hbe hh hr
    go_enter Tryz.func204, Tryz.ntmps204
    go_wp2_with fail
    refine Calls.mono (begin_calls own db D _ _ H.out) ?_
    rintro e w1 ⟨rfl, hd1, hk1⟩
    have H1 := hid (And.intro hd1 hk1)
    rw [HB.out.2] at hd1
    obtain ⟨lb, lc, cur, zb, h1, h2⟩ := hd1
    obtain ⟨c0, -⟩ := h1.cells
    have hc : w1.cell? ⟨lb, i, none⟩ = some (.pointer (some ⟨zb i, 0, none⟩)) := (cell_of h1.list i).trans (h1.elems i hi)
    obtain ⟨sv, hz⟩ := h2 i hi
    have HX := hid (And.intro h1 (And.intro h2 hz))
    clear hk1 h1 h2 hz
    rw [HB.out.1]
    go_wp2_with fail
    refine Calls.mono (zfinish_calls own _ _ _ _ _ _ HX.out.2.2) ?_
    rintro e w2 ⟨rfl, ⟨sv', hz'⟩, hk2⟩
    have H2 := hid (And.intro hz' hk2)
    clear hz' hk2
    go_wp2
    go_ret
    have hstep := (Step.kept (A := fun t => t = 1000 + i) H2.out.2 (HS.out.keeps H1.out.2)).1
    have := DevAt.zone HX.out.1 HX.out.2.1 hi H2.out.1 hstep
    rw [HB.out.2]
    exact ⟨rfl, this.1, H1.out.2.trans this.2.keeps⟩
  · have hr : D.finish z = D.begin z := by unfold DevS.finish; rw [if_pos hb]
    rw [hr]
    have hbf : ((D.begin z).2 == 0) = false := by simpa using hb
    have hbt : ((D.begin z).2 != 0) = true := by simpa using hb
    clear hr hb
    go_enter Tryz.func204, Tryz.ntmps204
    go_wp2_with fail
    refine Calls.mono (begin_calls own db D _ _ H.out) ?_
    rintro e w1 ⟨rfl, hd1, hk1⟩
    have H1 := hid (And.intro hd1 hk1)
    clear hd1 hk1
    go_wp2
    go_ret
    exact ⟨rfl, H1.out⟩
def DevS.append (D : DevS) (z : Int) (s : List UInt8) : DevS × Int × Int :=
  if (D.begin z).2 ≠ 0 then ((D.begin z).1, 0, (D.begin z).2)
  else if (D.z z.toNat).state = 0 ∧ D.opn ≤ D.openTo D.nz then ((D.begin z).1, 0, 33)
  else ((D.begin z).1.setz z.toNat ((D.z z.toNat).append D.size s).1, ((D.z z.toNat).append D.size s).2)

theorem secV_box {w : World} {s : List UInt8} (hs : s.length = 64) {W : World} (hW : Keeps (fun _ => False) (w.alloc (.cells (bytesV s) 103)) W) : cellsAt W ⟨w.heap.size, 0, none⟩ 64 = some (bytesV s) :=
  cellsAt_full (hW.heap (heap_new _ _) id) (by simp [bytesV, hs])

theorem DevS.openTo_n (D : DevS) (n' : Int) : ∀ k, ({ nz := D.nz, size := D.size, opn := D.opn, n := n', down := D.down, z := D.z } : DevS).openTo k = D.openTo k
  | 0 => rfl
  | k + 1 => by rw [DevS.openTo_succ, DevS.openTo_succ, DevS.openTo_n D n' k]

set_option maxHeartbeats 1000000 in
set_option maxRecDepth 100000 in
theorem dappend_calls (own : Nat → Nat) (db : Nat) (D : DevS) (z : Int) (s : List UInt8) (hs : s.length = 64) (w : World) (h : DevAt w own db D) (hok : D.Ok) (hset : Settled own w) : Calls Tryz.prog 203 #[.pointer (some ⟨db, 0, none⟩), .int .i64 z, secV s] w fun e w' =>
    e = .returned (.tuple #[.int .i64 (D.append z s).2.1, .int .i64 (D.append z s).2.2]) ∧ ∃ own', DevAt w' own' db (D.append z s).1 ∧ Step devTag w own w' own' ∧ Settled own' w' := by
  have H := hid h
  have HS := hid hset
  have HOK := hid hok
  clear h hset hok
  unfold secV
  by_cases hb : (D.begin z).2 = 0
  · obtain ⟨hh, hbe⟩ := DevS.begin_ok hb
    obtain ⟨i, rfl, hi⟩ := DevS.has_ex hh
    have HB := hid (And.intro hb hbe)
    clear hb hbe hh
    go_enter Tryz.func203, Tryz.ntmps203
    go_wp2_with fail
    obtain ⟨w0, hw0⟩ : ∃ w0, w.alloc (.cells (bytesV s) 103) = w0 := ⟨_, rfl⟩
    rw [hw0]
    have hk0 : Keeps (fun _ => False) w w0 := by rw [← hw0]; exact (by repeat (first | exact Keeps.refl _ _ | refine Keeps.alloc ?_ _ | refine Keeps.drew ?_ | refine Keeps.drewN ?_ _ | refine Keeps.trans ?_ (by assumption)))
    have hbx : w0.heap[w.heap.size]? = some (.cells (bytesV s) 103 (0, 0)) := by rw [← hw0]; exact heap_new _ _
    have H0 := hid (And.intro hk0 hbx)
    clear hk0 hbx hw0
    refine Calls.mono (begin_calls own db D _ _ (H.out.keeps H0.out.1 (fun _ _ => id))) ?_
    rintro e w1 ⟨rfl, hd1, hk1⟩
    have H1 := hid (And.intro hd1 hk1)
    have hbx1 : w1.heap[w.heap.size]? = some (.cells (bytesV s) 103 (0, 0)) := hk1.heap H0.out.2 (fun h => by
      have := HS.out w.heap.size (Nat.le_refl _)
      rw [this] at h; rcases h with h | h <;> omega)
    rw [HB.out.2] at hd1
    obtain ⟨lb, lc, cur, zb, h1, h2⟩ := hd1
    obtain ⟨sv, hz⟩ := h2 i hi
    have HX := hid (And.intro h1 (And.intro h2 (And.intro hz hbx1)))
    have HF : Hid (∀ W, Keeps (fun _ => False) w1 W → W.cell? ⟨db, 0, none⟩ = some (.slice (some ⟨lb, 0, none⟩) D.nz lc) ∧ W.cell? ⟨db, 2, none⟩ = some (.int .i64 D.opn) ∧ W.cell? ⟨lb, i, none⟩ = some (.pointer (some ⟨zb i, 0, none⟩)) ∧ W.cell? ⟨zb i, 3, none⟩ = some (.int .i64 (D.z i).state)) := hid fun W hW => by
      have g1 := HX.out.1.keeps hW id id
      have g2 := HX.out.2.2.1.keeps hW (fun _ _ => id)
      exact ⟨g1.cells.1, g1.cells.2.2.1, (cell_of g1.list i).trans (g1.elems i hi), (zcells g2).2.2.2.1⟩
    clear hk1 h1 h2 hz hbx1
    rw [HB.out.1]
    have HOP : Hid (∀ W, Keeps (fun _ => False) w1 W → Calls Tryz.prog 222 #[.pointer (some ⟨db, 0, none⟩)] W fun e w' => e = .returned (.int .i64 (D.openTo D.nz)) ∧ W = w') := hid fun W hW => by
      have hc := opened_calls own db _ W (DevAt.keeps ⟨lb, lc, cur, zb, HX.out.1, HX.out.2.1⟩ hW (fun _ _ => id)) HOK.out.nz.2
      rw [DevS.openTo_n] at hc
      exact hc
    by_cases k1 : (D.z i).state = 0
    · have b1 : ((D.z i).state == 0) = true := by simpa using k1
      by_cases k2 : D.opn ≤ D.openTo D.nz
      · have d2 : decide (D.opn ≤ D.openTo D.nz) = true := by simpa using k2
        have hr : D.append i s = ((D.begin i).1, 0, 33) := by unfold DevS.append; rw [if_neg (by have := HB.out.1; omega), if_pos ⟨by simpa using k1, k2⟩]
        have HR := hid hr
        clear k1 k2 hr
        go_wp2_with fail
        refine wp_region_still (by kernel_rfl) (by kernel_rfl) ?_
        repeat (first | (refine still_pass ?_ ?_; (focus (first | (go_simp; done) | rfl)); try simp only [Act.put, List.setIfInBounds_toArray, List.set_cons_succ, List.set_cons_zero]) | (apply still_step; (focus (go_simp; done)); (focus (intro W hW; unfold Oper.quietAt; (obtain ⟨c0, c2, c3, c4⟩ := HF.out W hW); go_simp; first | done | with_reducible rfl | (first | (go_at_call 86; exact still_call_same hW (zstate_calls _ _ _ c4)) | (go_at_call 222; exact still_call_same hW (HOP.out W hW))) | exact ⟨rfl, rfl⟩)); try simp only [Act.put, List.setIfInBounds_toArray, List.set_cons_succ, List.set_cons_zero]))
        refine wpQuiet_nil ?_
        intro W hW
        go_wp2
        go_ret2
        rw [HR.out]
        refine ⟨rfl, own, H1.out.1.keeps hW (fun _ _ => id), Step.kept ?_ HS.out⟩
        exact ((H0.out.1.mono fun _ _ h => h.elim).trans H1.out.2).trans (hW.mono fun _ _ h => h.elim)
      · have d2 : decide (D.opn ≤ D.openTo D.nz) = false := by simpa using k2
        have hr : D.append i s = ((D.begin i).1.setz i ((D.z i).append D.size s).1, ((D.z i).append D.size s).2) := by unfold DevS.append; rw [if_neg (by have := HB.out.1; omega), if_neg (fun h => k2 h.2)]; simp
        have HR := hid hr
        clear k1 k2 hr
        go_wp2_with fail
        refine wp_region_still (by kernel_rfl) (by kernel_rfl) ?_
        repeat (first | (refine still_pass ?_ ?_; (focus (first | (go_simp; done) | rfl)); try simp only [Act.put, List.setIfInBounds_toArray, List.set_cons_succ, List.set_cons_zero]) | (apply still_step; (focus (go_simp; done)); (focus (intro W hW; unfold Oper.quietAt; (obtain ⟨c0, c2, c3, c4⟩ := HF.out W hW); go_simp; first | done | with_reducible rfl | (first | (go_at_call 86; exact still_call_same hW (zstate_calls _ _ _ c4)) | (go_at_call 222; exact still_call_same hW (HOP.out W hW))) | exact ⟨rfl, rfl⟩)); try simp only [Act.put, List.setIfInBounds_toArray, List.set_cons_succ, List.set_cons_zero]))
        refine wpQuiet_nil ?_
        intro W hW
        obtain ⟨c0, c2, c3, c4⟩ := HF.out W hW
        have cb : cellsAt W ⟨w.heap.size, 0, none⟩ 64 = some (bytesV s) := cellsAt_full (hW.heap HX.out.2.2.2 id) (by simp [bytesV, hs])
        go_wp2_with fail
        have hK : Keeps (fun _ => False) w1 W.drew := hW.drew
        have HZ := hid (And.intro (HX.out.2.2.1.keeps hK (fun _ _ => id)) hK)
        have hset' : Settled own W.drew := ((HS.out.keeps H0.out.1).keeps H1.out.2).keeps hK
        have HS' := hid hset'
        have hlen := HOK.out.len i hi
        have hsz := HOK.out.size.2
        clear hK hset' hW
        go_region_law (first | (go_simp; go_at_call 223; refine Calls.mono (zappend_calls own _ _ _ _ sv _ s hs HZ.out.1 HS'.out (by omega)) ?_; rintro e w2 ⟨rfl, hx2⟩; have HX2 := hid hx2; clear hx2))
        all_goals
          go_wp2_with fail
          go_ret2
          obtain ⟨own', sv', hz', hs', hst'⟩ := HX2.out
          have r := DevAt.zone (HX.out.1.keeps HZ.out.2 id id) (fun j hj => by obtain ⟨sv, hzz⟩ := HX.out.2.1 j hj; exact ⟨sv, hzz.keeps HZ.out.2 (fun _ _ => id)⟩) hi hz' hs'
          rw [HR.out, HB.out.2]
          exact ⟨rfl, own', r.1, ((Step.kept (A := devTag) (((H0.out.1.mono fun _ _ h => h.elim).trans H1.out.2).trans (HZ.out.2.mono fun _ _ h => h.elim)) HS.out).1).trans r.2, hst'⟩
    · have b1 : ((D.z i).state == 0) = false := by simpa using k1
      have hr : D.append i s = ((D.begin i).1.setz i ((D.z i).append D.size s).1, ((D.z i).append D.size s).2) := by unfold DevS.append; rw [if_neg (by have := HB.out.1; omega), if_neg (fun h => k1 (by simpa using h.1))]; simp
      have HR := hid hr
      clear k1 hr
      go_wp2_with fail
      refine wp_region_still (by kernel_rfl) (by kernel_rfl) ?_
      repeat (first | (refine still_pass ?_ ?_; (focus (first | (go_simp; done) | rfl)); try simp only [Act.put, List.setIfInBounds_toArray, List.set_cons_succ, List.set_cons_zero]) | (apply still_step; (focus (go_simp; done)); (focus (intro W hW; unfold Oper.quietAt; (obtain ⟨c0, c2, c3, c4⟩ := HF.out W hW); go_simp; first | done | with_reducible rfl | (first | (go_at_call 86; exact still_call_same hW (zstate_calls _ _ _ c4)) | (go_at_call 222; exact still_call_same hW (HOP.out W hW))) | exact ⟨rfl, rfl⟩)); try simp only [Act.put, List.setIfInBounds_toArray, List.set_cons_succ, List.set_cons_zero]))
      refine wpQuiet_nil ?_
      intro W hW
      obtain ⟨c0, c2, c3, c4⟩ := HF.out W hW
      have cb : cellsAt W ⟨w.heap.size, 0, none⟩ 64 = some (bytesV s) := cellsAt_full (hW.heap HX.out.2.2.2 id) (by simp [bytesV, hs])
      go_wp2_with fail
      have hK : Keeps (fun _ => False) w1 W.drew := hW.drew
      have HZ := hid (And.intro (HX.out.2.2.1.keeps hK (fun _ _ => id)) hK)
      have hset' : Settled own W.drew := ((HS.out.keeps H0.out.1).keeps H1.out.2).keeps hK
      have HS' := hid hset'
      have hlen := HOK.out.len i hi
      have hsz := HOK.out.size.2
      clear hK hset' hW
      go_region_law (first | (go_simp; go_at_call 223; refine Calls.mono (zappend_calls own _ _ _ _ sv _ s hs HZ.out.1 HS'.out (by omega)) ?_; rintro e w2 ⟨rfl, hx2⟩; have HX2 := hid hx2; clear hx2))
      all_goals
        go_wp2_with fail
        go_ret2
        obtain ⟨own', sv', hz', hs', hst'⟩ := HX2.out
        have r := DevAt.zone (HX.out.1.keeps HZ.out.2 id id) (fun j hj => by obtain ⟨sv, hzz⟩ := HX.out.2.1 j hj; exact ⟨sv, hzz.keeps HZ.out.2 (fun _ _ => id)⟩) hi hz' hs'
        rw [HR.out, HB.out.2]
        exact ⟨rfl, own', r.1, ((Step.kept (A := devTag) (((H0.out.1.mono fun _ _ h => h.elim).trans H1.out.2).trans (HZ.out.2.mono fun _ _ h => h.elim)) HS.out).1).trans r.2, hst'⟩
  · have hr : D.append z s = ((D.begin z).1, 0, (D.begin z).2) := by unfold DevS.append; rw [if_pos hb]
    rw [hr]
    have hbt : ((D.begin z).2 != 0) = true := by simpa using hb
    have hbf : ((D.begin z).2 == 0) = false := by simpa using hb
    clear hr hb
    go_enter Tryz.func203, Tryz.ntmps203
    go_wp2_with fail
    obtain ⟨w0, hw0⟩ : ∃ w0, w.alloc (.cells (bytesV s) 103) = w0 := ⟨_, rfl⟩
    rw [hw0]
    have hk0 : Keeps (fun _ => False) w w0 := by rw [← hw0]; exact (by repeat (first | exact Keeps.refl _ _ | refine Keeps.alloc ?_ _ | refine Keeps.drew ?_ | refine Keeps.drewN ?_ _ | refine Keeps.trans ?_ (by assumption)))
    have H0 := hid hk0
    clear hk0 hw0
    refine Calls.mono (begin_calls own db D _ _ (H.out.keeps H0.out (fun _ _ => id))) ?_
    rintro e w1 ⟨rfl, hd1, hk1⟩
    have H1 := hid (And.intro hd1 hk1)
    clear hd1 hk1
    go_wp2
    go_ret2
    exact ⟨rfl, own, H1.out.1, Step.kept ((H0.out.mono fun _ _ h => h.elim).trans H1.out.2) HS.out⟩
end Go.Rv

/- Devices: crashing, failing. -/
namespace Go.Rv
open Go Go.RowKit Go.Proofs

theorem dcrash_calls (own : Nat → Nat) (db : Nat) (D : DevS) (w : World) (h : DevAt w own db D) : Calls Tryz.prog 39 #[.pointer (some ⟨db, 0, none⟩)] w fun e w' => e = .returned (.tuple #[]) ∧ DevAt w' own db { D with down := true } ∧ Keeps (fun k => devTag (own k)) w w' := by
  obtain ⟨lb, lc, cur, zb, h1, h2⟩ := h
  obtain ⟨c0, c1, c2, c3, c4, f3, f4, hb, hl⟩ := h1.cells
  have HX := hid (And.intro h1 h2)
  clear h1 h2
  go_enter Tryz.func39, Tryz.ntmps39
  go_wp2_with fail
  go_end0
  have q := heap_set HX.out.1.heap 4 (.bool true)
  exact ⟨rfl, DevAt.upd HX.out.1 HX.out.2 (by repeat (first | exact Keeps.refl _ _ | refine keeps_set ?_ _ _)) q⟩

def DevS.failz (D : DevS) (z st : Int) : DevS × Int := if D.has z then (D.setz z.toNat ((D.z z.toNat).fail st), 0) else (D, 13)

set_option maxHeartbeats 1000000 in
theorem dfail_calls (own : Nat → Nat) (db : Nat) (D : DevS) (z st : Int) (w : World) (h : DevAt w own db D) (hset : Settled own w) : Calls Tryz.prog 206 #[.pointer (some ⟨db, 0, none⟩), .int .i64 z, .int .i64 st] w fun e w' => e = .returned (.int .i64 (D.failz z st).2) ∧ DevAt w' own db (D.failz z st).1 ∧ Keeps (fun k => devTag (own k)) w w' := by
  have H := hid h
  have HS := hid hset
  obtain ⟨lb, lc, cur, zb, h1, h2⟩ := h
  obtain ⟨c0, -⟩ := h1.cells
  cases hh : D.has z with
  | false =>
    have hr : D.failz z st = (D, 13) := by simp [DevS.failz, hh]
    rw [hr]
    have HH := hid hh
    clear h1 h2 hh hr hset
    go_enter Tryz.func206, Tryz.ntmps206
    go_wp2_with fail
    refine Calls.mono (dhas_calls own db D z _ H.out) ?_
    rintro e w1 ⟨rfl, rfl⟩
    rw [HH.out]
    go_wp2
    go_ret
    exact ⟨rfl, H.out, Keeps.refl _ _⟩
  | true =>
    obtain ⟨i, rfl, hi⟩ := DevS.has_ex hh
    have hr : D.failz i st = (D.setz i ((D.z i).fail st), 0) := by simp [DevS.failz, hh]
    rw [hr]
    have hc : w.cell? ⟨lb, i, none⟩ = some (.pointer (some ⟨zb i, 0, none⟩)) := (cell_of h1.list i).trans (h1.elems i hi)
    obtain ⟨sv, hz⟩ := h2 i hi
    have HX := hid (And.intro h1 (And.intro h2 hz))
    have HH := hid hh
    clear h1 h2 hh hz hr hset
    go_enter Tryz.func206, Tryz.ntmps206
    go_wp2_with fail
    refine Calls.mono (dhas_calls own db D _ _ H.out) ?_
    rintro e w1 ⟨rfl, rfl⟩
    rw [HH.out]
    go_wp2_with fail
    refine Calls.mono (zfail_calls own _ _ _ _ _ st _ HX.out.2.2) ?_
    rintro e w2 ⟨rfl, ⟨sv', hz'⟩, hk2⟩
    have H2 := hid (And.intro hz' hk2)
    clear hz' hk2
    go_wp2
    go_ret
    have r := DevAt.zone HX.out.1 HX.out.2.1 hi H2.out.1 (Step.kept (A := fun t => t = 1000 + i) H2.out.2 HS.out).1
    exact ⟨rfl, r.1, r.2.keeps⟩
end Go.Rv

/- Devices: flushing. -/
namespace Go.Rv
open Go Go.RowKit Go.Proofs

def DevS.flushTo (D : DevS) (k : Nat) : DevS := { D with n := wrap64 (D.n + 1), z := fun i => if i < k then (D.z i).flush else D.z i }
def DevS.flush (D : DevS) : DevS × Int := if D.down then (D, 34) else (D.flushTo D.nz, 0)

theorem DevS.flushTo_succ (D : DevS) (k : Nat) : (D.flushTo k).setz k ((D.flushTo k).z k).flush = D.flushTo (k + 1) := by
  unfold DevS.flushTo DevS.setz
  congr 1
  funext i
  by_cases h : i = k
  · subst h; simp
  · by_cases h2 : i < k
    · simp [h, h2, show i < k + 1 by omega]
    · simp [h, h2, show ¬ i < k + 1 by omega]

theorem zone_parts {w w' : World} {own : Nat → Nat} {db : Nat} {D : DevS} {lb lc : Nat} {cur : Array Value} {zb : Nat → Nat} (h1 : DevHead w own db D lb lc cur zb) (h2 : ZsAt w own D zb) {i : Nat} {Z' : ZoneS} {sv' : Value}
    (hz : ZoneAt w' own (1000 + i) (zb i) D.size Z' sv') (hk : Keeps (fun k => own k = 1000 + i) w w') : DevHead w' own db (D.setz i Z') lb lc cur zb ∧ ZsAt w' own (D.setz i Z') zb ∧ Keeps (fun k => devTag (own k)) w w' := by
  refine ⟨⟨h1.mine, h1.minel, hk.heap h1.heap (by rw [h1.mine]; omega), hk.heap h1.list (by rw [h1.minel]; omega), h1.elems⟩, fun j hj => ?_, hk.mono fun k _ e => .inr (by omega)⟩
  by_cases hji : j = i
  · subst hji; exact ⟨sv', by simpa [DevS.setz] using hz⟩
  · obtain ⟨sv, hzz⟩ := h2 j hj
    exact ⟨sv, by simpa [DevS.setz, hji] using hzz.keeps hk (fun k e => by omega)⟩
theorem upd_parts {w W : World} {own : Nat → Nat} {db : Nat} {D : DevS} {lb lc : Nat} {cur : Array Value} {zb : Nat → Nat} {n' : Int} {down' : Bool} (h1 : DevHead w own db D lb lc cur zb) (h2 : ZsAt w own D zb) (hk : Keeps (fun k => k = db) w W)
    (hz : W.heap[db]? = some (.cells #[.slice (some ⟨lb, 0, none⟩) D.nz lc, .int .i64 D.size, .int .i64 D.opn, .int .i64 n', .bool down'] 183 (0, 0))) : DevHead W own db { D with n := n', down := down' } lb lc cur zb ∧ ZsAt W own { D with n := n', down := down' } zb ∧ Keeps (fun k => devTag (own k)) w W := by
  have hne : lb ≠ db := fun e => by have := h1.list; rw [e] at this; have := this.symm.trans h1.heap; cases this
  refine ⟨⟨h1.mine, h1.minel, hz, hk.heap h1.list hne, h1.elems⟩, fun i hi => ?_, hk.mono fun i _ hi => by subst hi; exact .inl h1.mine⟩
  obtain ⟨sv, hzz⟩ := h2 i hi
  exact ⟨sv, hzz.keeps hk fun k e hk => by subst hk; rw [h1.mine] at e; omega⟩

set_option maxHeartbeats 1000000 in
theorem dflush_calls (own : Nat → Nat) (db : Nat) (D : DevS) (w : World) (h : DevAt w own db D) (hset : Settled own w) (hn : D.nz ≤ 512) : Calls Tryz.prog 119 #[.pointer (some ⟨db, 0, none⟩)] w fun e w' => e = .returned (.int .i64 D.flush.2) ∧ DevAt w' own db D.flush.1 ∧ Keeps (fun k => devTag (own k)) w w' := by
  have H := hid h
  have HS := hid hset
  obtain ⟨lb, lc, cur, zb, h1, h2⟩ := h
  obtain ⟨c0, c1, c2, c3, c4, f3, f4, hb, hl⟩ := h1.cells
  cases hd : D.down with
  | true =>
    have hg : D.flush = (D, 34) := by simp [DevS.flush, hd]
    rw [hg]
    rw [hd] at c4
    clear h1 h2 hset hd hg
    go_enter Tryz.func119, Tryz.ntmps119
    go_wp2
    go_ret
    exact ⟨rfl, H.out, Keeps.refl _ _⟩
  | false =>
    have hg : D.flush = (D.flushTo D.nz, 0) := by simp [DevS.flush, hd]
    rw [hg]
    have q := heap_set h1.heap 3 (.int .i64 (wrap64 (D.n + 1)))
    have hu := upd_parts h1 h2 (by repeat (first | exact Keeps.refl _ _ | refine keeps_set ?_ _ _)) q
    have HU := hid hu
    rw [hd] at c4
    have h0 : ({ D with n := wrap64 (D.n + 1), down := D.down } : DevS) = D.flushTo 0 := by simp [DevS.flushTo]
    rw [h0] at HU
    clear h1 h2 hset hd hg q hu h0
    go_enter Tryz.func119, Tryz.ntmps119
    go_wp2_with fail
    go_loopg [21] D.nz (fun (gk : Nat) (b : Value) (wr : World) => ∃ d : Nat, d + gk = D.nz ∧ b = .int .i64 d ∧ DevHead wr own db (D.flushTo d) lb lc cur zb ∧ ZsAt wr own (D.flushTo d) zb ∧ Keeps (fun k => devTag (own k)) w wr)
    case atStart => exact ⟨0, by omega, rfl, HU.out⟩
    case round =>
      obtain ⟨d, hd, rfl, g1, g2, gk2⟩ := hrel
      have HG := hid (And.intro g1 (And.intro g2 gk2))
      clear g1 g2 gk2
      by_cases c : d < D.nz
      · have dd : decide (d < D.nz) = true := by simpa using c
        have hc : wr.cell? ⟨lb, d, none⟩ = some (.pointer (some ⟨zb d, 0, none⟩)) := (cell_of HG.out.1.list d).trans (HG.out.1.elems d c)
        obtain ⟨sv, hz⟩ := HG.out.2.1 d c
        have HZ := hid hz
        clear hz
        go_wp2_with fail
        refine Calls.mono (zflush_calls own _ _ _ _ _ _ HZ.out) ?_
        rintro e w2 ⟨rfl, ⟨sv', hz'⟩, hk2⟩
        have H2 := hid (And.intro hz' hk2)
        clear hz' hk2
        go_wp2_with fail
        go_roundg (gk - 1)
        case measure => omega
        case rel =>
          have r := zone_parts HG.out.1 HG.out.2.1 H2.out.1 H2.out.2
          rw [DevS.flushTo_succ] at r
          exact ⟨d + 1, by omega, by go_num, r.1, r.2.1, HG.out.2.2.trans r.2.2⟩
      · have dd : decide (d < D.nz) = false := by simpa using c
        have hdn : d = D.nz := by omega
        subst hdn
        go_wp2_with fail
        go_ret
        exact ⟨rfl, ⟨lb, lc, cur, zb, HG.out.1, HG.out.2.1⟩, HG.out.2.2⟩
end Go.Rv

/- Devices: reading. -/
namespace Go.Rv
open Go Go.RowKit Go.Proofs
attribute [local go_sem ↓] ld_Sector st_Sector al_Sector bs_Sector
attribute [local go_sem] cellsAt_new0 cellsAt_lt cellsAt_drew size_bytesV

def DevS.read (D : DevS) (z off : Int) : DevS × List UInt8 × Int := if (D.begin z).2 ≠ 0 then ((D.begin z).1, zero64, (D.begin z).2) else ((D.begin z).1, (D.z z.toNat).read off)

set_option maxHeartbeats 1000000 in
set_option maxRecDepth 100000 in
theorem dread_calls (own : Nat → Nat) (db : Nat) (D : DevS) (z off : Int) (w : World) (h : DevAt w own db D) (hok : D.Ok) (hset : Settled own w) : Calls Tryz.prog 180 #[.pointer (some ⟨db, 0, none⟩), .int .i64 z, .int .i64 off] w fun e w' => e = .returned (.tuple #[secV (D.read z off).2.1, .int .i64 (D.read z off).2.2]) ∧ DevAt w' own db (D.read z off).1 ∧ Keeps (fun k => devTag (own k)) w w' := by
  have H := hid h
  have HS := hid hset
  have HOK := hid hok
  clear h hset hok
  obtain ⟨w0, hw0⟩ : ∃ w0, w.alloc (.cells z_Sector 103) = w0 := ⟨_, rfl⟩
  have hk0 : Keeps (fun _ => False) w w0 := by rw [← hw0]; exact (by repeat (first | exact Keeps.refl _ _ | refine Keeps.alloc ?_ _ | refine Keeps.drew ?_ | refine Keeps.drewN ?_ _ | refine Keeps.trans ?_ (by assumption)))
  have hbx : w0.heap[w.heap.size]? = some (.cells z_Sector 103 (0, 0)) := by rw [← hw0]; exact heap_new _ _
  have H0 := hid (And.intro hk0 (And.intro hbx hw0))
  clear hk0 hbx hw0
  by_cases hb : (D.begin z).2 = 0
  · obtain ⟨hh, hbe⟩ := DevS.begin_ok hb
    obtain ⟨i, rfl, hi⟩ := DevS.has_ex hh
    have hr : D.read i off = ((D.begin i).1, (D.z i).read off) := by unfold DevS.read; rw [if_neg (by omega)]; simp
    rw [hr]
    have HB := hid (And.intro hb hbe)
    clear hb hbe hh hr
    go_enter Tryz.func180, Tryz.ntmps180
    go_wp2_with fail
    rw [H0.out.2.2]
    refine Calls.mono (begin_calls own db D _ _ (H.out.keeps H0.out.1 (fun _ _ => id))) ?_
    rintro e w1 ⟨rfl, hd1, hk1⟩
    have hbx1 : w1.heap[w.heap.size]? = some (.cells z_Sector 103 (0, 0)) := hk1.heap H0.out.2.1 (fun h => by
      have := HS.out w.heap.size (Nat.le_refl _)
      rw [this] at h; rcases h with h | h <;> omega)
    have H1 := hid (And.intro hd1 (And.intro hk1 hbx1))
    rw [HB.out.2] at hd1
    obtain ⟨lb, lc, cur, zb, h1, h2⟩ := hd1
    obtain ⟨c0, -⟩ := h1.cells
    have hc : w1.cell? ⟨lb, i, none⟩ = some (.pointer (some ⟨zb i, 0, none⟩)) := (cell_of h1.list i).trans (h1.elems i hi)
    obtain ⟨sv, hz⟩ := h2 i hi
    have HZ := hid hz
    clear hk1 hbx1 h1 h2 hz
    rw [HB.out.1]
    go_wp2_with fail
    refine Calls.mono (zread_calls own _ _ _ _ _ off _ HZ.out (HOK.out.sec i hi)) ?_
    rintro e w2 ⟨rfl, hk2⟩
    have hb2 := hk2.heap H1.out.2.2 id
    have e2 := cellsFree_full (n := 64) hb2 rfl
    have H2 := hid (And.intro hk2 hb2)
    have e3 := allOne_bytes ((D.z i).read off).1
    have e4 : (bytesV ((D.z i).read off).1).size = 64 := by
      have := HOK.out.sec i hi
      unfold ZoneS.read
      split
      · rfl
      · split
        · rfl
        · rename_i h
          simp only [bytesV, List.size_toArray, List.length_map]
          rw [List.getD_eq_getElem?_getD, List.getElem?_eq_getElem (by omega)]
          exact this _ (List.getElem_mem _)
    clear hk2 hb2
    unfold secV
    go_wp2_with fail
    have own0 := HS.out w.heap.size (Nat.le_refl _)
    refine bodyPost_ret (results_cell2 rfl row_Sector _ rfl (cellsAt_full (putCells_at H2.out.2 (by rw [e4]; rfl)) e4)) rfl ⟨rfl, ?_, ?_⟩
    · exact H1.out.1.keeps (keeps_put0 (M := fun k => k = w.heap.size) (H2.out.1.mono fun _ _ h => h.elim) (fun _ => rfl) _) (fun k h e => by subst e; rw [own0] at h; rcases h with h | h <;> omega)
    · exact keeps_put0 (((H0.out.1.mono fun _ _ h => h.elim).trans H1.out.2.1).trans (H2.out.1.mono fun _ _ h => h.elim)) (fun h => absurd h (Nat.lt_irrefl _)) _
  · have hr : D.read z off = ((D.begin z).1, zero64, (D.begin z).2) := by unfold DevS.read; rw [if_pos hb]
    rw [hr]
    have hbt : ((D.begin z).2 != 0) = true := by simpa using hb
    have hbf : ((D.begin z).2 == 0) = false := by simpa using hb
    clear hr hb
    go_enter Tryz.func180, Tryz.ntmps180
    go_wp2_with fail
    rw [H0.out.2.2]
    refine Calls.mono (begin_calls own db D _ _ (H.out.keeps H0.out.1 (fun _ _ => id))) ?_
    rintro e w1 ⟨rfl, hd1, hk1⟩
    have hbx1 : w1.heap[w.heap.size]? = some (.cells z_Sector 103 (0, 0)) := hk1.heap H0.out.2.1 (fun h => by
      have := HS.out w.heap.size (Nat.le_refl _)
      rw [this] at h; rcases h with h | h <;> omega)
    have H1 := hid (And.intro hd1 (And.intro hk1 hbx1))
    have e2 := cellsFree_full (n := 64) hbx1 rfl
    clear hd1 hk1 hbx1
    go_wp2_with fail
    have HB := hid H1.out.2.2
    have own0 := HS.out w.heap.size (Nat.le_refl _)
    refine bodyPost_ret (results_cell2 rfl row_Sector _ rfl (cellsAt_full (putCells_at HB.out rfl) rfl)) rfl ⟨rfl, ?_, ?_⟩
    · exact H1.out.1.keeps (keeps_put0 (M := fun k => k = w.heap.size) (Keeps.refl _ _) (fun _ => rfl) _) (fun k h e => by subst e; rw [own0] at h; rcases h with h | h <;> omega)
    · exact keeps_put0 ((H0.out.1.mono fun _ _ h => h.elim).trans H1.out.2.1) (fun h => absurd h (Nat.lt_irrefl _)) _
end Go.Rv

/- A new device. -/
namespace Go.Rv
open Go Go.RowKit Go.Proofs

theorem infoZ : (Tryz.prog.info? 180).map (fun i => (i.zero, i.size, i.bytes)) = some (some (.pointer none), 1, 8) := by kernel_rfl

theorem zwithin_calls (n m : Int) (w : World) : Calls Tryz.prog 124 #[.int .i64 n, .int .i64 m] w fun e w' => e = .returned (.bool (decide (1 ≤ n) && decide (n ≤ m))) ∧ w = w' := by
  by_cases k1 : 1 ≤ n
  · have d1 : decide (1 ≤ n) = true := by simpa using k1
    go_enter Tryz.func124, Tryz.ntmps124
    go_wp2
    go_ret
    exact ⟨by simp [k1], rfl⟩
  · have d1 : decide (1 ≤ n) = false := by simpa using k1
    go_enter Tryz.func124, Tryz.ntmps124
    go_wp2
    go_ret
    exact ⟨by simp [k1], rfl⟩

structure DNew (w : World) (own : Nat → Nat) (size opn : Int) (d : Nat) (wr : World) : Prop where
  ex : ∃ (v : Value) (own' : Nat → Nat) (zb : Nat → Nat) (xs : List Value), wr.heap[w.heap.size]? = some (.cells #[v, .int .i64 size, .int .i64 opn, .int .i64 0, .bool false] 183 (0, 0)) ∧ own' w.heap.size = 1 ∧
    wr.ownsRow w.heap.size 180 1 v d xs ∧ (∀ k, v.ownBlock = some k → own' k = 1 ∧ k ≠ w.heap.size) ∧ (∀ j, j < d → xs[j]? = some (.pointer (some ⟨zb j, 0, none⟩))) ∧
    (∀ j, j < d → ZoneAt wr own' (1000 + j) (zb j) size ⟨[], 0, 0, false⟩ (.slice none 0 0)) ∧ Step devTag w own wr own' ∧ Settled own' wr

set_option maxHeartbeats 1000000 in
set_option maxRecDepth 100000 in
theorem dnew_good (own : Nat → Nat) (nz : Nat) (size opn : Int) (h1 : 1 ≤ nz ∧ nz ≤ 512) (h2 : 1 ≤ size ∧ size ≤ 64) (h3 : 1 ≤ opn ∧ opn ≤ 64) (w : World) (hset : Settled own w) : Calls Tryz.prog 72 #[.int .i64 nz, .int .i64 size, .int .i64 opn] w fun e w' =>
    ∃ db own', e = .returned (.tuple #[.pointer (some ⟨db, 0, none⟩), .int .i64 0]) ∧ DevAt w' own' db ⟨nz, size, opn, 0, false, fun _ => ⟨[], 0, 0, false⟩⟩ ∧ Step devTag w own w' own' ∧ Settled own' w' := by
  have HS := hid hset
  clear hset
  have e1 : (decide ((1 : Int) ≤ nz) && decide ((nz : Int) ≤ 512)) = true := by simp; omega
  have e2 : (decide (1 ≤ opn) && decide (opn ≤ 64)) = true := by simp; omega
  have E1 := hid e1
  have E2 := hid e2
  clear e1 e2
  obtain ⟨i0, hi, hz0, hz1', hz2⟩ := info_parts infoZ
  have HI := hid (And.intro hi (And.intro hz0 (And.intro hz1' hz2)))
  clear hi hz0 hz1' hz2
  go_enter Tryz.func72, Tryz.ntmps72
  go_wp2_with fail
  refine Calls.mono (zwithin_calls _ _ _) ?_
  rintro e w1 ⟨rfl, rfl⟩
  rw [E1.out]
  go_wp2_with fail
  refine Calls.mono (zwithin_calls _ _ _) ?_
  rintro e w1 ⟨rfl, rfl⟩
  rw [E2.out]
  go_wp2_with fail
  go_loopg [24] nz (fun (gk : Nat) (i : Value) (wr : World) => ∃ d : Nat, d + gk = nz ∧ i = .int .i64 d ∧ DNew w own size opn d wr)
  case atStart =>
    refine ⟨0, by omega, rfl, .slice none 0 0, tag own w.heap.size 1, fun _ => 0, [], heap_new _ _, tag_self _ _ _, ?_, by simp [Value.ownBlock], fun j hj => by omega, fun j hj => by omega, ?_⟩
    · exact ⟨by simp, .inl ⟨rfl, rfl⟩⟩
    · exact Step.tag (by repeat (first | exact Keeps.refl _ _ | refine Keeps.alloc ?_ _ | refine Keeps.drew ?_ | refine Keeps.drewN ?_ _ | refine Keeps.trans ?_ (by assumption))) HS.out (.inl rfl) (.inr (Nat.le_refl _)) (by simp)
  case round =>
    obtain ⟨d, hd, rfl, v, own', zb, xs, hdb, hdo, hrow, hvb, hxs, hzs, hst, hset⟩ := hrel
    have hdw := lt_of hdb
    by_cases c : d < nz
    · have dd : decide (d < nz) = true := by simpa using c
      have k0 := cell_of hdb 0
      simp at k0
      have HX := hid (And.intro hdb (And.intro hdo (And.intro hrow (And.intro hvb (And.intro hxs (And.intro hzs (And.intro hst hset)))))))
      clear hdb hdo hrow hvb hxs hzs hst hset
      go_wp2_with fail
      refine Calls.mono (znew_good size h2.1 h2.2 _) ?_
      rintro e w2 ⟨rfl, hw2⟩
      have hs2 : w2.heap.size = wr.heap.size + 1 := by rw [hw2]; simp
      have hk2 : Keeps (fun _ => False) wr w2 := by rw [hw2]; exact (by repeat (first | exact Keeps.refl _ _ | refine Keeps.alloc ?_ _ | refine Keeps.drew ?_ | refine Keeps.drewN ?_ _ | refine Keeps.trans ?_ (by assumption)))
      have k0' : w2.cell? ⟨w.heap.size, 0, none⟩ = some v := (hk2.cell hdw id).trans k0
      have hc1 : w2.heap[wr.heap.size]? = some (.cells #[.slice none 0 0, .int .i64 size, .int .i64 0, .int .i64 0, .bool false] 240 (0, 0)) := by rw [hw2]; exact heap_new _ _
      have H2 := hid (And.intro hk2 (And.intro hc1 hs2))
      have hdw2 : w.heap.size < w2.heap.size := by omega
      clear hw2 hk2 hc1 hs2 k0
      obtain ⟨hi, hz0, hz1, hz2⟩ := HI.out
      go_wp2_with (at_builtin; refine wpList_append_own _ rfl (.tmp 38) (.tmp 40) 181 rfl w.heap.size 180 i0 (.pointer none) 1 8 Tryz.underlying181 hi hz0 hz1 hz2 rfl (by decide) v d xs rfl ?own ⟨w2.heap.size, 0, none⟩ 1 1 [.pointer (some ⟨wr.heap.size, 0, none⟩)] rfl rfl ?c1 ?c2 ?c3 ?c4 ?c5 ?go)
      case own => exact ownsRow_keeps HX.out.2.2.1 (M := fun _ => False) ((H2.out.1).alloc _) fun _ _ _ _ h => h
      case c1 => intro j u hj; match j, hj with | 0, hj => simp at hj; subst hj; simp [Addr.add]
      case c2 => intro u hu; simp at hu; subst hu; rfl
      case c3 => unfold maxLen; omega
      case c4 => omega
      case c5 => simp; omega
      case go =>
        intro v' w3 hown3 hgrow _
        obtain ⟨g3, cap3, rfl⟩ := ownsRow_succ' hown3
        obtain ⟨hdb, hdo, hrow, hvb, hxs, hzs, hst, hset⟩ := HX.out
        obtain ⟨hk2, hc1, hs2⟩ := H2.out
        have hk3 : Keeps (fun b => v.ownBlock = some b) w2 w3 := ((Keeps.refl _ _).alloc _).grown hgrow fun g hg _ => hg
        have hs3 : w2.heap.size + 1 ≤ w3.heap.size := by have := hgrow.size; simpa using this
        have hpv : ¬ v.ownBlock = some w.heap.size := fun e => (hvb _ e).2 rfl
        have hdb3 := hk3.heap (hk2.heap hdb id) hpv
        have k0'' := cell_of hdb3 0
        have f0 := free_of hdb3 0
        have hdw3 := lt_of hdb3
        simp at k0''
        have hvn : ∀ k, v.ownBlock = some k → w.heap.size ≤ k ∧ k < wr.heap.size ∧ ∃ cur, wr.heap[k]? = some (.cells cur 180 (0, 0)) := fun k hk => ownsRow_block hrow hk
        have H3 := hid (And.intro hown3 (And.intro hk3 (And.intro hs3 (And.intro hdb3 hvn))))
        clear hdb hdo hrow hvb hxs hzs hst hset hk2 hc1 hs2 hown3 hgrow hk3 hs3 hpv hdb3 hvn k0' hi hz0 hz1 hz2
        go_wp2
        go_roundg (gk - 1)
        case measure => omega
        case rel =>
          obtain ⟨hdb, hdo, hrow, hvb, hxs, hzs, hst, hset⟩ := HX.out
          obtain ⟨hk2, hc1, hs2⟩ := H2.out
          obtain ⟨hown3, hk3, hs3, hdb3, hvn⟩ := H3.out
          have hvo : (Value.slice (some ⟨g3, 0, none⟩) (d + 1) cap3).ownBlock = some g3 := rfl
          obtain ⟨hg3, hg3w, cur3, hcur3⟩ := ownsRow_block hown3 hvo
          have hkw : Keeps (fun b => v.ownBlock = some b) wr w3 := (hk2.mono fun _ _ h => h.elim).trans hk3
          have hks : Keeps (fun b => v.ownBlock = some b ∨ b = w.heap.size) wr (w3.setCell ⟨w.heap.size, 0, none⟩ (.slice (some ⟨g3, 0, none⟩) (d + 1) cap3)) := (hkw.mono fun _ _ h => .inl h).setCell (fun _ => .inr rfl) _
          have hnw : ¬ v.ownBlock = some wr.heap.size := fun e => by have := hvn _ e; omega
          have e1 : (w3.setCell ⟨w.heap.size, 0, none⟩ (.slice (some ⟨g3, 0, none⟩) (d + 1) cap3)).heap[wr.heap.size]? = some (.cells #[.slice none 0 0, .int .i64 size, .int .i64 0, .int .i64 0, .bool false] 240 (0, 0)) := by
            rw [heap_set_ne _ _ (by omega)]; exact hk3.heap hc1 hnw
          have n1 : g3 ≠ wr.heap.size := fun e => by rw [e] at hcur3; have := hcur3.symm.trans (hk3.heap hc1 hnw); cases this
          have n3 : g3 ≠ w.heap.size := fun e => by rw [e] at hcur3; have := hcur3.symm.trans hdb3; cases this
          have hqn : ∀ j, j < d → g3 ≠ zb j ∧ zb j ≠ w.heap.size ∧ ¬ v.ownBlock = some (zb j) ∧ zb j < wr.heap.size := fun j hj => by
            have hz := hzs j hj
            have a1 : ¬ v.ownBlock = some (zb j) := fun e => by obtain ⟨_, _, cur, hc⟩ := hvn _ e; have := hc.symm.trans hz.heap; cases this
            refine ⟨fun e => ?_, fun e => ?_, a1, lt_of hz.heap⟩
            · rw [e] at hcur3; have := hcur3.symm.trans (hkw.heap hz.heap a1); cases this
            · have := hz.heap; rw [e] at this; have := this.symm.trans hdb; cases this
          have hsz3 : (w3.setCell ⟨w.heap.size, 0, none⟩ (.slice (some ⟨g3, 0, none⟩) (d + 1) cap3)).heap.size = w3.heap.size := size_set _ _ _
          refine ⟨d + 1, by omega, by go_num, .slice (some ⟨g3, 0, none⟩) (d + 1) cap3, fun k => if k = wr.heap.size then 1000 + d else if k = g3 then 1 else own' k, fun j => if j = d then wr.heap.size else zb j, xs ++ [.pointer (some ⟨wr.heap.size, 0, none⟩)], ?_, ?_, ?_, ?_, ?_, ?_, ?_, ?_⟩
          · rw [heap_set hdb3]; rfl
          · simp [show w.heap.size ≠ wr.heap.size by omega, n3.symm, hdo]
          · refine ownsRow_keeps hown3 (Keeps.setCell (M := fun b => b = w.heap.size) (p := ⟨w.heap.size, 0, none⟩) (Keeps.refl _ _) (fun _ => rfl) _) fun g hg _ _ e => ?_
            rw [hvo] at hg; cases hg; exact n3 e
          · intro k hk
            rw [hvo] at hk; cases hk
            simp [n1, n3]
          · intro j hj
            by_cases hjd : j = d
            · subst hjd
              have : xs.length = j := by have := hrow.1; omega
              simp [← this]
            · have h1 := hxs j (by omega)
              have : xs.length = d := by have := hrow.1; omega
              rw [List.getElem?_append_left (by omega), h1]
              simp [hjd]
          · intro j hj
            by_cases hjd : j = d
            · subst hjd
              exact ⟨by simp, by simpa using e1, RowAt.nil _ _ _ _⟩
            · obtain ⟨a1, a2, a3, a4⟩ := hqn j (by omega)
              have hz := hzs j (by omega)
              refine ⟨?_, ?_, RowAt.nil _ _ _ _⟩
              · simp [hjd, show zb j ≠ wr.heap.size by omega, a1.symm, hz.mine]
              · simpa [hjd] using hks.heap hz.heap (fun h => h.elim a3 a2)
          · refine ⟨hst.keeps.trans' hks fun i hi hn => hn.elim (fun e => ?_) (fun e => ?_), fun k hk => ?_, fun k hk => ?_⟩
            · have := (hvn _ e).1; omega
            · omega
            · simp [show k ≠ wr.heap.size by omega, show k ≠ g3 by omega]
              exact hst.agree k hk
            · by_cases h1 : k = wr.heap.size
              · simp only [if_pos h1]; right; right; omega
              · by_cases h2 : k = g3
                · simp only [if_neg h1, if_pos h2]; right; left; rfl
                · simp only [if_neg h1, if_neg h2]; exact hst.fresh k hk
          · intro k hk
            rw [hsz3] at hk
            simp [show k ≠ wr.heap.size by omega, show k ≠ g3 by omega]
            exact hset k (by omega)
    · have dd : decide (d < nz) = false := by simpa using c
      have HX := hid (And.intro hdb (And.intro hdo (And.intro hrow (And.intro hvb (And.intro hxs (And.intro hzs (And.intro hst hset)))))))
      clear hdb hdo hrow hvb hxs hzs hst hset
      have hdn : d = nz := by omega
      subst hdn
      go_wp2_with fail
      go_ret2
      obtain ⟨hdb, hdo, hrow, hvb, hxs, hzs, hst, hset⟩ := HX.out
      obtain ⟨_, ⟨_, h0⟩ | ⟨lb, lc, cur, hv, hB, hh, q1, q2, q3, q4⟩⟩ := hrow
      · omega
      · subst hv
        refine ⟨w.heap.size, own', rfl, ⟨lb, lc, cur, zb, ⟨hdo, (hvb lb rfl).1, hdb, hh, ?_⟩, fun j hj => ⟨_, hzs j hj⟩⟩, hst, hset⟩
        intro j hj
        have := hxs j hj
        rw [← q4, List.getElem?_take, if_pos (by simp at hj; omega)] at this
        simpa using this
end Go.Rv
