/- Drives: more commands; a new drive. -/
import Derived.Test.YtoijkpgcaokhlaaGreatPart09
import Derived.Laws.Closers25b
set_option linter.unusedVariables false
set_option linter.unusedSimpArgs false
namespace Go.Rv
open Go Go.RowKit Go.Proofs
attribute [local irreducible] wpQuiet
attribute [local go_sem ↓] ld_Sector st_Sector al_Sector bs_Sector
attribute [local go_sem] cellsAt_new0 cellsAt_lt cellsAt_drew size_bytesV

theorem DriveAt.turn1 {w w1 w2 : World} {own own1 : Nat → Nat} {pb db : Nat} {D : DriveS} (h : DriveAt w1 own1 pb db D) (hs : Step drvTag w own w1 own1) (hset : Settled own1 w1) {d' : DevS} (hd : DevAt w2 own1 db d') (hk : Keeps (fun k => devTag (own1 k)) w1 w2) (hg : d'.Good) :
    DriveAt w2 own1 pb db { D with d := d' } ∧ Step drvTag w own w2 own1 ∧ Settled own1 w2 := by
  obtain ⟨⟨mb, c, h1⟩, h2⟩ := h
  have hst := Step.kept (A := devTag) hk hset
  exact ⟨⟨⟨mb, c, h1.dev hst.1 hd hg⟩, hd⟩, hs.trans hst.1.drv, hst.2⟩
/-- the device has turned, and nothing else of the drive. -/
theorem DriveAt.turn {w w1 w2 : World} {own own1 : Nat → Nat} {pb db : Nat} {D : DriveS} (h : DriveAt w1 own1 pb db D) (hs : Step drvTag w own w1 own1) (hset : Settled own1 w1) {d' : DevS} (hd : DevAt w2 own1 db d') (hk : Keeps (fun k => devTag (own1 k)) w1 w2) (hg : d'.Good) :
    ∃ own', DriveAt w2 own' pb db { D with d := d' } ∧ Step drvTag w own w2 own' ∧ Settled own' w2 := ⟨own1, h.turn1 hs hset hd hk hg⟩

theorem DevS.Good.read_len {D : DevS} (h : D.Good) (z off : Int) : (D.read z off).2.1.length = 64 := by
  unfold DevS.read
  split
  · rfl
  · rename_i hb
    obtain ⟨hh, _⟩ := DevS.begin_ok (by simpa using hb)
    obtain ⟨i, rfl, hi⟩ := DevS.has_ex hh
    unfold ZoneS.read
    split
    · rfl
    · split
      · rfl
      · rename_i h4
        simp only []
        rw [List.getD_eq_getElem?_getD, List.getElem?_eq_getElem (by simp at h4 ⊢; omega)]
        exact h.ok.sec i hi _ (by simp)

set_option maxHeartbeats 1000000 in
theorem pfinish_calls (own : Nat → Nat) (pb db : Nat) (D : DriveS) (z : Int) (w : World) (h : DriveAt w own pb db D) (hset : Settled own w) : Calls Tryz.prog 165 #[.pointer (some ⟨pb, 0, none⟩), .int .i64 z] w fun e w' =>
    e = .returned (.int .i64 (D.finish z).2) ∧ ∃ own', DriveAt w' own' pb db (D.finish z).1 ∧ Step drvTag w own w' own' ∧ Settled own' w' := by
  have H := hid h
  have HS := hid hset
  clear h hset
  go_enter Tryz.func165, Tryz.ntmps165
  go_wp2_with fail
  refine Calls.mono (dbegin_calls own pb db D z _ H.out HS.out) ?_
  rintro e w1 ⟨rfl, own1, hd1, hs1, hset1⟩
  have H1 := hid (And.intro hd1 (And.intro hs1 hset1))
  obtain ⟨⟨mb, c, h1⟩, h2⟩ := hd1
  obtain ⟨c0, -⟩ := h1.cells
  have HG := hid h1.good
  clear hs1 hset1 h1 h2
  go_wp2_with fail
  refine Calls.mono (dfinish_calls own1 db _ z _ H1.out.1.dev H1.out.2.2) ?_
  rintro e w2 ⟨rfl, hx⟩
  have HX := hid hx
  clear hx
  go_wp2_with fail
  go_ret
  exact ⟨rfl, H1.out.1.turn H1.out.2.1 H1.out.2.2 HX.out.1 HX.out.2 (HG.out.finish z)⟩

set_option maxHeartbeats 1000000 in
theorem pflush_calls (own : Nat → Nat) (pb db : Nat) (D : DriveS) (w : World) (h : DriveAt w own pb db D) (hset : Settled own w) : Calls Tryz.prog 67 #[.pointer (some ⟨pb, 0, none⟩)] w fun e w' =>
    e = .returned (.int .i64 D.flush.2) ∧ ∃ own', DriveAt w' own' pb db D.flush.1 ∧ Step drvTag w own w' own' ∧ Settled own' w' := by
  have H := hid h
  have HS := hid hset
  clear h hset
  go_enter Tryz.func67, Tryz.ntmps67
  go_wp2_with fail
  refine Calls.mono (due_calls own pb db D _ H.out HS.out) ?_
  rintro e w1 ⟨rfl, own1, hd1, hs1, hset1⟩
  have H1 := hid (And.intro hd1 (And.intro hs1 hset1))
  obtain ⟨⟨mb, c, h1⟩, h2⟩ := hd1
  obtain ⟨c0, -⟩ := h1.cells
  have HG := hid h1.good
  clear hs1 hset1 h1 h2
  go_wp2_with fail
  refine Calls.mono (dflush_calls own1 db _ _ H1.out.1.dev H1.out.2.2 HG.out.ok.nz.2) ?_
  rintro e w2 ⟨rfl, hx⟩
  have HX := hid hx
  clear hx
  go_wp2_with fail
  go_ret
  exact ⟨rfl, H1.out.1.turn H1.out.2.1 H1.out.2.2 HX.out.1 HX.out.2 HG.out.flush⟩

set_option maxHeartbeats 1000000 in
theorem preset_calls (own : Nat → Nat) (pb db : Nat) (D : DriveS) (z : Int) (w : World) (h : DriveAt w own pb db D) (hset : Settled own w) : Calls Tryz.prog 202 #[.pointer (some ⟨pb, 0, none⟩), .int .i64 z] w fun e w' =>
    e = .returned (.int .i64 (D.reset z).2) ∧ ∃ own', DriveAt w' own' pb db (D.reset z).1 ∧ Step drvTag w own w' own' ∧ Settled own' w' := by
  have H := hid h
  have HS := hid hset
  clear h hset
  obtain ⟨D2, r, hD2⟩ : ∃ D2 r, D.reset z = (D2, r) := ⟨_, _, rfl⟩
  rw [hD2]
  simp only []
  have HD2 := hid hD2
  clear hD2
  go_enter Tryz.func202, Tryz.ntmps202
  go_wp2_with fail
  refine Calls.mono (dbegin_calls own pb db D z _ H.out HS.out) ?_
  rintro e w1 ⟨rfl, own1, hd1, hs1, hset1⟩
  have H1 := hid (And.intro hd1 (And.intro hs1 hset1))
  obtain ⟨⟨mb, c, h1⟩, h2⟩ := hd1
  obtain ⟨c0, -⟩ := h1.cells
  have HG := hid h1.good
  clear hs1 hset1 h1 h2
  have HC : Hid (Calls Tryz.prog 221 #[.pointer (some ⟨db, 0, none⟩), .int .i64 z] w1 fun e w' => e = .returned (.int .i64 r) ∧ ∃ own', DriveAt w' own' pb db D2 ∧ Step drvTag w own w' own' ∧ Settled own' w') := hid (by
    rw [show D2 = (D.reset z).1 by rw [HD2.out], show r = ((D.begin z).d.reset z).2 from (congrArg (fun x => x.2) HD2.out).symm]
    refine (dreset_calls own1 db _ z _ H1.out.1.dev H1.out.2.2).mono ?_
    rintro e w2 ⟨rfl, hx⟩
    exact ⟨rfl, H1.out.1.turn H1.out.2.1 H1.out.2.2 hx.1 hx.2 (HG.out.reset z)⟩)
  go_wp2_with fail
  refine Calls.mono HC.out ?_
  rintro e w2 ⟨rfl, own2, hd2, hs2, hset2⟩
  have HX := hid (And.intro hd2 (And.intro hs2 hset2))
  clear hd2 hs2 hset2
  by_cases c : r = 0
  · subst c
    go_wp2_with fail
    refine Calls.mono (forget_calls own2 pb db D2 z 0 _ HX.out.1 HX.out.2.2 (by omega) (by omega)) ?_
    rintro e w3 ⟨rfl, own3, hd3, hs3, hset3⟩
    have HY := hid (And.intro hd3 (And.intro hs3 hset3))
    clear hd3 hs3 hset3
    go_wp2_with fail
    go_ret
    exact ⟨rfl, own3, HY.out.1, HX.out.2.1.trans HY.out.2.1, HY.out.2.2⟩
  · have b1 : (r == 0) = false := by simpa using c
    go_wp2_with fail
    go_ret
    exact ⟨rfl, own2, HX.out⟩

set_option maxHeartbeats 1000000 in
set_option maxRecDepth 100000 in
theorem pread_calls (own : Nat → Nat) (pb db : Nat) (D : DriveS) (z off : Int) (w : World) (h : DriveAt w own pb db D) (hset : Settled own w) : Calls Tryz.prog 133 #[.pointer (some ⟨pb, 0, none⟩), .int .i64 z, .int .i64 off] w fun e w' =>
    e = .returned (.tuple #[secV (D.read z off).2.1, .int .i64 (D.read z off).2.2]) ∧ ∃ own', DriveAt w' own' pb db (D.read z off).1 ∧ Step drvTag w own w' own' ∧ Settled own' w' := by
  have H := hid h
  have HS := hid hset
  clear h hset
  obtain ⟨w0, hw0⟩ : ∃ w0, w.alloc (.cells z_Sector 103) = w0 := ⟨_, rfl⟩
  have hk0 : Keeps (fun _ => False) w w0 := by rw [← hw0]; exact (by repeat (first | exact Keeps.refl _ _ | refine Keeps.alloc ?_ _ | refine Keeps.drew ?_ | refine Keeps.drewN ?_ _ | refine Keeps.trans ?_ (by assumption)))
  have hbx : w0.heap[w.heap.size]? = some (.cells z_Sector 103 (0, 0)) := by rw [← hw0]; exact heap_new _ _
  have H0 := hid (And.intro hk0 (And.intro hbx hw0))
  clear hk0 hbx hw0
  obtain ⟨D2, s, r, hD2⟩ : ∃ D2 s r, D.read z off = (D2, s, r) := ⟨_, _, _, rfl⟩
  have hlen : s.length = 64 := by
    rw [show s = ((D.begin z).d.read z off).2.1 from (congrArg (fun x => x.2.1) hD2).symm]
    have hg : (D.begin z).d.Good := by
      have : D.begin z = D := by obtain ⟨⟨mb, c, h1⟩, h2⟩ := H.out; exact DriveS.begin_calm h1.calm z
      rw [this]; exact H.out.good
    exact hg.read_len z off
  rw [hD2]
  simp only []
  have HD2 := hid hD2
  clear hD2
  unfold secV
  go_enter Tryz.func133, Tryz.ntmps133
  go_wp2_with fail
  rw [H0.out.2.2]
  refine Calls.mono (dbegin_calls own pb db D z _ (H.out.still H0.out.1) (HS.out.keeps H0.out.1)) ?_
  rintro e w1 ⟨rfl, own1, hd1, hs1, hset1⟩
  have hbx1 : w1.heap[w.heap.size]? = some (.cells z_Sector 103 (0, 0)) := hs1.heap H0.out.2.1 (fun h => by
    have := HS.out w.heap.size (Nat.le_refl _)
    rw [this] at h; unfold drvTag devTag at h; omega)
  have hown : own1 w.heap.size = 0 := (hs1.agree _ (lt_of H0.out.2.1)).trans (HS.out w.heap.size (Nat.le_refl _))
  have hst1 := (Step.kept (A := drvTag) (H0.out.1.mono fun _ _ h => h.elim) HS.out).1.trans hs1
  have H1 := hid (And.intro hd1 (And.intro hst1 (And.intro hset1 (And.intro hbx1 hown))))
  obtain ⟨⟨mb, c, h1⟩, h2⟩ := hd1
  obtain ⟨c0, -⟩ := h1.cells
  have HG := hid h1.good
  clear hs1 hset1 hbx1 hown hst1 h1 h2
  have HC : Hid (Calls Tryz.prog 180 #[.pointer (some ⟨db, 0, none⟩), .int .i64 z, .int .i64 off] w1 fun e w' => e = .returned (.tuple #[.agg (bytesV s), .int .i64 r]) ∧ DevAt w' own1 db ((D.begin z).d.read z off).1 ∧ Keeps (fun k => devTag (own1 k)) w1 w') := hid (by
    rw [show s = ((D.begin z).d.read z off).2.1 from (congrArg (fun x => x.2.1) HD2.out).symm, show r = ((D.begin z).d.read z off).2.2 from (congrArg (fun x => x.2.2) HD2.out).symm]
    exact dread_calls own1 db _ z off w1 H1.out.1.dev HG.out.ok H1.out.2.2.1)
  go_wp2_with fail
  refine Calls.mono HC.out ?_
  rintro e w2 ⟨rfl, hd2, hk2⟩
  have hbx2 : w2.heap[w.heap.size]? = some (.cells z_Sector 103 (0, 0)) := hk2.heap H1.out.2.2.2.1 (fun h => by
    rw [H1.out.2.2.2.2] at h; unfold devTag at h; omega)
  have e2 := cellsFree_full (n := 64) hbx2 rfl
  have e3 := allOne_bytes s
  have e4 : (bytesV s).size = 64 := by simp [bytesV, hlen]
  have H2 := hid (And.intro hd2 (And.intro hk2 hbx2))
  clear hd2 hk2 hbx2
  go_wp2_with fail
  refine bodyPost_ret (results_cell2 rfl row_Sector _ rfl (cellsAt_full (putCells_at H2.out.2.2 (by rw [e4]; rfl)) e4)) rfl ⟨rfl, ?_⟩
  have hp := keeps_put0 (M := fun k => k = w.heap.size) (b := w.heap.size) (o := 0) (Keeps.refl _ w2) (fun _ => rfl) (bytesV s)
  have hz : ¬ drvTag (own1 w.heap.size) := by rw [H1.out.2.2.2.2]; unfold drvTag devTag; omega
  obtain ⟨q1, q2, q3⟩ := H1.out.1.turn1 H1.out.2.1 H1.out.2.2.1 H2.out.1 H2.out.2.1 (HG.out.read z off)
  rw [show D2 = { D.begin z with d := ((D.begin z).d.read z off).1 } from (congrArg (fun x => x.1) HD2.out).symm]
  refine ⟨own1, q1.keeps hp (fun k hk e => hz (e ▸ hk)), ?_, q3.keeps hp⟩
  refine ⟨q2.keeps.trans' hp (fun i hi e => ?_), q2.agree, q2.fresh⟩
  omega

set_option maxHeartbeats 1000000 in
theorem dr_new (own : Nat → Nat) (nz : Nat) (size opn : Int) (h1 : 1 ≤ nz ∧ nz ≤ 512) (h2 : 1 ≤ size ∧ size ≤ 64) (h3 : 1 ≤ opn ∧ opn ≤ 64) (w : World) (hset : Settled own w) : Calls Tryz.prog 24 #[.int .i64 nz, .int .i64 size, .int .i64 opn] w fun e w' =>
    ∃ pb db own', e = .returned (.tuple #[.pointer (some ⟨pb, 0, none⟩), .int .i64 0]) ∧ DriveAt w' own' pb db ⟨⟨nz, size, opn, 0, false, fun _ => ⟨[], 0, 0, false⟩⟩, [], []⟩ ∧ Step drvTag w own w' own' ∧ Settled own' w' := by
  have HS := hid hset
  clear hset
  go_enter Tryz.func24, Tryz.ntmps24
  go_wp2_with fail
  refine Calls.mono (dnew_good own nz size opn h1 h2 h3 _ HS.out) ?_
  rintro e w1 ⟨db, own1, rfl, hd1, hs1, hset1⟩
  have H1 := hid (And.intro hd1 (And.intro hs1 hset1))
  clear hd1 hs1 hset1
  go_wp2_with fail
  rw [run_makeMap]
  go_wp2_with fail
  go_ret2
  have t1 := Step.tag (A := fun t => t = 2) (g := w1.heap.size) (t := 2) (w' := w1.alloc (.map #[] 0)) (by repeat (first | exact Keeps.refl _ _ | refine Keeps.alloc ?_ _ | refine Keeps.drew ?_ | refine Keeps.drewN ?_ _ | refine Keeps.trans ?_ (by assumption))) H1.out.2.2 rfl (.inr (Nat.le_refl _)) (by simp)
  have t2 := Step.tag (A := fun t => t = 2) (g := w1.heap.size + 1) (t := 2) (w' := (w1.alloc (.map #[] 0)).alloc (.cells #[.pointer (some ⟨db, 0, none⟩), .slice none 0 0, .slice none 0 0, .map (some w1.heap.size)] 166)) (by repeat (first | exact Keeps.refl _ _ | refine Keeps.alloc ?_ _ | refine Keeps.drew ?_ | refine Keeps.drewN ?_ _ | refine Keeps.trans ?_ (by assumption))) t1.2 rfl (.inr (by simp)) (by simp)
  have t3 := t1.1.trans t2.1
  refine ⟨w1.heap.size + 1, db, _, rfl, ⟨⟨w1.heap.size, 0, ⟨tag_self _ _ _, tag_same (tag_self _ _ _), rfl, rfl, ?_, ?_, ?_⟩⟩, H1.out.1.kept t3 (by unfold devTag; omega)⟩, H1.out.2.1.drv.trans (t3.mono fun t e => .inl e), t2.2⟩
  · exact .mk' h1 h2 h3 fun i hi => ⟨by simp; omega, by simp, by simp; omega, by simp, by simp, by simp⟩
  · have := heap_new (w1.alloc (.map #[] 0)) (.cells #[.pointer (some ⟨db, 0, none⟩), .slice none 0 0, .slice none 0 0, .map (some w1.heap.size)] 166)
    simpa using this
  · exact heap_old _ _ (heap_new _ _)
end Go.Rv

/- Pens: the least width of a number. -/
namespace Go.Rv
open Go Go.RowKit Go.Proofs

theorem cwithin_calls (n : Int) (w : World) : Calls Tryz.prog 209 #[.int .i64 n] w fun e w' => e = .returned (.bool (inB n 1 7)) ∧ w = w' := by
  unfold inB
  by_cases k1 : 1 ≤ n
  · have d1 : decide (1 ≤ n) = true := by simpa using k1
    go_enter Tryz.func209, Tryz.ntmps209
    go_wp2
    go_ret
    exact ⟨by simp [k1], rfl⟩
  · have d1 : decide (1 ≤ n) = false := by simpa using k1
    go_enter Tryz.func209, Tryz.ntmps209
    go_wp2
    go_ret
    exact ⟨by simp [k1], rfl⟩

def widF (v : Int) : Int := if v < 0 then 8 else if v < 256 then 1 else if v < 65536 then 2 else if v < 16777216 then 3 else if v < 4294967296 then 4 else if v < 1099511627776 then 5 else if v < 281474976710656 then 6 else if v < 72057594037927936 then 7 else 8
def widP (v : Int) : Nat → Int
  | 0 => v
  | k + 1 => widP v k / 256

theorem widF_of (v : Int) (h1 : -9223372036854775808 ≤ v) (h2 : v ≤ 9223372036854775807) (k : Nat) (hk : k ≤ 7) (h0 : 0 < k → 0 < widP v k) (hn : ¬ 0 < widP v k / 256) :
    (if widP v k < 0 ∨ 7 < (k : Int) + 1 then 8 else (k : Int) + 1) = widF v := by
  have hc : k = 0 ∨ k = 1 ∨ k = 2 ∨ k = 3 ∨ k = 4 ∨ k = 5 ∨ k = 6 ∨ k = 7 := by omega
  unfold widF
  rcases hc with rfl | rfl | rfl | rfl | rfl | rfl | rfl | rfl <;> simp only [widP] at h0 hn ⊢ <;> omega
theorem widP_lt (v : Int) (h2 : v ≤ 9223372036854775807) (k : Nat) (hk : k ≤ 7) (h : 0 < widP v k / 256) : k < 7 := by
  have hc : k = 7 ∨ k < 7 := by omega
  rcases hc with rfl | hc
  · simp only [widP] at h; omega
  · exact hc

set_option maxHeartbeats 1000000 in
theorem width_calls (v : Int) (w : World) (h1 : -9223372036854775808 ≤ v) (h2 : v ≤ 9223372036854775807) : Calls Tryz.prog 210 #[.int .i64 v] w fun e w' => e = .returned (.int .i64 (widF v)) ∧ w = w' := by
  go_enter Tryz.func210, Tryz.ntmps210
  go_wp2_with fail
  go_loop [0, 3] (fun x n => ∃ k : Nat, k ≤ 7 ∧ (0 < k → 0 < widP v k) ∧ x = .int .i64 (widP v k) ∧ n = .int .i64 ((k : Int) + 1)) (fun x n => (9 - intOf n).toNat)
  case atStart => exact ⟨0, by omega, by omega, rfl, rfl⟩
  case round =>
    obtain ⟨k, hk, h0, rfl, rfl⟩ := hrel
    by_cases c : 0 < widP v k / 256
    · have hk7 := widP_lt v h2 k hk c
      have d1 : decide (0 < widP v k / 256) = true := by simpa using c
      have C := hid c
      clear h0 c
      go_wp2_with fail
      go_round
      case rel => exact ⟨k + 1, by omega, fun _ => C.out, rfl, by go_num⟩
      case measure => simp [intOf]; omega
    · have hf := widF_of v h1 h2 k hk h0 c
      have d1 : decide (0 < widP v k / 256) = false := by simpa using c
      have HF := hid hf
      clear hf h0 c
      by_cases c1 : widP v k < 0
      · have d2 : decide (widP v k < 0) = true := by simpa using c1
        have C := hid c1
        clear c1
        go_wp2_with fail
        go_ret
        exact ⟨ret_z (by rw [← HF.out, if_pos (.inl C.out)]), rfl⟩
      · have d2 : decide (widP v k < 0) = false := by simpa using c1
        by_cases c2 : 7 < (k : Int) + 1
        · have d3 : decide (7 < (k : Int) + 1) = true := by simpa using c2
          have C := hid c2
          clear c1 c2
          go_wp2_with fail
          go_ret
          exact ⟨ret_z (by rw [← HF.out, if_pos (.inr C.out)]), rfl⟩
        · have d3 : decide (7 < (k : Int) + 1) = false := by simpa using c2
          have C := hid (And.intro c1 c2)
          clear c1 c2
          go_wp2_with fail
          go_ret
          exact ⟨ret_z (by have := C.out; rw [← HF.out, if_neg (by omega)]), rfl⟩
end Go.Rv

/- Sums. -/
namespace Go.Rv
open Go Go.RowKit Go.Proofs
attribute [local irreducible] wpQuiet
attribute [local go_sem ↓] ld_Table st_Table al_Table
attribute [local go_sem] cellsAt_new0 cellsAt_lt cellsAt_drew size_bytesV

/-- a table's numbers, as an array's value. -/
def tabV (T : Nat → Int) : Array Value := ((List.range 256).map fun i => Value.int .u32 (T i)).toArray
theorem size_tabV (T : Nat → Int) : (tabV T).size = 256 := by simp [tabV]
theorem tabV_get (T : Nat → Int) (i : Nat) (h : i < 256) : (tabV T)[i]? = some (.int .u32 (T i)) := by simp [tabV, h]

def crcK (r : Int) (c : UInt8) : Int := bits .xor .u8 (r % 256) c.toNat
def crcStep (T : Nat → Int) (r : Int) (c : UInt8) : Int := bits .xor .u32 (r / 256) (T (crcK r c).toNat)
theorem crcK_bd (r : Int) (c : UInt8) : 0 ≤ crcK r c ∧ crcK r c < 256 := by
  have := bits_within .xor .u8 (r % 256) c.toNat
  have h1 : IntKind.u8.min = 0 := rfl
  have h2 : IntKind.u8.max = 255 := rfl
  unfold crcK
  omega
theorem crcStep_bd (T : Nat → Int) (r : Int) (c : UInt8) : 0 ≤ crcStep T r c ∧ crcStep T r c ≤ 4294967295 := by
  have := bits_within .xor .u32 (r / 256) (T (crcK r c).toNat)
  have h1 : IntKind.u32.min = 0 := rfl
  have h2 : IntKind.u32.max = 4294967295 := rfl
  unfold crcStep
  omega

theorem ret_u32 {a b : Int} (h : a = b) : Ending.returned (.int .u32 a) = .returned (.int .u32 b) := by rw [h]

set_option maxHeartbeats 400000 in
set_option maxRecDepth 100000 in
theorem step_calls (T : Nat → Int) (r : Int) (c : UInt8) (w : World) (h0 : 0 ≤ r) (h1 : r ≤ 4294967295) : Calls Tryz.prog 178 #[.agg (tabV T), .int .u32 r, byteV c] w fun e w' => e = .returned (.int .u32 (crcStep T r c)) ∧ Keeps (fun _ => False) w w' := by
  unfold byteV
  have k0 : 0 ≤ bits BinOp.xor .u8 (r % 256) c.toNat := (crcK_bd r c).1
  have k1 : bits BinOp.xor .u8 (r % 256) c.toNat < 256 := (crcK_bd r c).2
  have k2 : (tabV T)[(bits BinOp.xor .u8 (r % 256) c.toNat).toNat]? = some (.int .u32 (T (bits BinOp.xor .u8 (r % 256) c.toNat).toNat)) := tabV_get T _ (by have := crcK_bd r c; unfold crcK at this; omega)
  go_enter Tryz.func178, Tryz.ntmps178
  go_wp2_with fail
  go_ret
  exact ⟨rfl, (by repeat (first | exact Keeps.refl _ _ | refine Keeps.alloc ?_ _ | refine Keeps.drew ?_ | refine Keeps.drewN ?_ _ | refine Keeps.trans ?_ (by assumption)))⟩

def crcOver (T : Nat → Int) (r : Int) (l : List UInt8) : Int := l.foldl (crcStep T) r
theorem crcOver_bd (T : Nat → Int) : ∀ (l : List UInt8) (r : Int), 0 ≤ r → r ≤ 4294967295 → 0 ≤ crcOver T r l ∧ crcOver T r l ≤ 4294967295
  | [], r, h0, h1 => ⟨h0, h1⟩
  | c :: l, r, _, _ => by
    have := crcStep_bd T r c
    exact crcOver_bd T l _ this.1 this.2
theorem crcOver_take (T : Nat → Int) (r : Int) (l : List UInt8) (k : Nat) (h : k < l.length) : crcOver T r (l.take (k + 1)) = crcStep T (crcOver T r (l.take k)) l[k] := by
  unfold crcOver
  rw [List.take_succ_eq_append_getElem h, List.foldl_append]; rfl

/-- bytes in memory, from a place on. -/
def BytesAt (w : World) (b o : Nat) (l : List UInt8) : Prop := ∀ j (hj : j < l.length), w.cell? ⟨b, o + j, none⟩ = some (byteV l[j])
theorem cell_lt {w : World} {b o : Nat} {v : Value} (h : w.cell? ⟨b, o, none⟩ = some v) : b < w.heap.size := by
  unfold World.cell? at h
  cases hb : w.heap[b]? with
  | none => simp [hb] at h
  | some x => exact (Array.getElem?_eq_some_iff.1 hb).1
theorem BytesAt.keeps {w w' : World} {b o : Nat} {l : List UInt8} {M : Nat → Prop} (h : BytesAt w b o l) (hk : Keeps M w w') (hm : ¬ M b) : BytesAt w' b o l := fun j hj => by
  have := h j hj
  exact (hk.cell (cell_lt this) hm).trans this
theorem cellsAt_keeps {w w' : World} {b o n : Nat} {cs : Array Value} {M : Nat → Prop} (h : cellsAt w ⟨b, o, none⟩ n = some cs) (hk : Keeps M w w') (hm : ¬ M b) : cellsAt w' ⟨b, o, none⟩ n = some cs := by
  unfold cellsAt at h ⊢
  cases hb : w.heap[b]? with
  | none => simp [hb] at h
  | some x => simp only [hk.heap hb hm]; simpa [hb] using h

set_option maxHeartbeats 1000000 in
set_option maxRecDepth 100000 in
theorem over_calls (T : Nat → Int) (tb : Nat) (r : Int) (b o cap : Nat) (l : List UInt8) (w : World) (h0 : 0 ≤ r) (h1 : r ≤ 4294967295) (ht : cellsAt w ⟨tb, 0, none⟩ 256 = some (tabV T)) (hb : BytesAt w b o l) (hl : l.length ≤ 100000) :
    Calls Tryz.prog 132 #[.pointer (some ⟨tb, 0, none⟩), .int .u32 r, .slice (some ⟨b, o, none⟩) l.length cap] w fun e w' => e = .returned (.int .u32 (crcOver T r l)) ∧ Keeps (fun _ => False) w w' := by
  have HT := hid ht
  have HB := hid hb
  clear ht hb
  go_enter Tryz.func132, Tryz.ntmps132
  go_wp2_with fail
  go_loopg [1, 11] l.length (fun (gk : Nat) (x i : Value) (wr : World) => ∃ d : Nat, d + gk = l.length ∧ i = .int .i64 d ∧ x = .int .u32 (crcOver T r (l.take d)) ∧ Keeps (fun _ => False) w wr)
  case atStart => exact ⟨0, by omega, rfl, rfl, Keeps.refl _ _⟩
  case round =>
    obtain ⟨d, hd, rfl, rfl, hk⟩ := hrel
    by_cases c : d < l.length
    · have dd : decide (d < l.length) = true := by simpa using c
      have hcell := (HB.out.keeps hk id) d c
      have htab := cellsAt_keeps HT.out hk id
      have hbd := crcOver_bd T (l.take d) r h0 h1
      have HK := hid hk
      have HR := hid (crcOver_take T r l d c)
      clear hk
      unfold byteV at hcell
      generalize crcOver T r (l.take d) = x at *
      obtain ⟨hbd0, hbd1⟩ := hbd
      go_wp2_with fail
      refine Calls.mono (step_calls T x l[d] _ hbd0 hbd1) ?_
      rintro e w2 ⟨rfl, hk2⟩
      have HK2 := hid hk2
      clear hk2
      go_wp2_with fail
      go_roundg (gk - 1)
      case measure => omega
      case rel => exact ⟨d + 1, by omega, by go_num, by rw [HR.out], HK.out.trans HK2.out⟩
    · have dd : decide (d < l.length) = false := by simpa using c
      have hdn : d = l.length := by omega
      subst hdn
      have HK := hid hk
      clear hk
      go_wp2_with fail
      go_ret
      exact ⟨ret_u32 (by rw [List.take_length]), HK.out⟩

def crcSum (T : Nat → Int) (l : List UInt8) : Int := bits .xor .u32 (crcOver T 4294967295 l) 4294967295
theorem crcSum_bd (T : Nat → Int) (l : List UInt8) : 0 ≤ crcSum T l ∧ crcSum T l ≤ 4294967295 := by
  have := bits_within .xor .u32 (crcOver T 4294967295 l) 4294967295
  have h1 : IntKind.u32.min = 0 := rfl
  have h2 : IntKind.u32.max = 4294967295 := rfl
  unfold crcSum
  omega

set_option maxHeartbeats 1000000 in
set_option maxRecDepth 100000 in
theorem sum_calls (T : Nat → Int) (b o cap : Nat) (l : List UInt8) (w : World) (hb : BytesAt w b o l) (hl : l.length ≤ 100000) :
    Calls Tryz.prog 82 #[.agg (tabV T), .slice (some ⟨b, o, none⟩) l.length cap] w fun e w' => e = .returned (.int .u32 (crcSum T l)) ∧ Keeps (fun _ => False) w w' := by
  have HB := hid hb
  clear hb
  go_enter Tryz.func82, Tryz.ntmps82
  go_wp2_with fail
  obtain ⟨w0, hw0⟩ : ∃ w0, w.alloc (.cells (tabV T) 72) = w0 := ⟨_, rfl⟩
  rw [hw0]
  have hk0 : Keeps (fun _ => False) w w0 := by rw [← hw0]; exact (by repeat (first | exact Keeps.refl _ _ | refine Keeps.alloc ?_ _ | refine Keeps.drew ?_ | refine Keeps.drewN ?_ _ | refine Keeps.trans ?_ (by assumption)))
  have hbx : w0.heap[w.heap.size]? = some (.cells (tabV T) 72 (0, 0)) := by rw [← hw0]; exact heap_new _ _
  have H0 := hid (And.intro hk0 hbx)
  clear hk0 hbx hw0
  refine Calls.mono (over_calls T _ 4294967295 b o cap l _ (by omega) (by omega) (cellsAt_full H0.out.2 (size_tabV T)) (HB.out.keeps H0.out.1 id) hl) ?_
  rintro e w1 ⟨rfl, hk1⟩
  have HK := hid hk1
  clear hk1
  go_wp2_with fail
  go_ret
  exact ⟨rfl, H0.out.1.trans HK.out⟩
end Go.Rv

/- The table of sums. -/
namespace Go.Rv
open Go Go.RowKit Go.Proofs
attribute [local irreducible] wpQuiet
attribute [local go_sem ↓] ld_Table st_Table al_Table
attribute [local go_sem] cellsAt_new0 cellsAt_lt cellsAt_drew size_bytesV

def crcBit (r : Int) : Int := if bits .and .u32 r 1 = 1 then bits .xor .u32 (r / 2) 2197175160 else r / 2
def crcBits : Nat → Int → Int
  | 0, r => r
  | k + 1, r => crcBit (crcBits k r)
/-- the table's numbers. -/
def tab0 (i : Nat) : Int := crcBits 8 i
def tabTo (d : Nat) : Nat → Int := fun j => if j < d then tab0 j else 0
theorem z_tab : z_Table = tabV (tabTo 0) := by
  apply Array.ext_getElem?
  intro i
  by_cases h : i < 256
  · rw [tabV_get _ _ h]
    show (List.replicate 256 (Value.int .u32 0)).toArray[i]? = _
    rw [List.getElem?_toArray, List.getElem?_replicate, if_pos h]
    rfl
  · rw [Array.getElem?_eq_none (by rw [size_z_Table]; omega), Array.getElem?_eq_none (by rw [size_tabV]; omega)]
theorem tab_set (d : Nat) (hd : d < 256) : (tabV (tabTo d)).setIfInBounds d (.int .u32 (tab0 d)) = tabV (tabTo (d + 1)) := by
  apply Array.ext_getElem?
  intro i
  by_cases h : i < 256
  · by_cases e : i = d
    · subst e; rw [tabV_get _ _ h]; simp [size_tabV, h, tabTo]
    · rw [Array.getElem?_setIfInBounds_ne (by omega), tabV_get _ _ h, tabV_get _ _ h]
      simp only [tabTo]
      by_cases c : i < d
      · rw [if_pos c, if_pos (by omega)]
      · rw [if_neg c, if_neg (by omega)]
  · rw [Array.getElem?_eq_none (by simp [size_tabV]; omega), Array.getElem?_eq_none (by rw [size_tabV]; omega)]
theorem tab_end : tabV (tabTo 256) = tabV tab0 := by
  apply Array.ext_getElem?
  intro i
  by_cases h : i < 256
  · rw [tabV_get _ _ h, tabV_get _ _ h]; simp [tabTo, h]
  · rw [Array.getElem?_eq_none (by rw [size_tabV]; omega), Array.getElem?_eq_none (by rw [size_tabV]; omega)]
theorem crcBits_bd (i : Nat) (hi : i < 256) : ∀ k, 0 ≤ crcBits k i ∧ crcBits k i ≤ 4294967295
  | 0 => by simp [crcBits]; omega
  | k + 1 => by
    have h := crcBits_bd i hi k
    have := bits_within .xor .u32 (crcBits k i / 2) 2197175160
    have h1 : IntKind.u32.min = 0 := rfl
    have h2 : IntKind.u32.max = 4294967295 := rfl
    simp only [crcBits, crcBit]
    split <;> omega
theorem tab0_bd (i : Nat) (hi : i < 256) : 0 ≤ tab0 i ∧ tab0 i ≤ 4294967295 := crcBits_bd i hi 8

set_option maxHeartbeats 1000000 in
set_option maxRecDepth 100000 in
theorem cnew_calls (w : World) : Calls Tryz.prog 26 #[] w fun e w' => e = .returned (.agg (tabV tab0)) ∧ Keeps (fun _ => False) w w' := by
  go_enter Tryz.func26, Tryz.ntmps26
  go_wp2_with fail
  go_loopg [5] 256 (fun (gk : Nat) (i : Value) (wr : World) => ∃ d : Nat, d + gk = 256 ∧ i = .int .i64 d ∧ wr.heap[w.heap.size + 1]? = some (.cells (tabV (tabTo d)) 72 (0, 0)) ∧ wr.heap[w.heap.size]? = some (.cells z_Table 72 (0, 0)) ∧ Keeps (fun _ => False) w wr)
  case atStart =>
    refine ⟨0, by omega, rfl, ?_, ?_, (by repeat (first | exact Keeps.refl _ _ | refine Keeps.alloc ?_ _ | refine Keeps.drew ?_ | refine Keeps.drewN ?_ _ | refine Keeps.trans ?_ (by assumption)))⟩
    · rw [← z_tab]
      have := heap_new (w.alloc (.cells z_Table 72)) (.cells z_Table 72)
      simpa using this
    · exact heap_old _ _ (heap_new _ _)
  case round =>
    obtain ⟨d, hd, rfl, h1, h0, hk⟩ := hrel
    by_cases c : d < 256
    · have dd : decide ((d : Int) < 256) = true := by simp; omega
      have hk1 := cell_of h1 d
      rw [tabV_get _ _ c] at hk1
      have hf1 := free_of h1 d
      have HX := hid (And.intro h1 (And.intro h0 hk))
      clear h1 h0 hk
      have hd0 : (0 : Int) ≤ d := by omega
      have hd8 : (d : Int) ≤ 4294967295 := by omega
      go_wp2_with fail
      rename_i J1 K1 q1 q2
      go_loop [3, 10] (fun x i => ∃ k : Nat, k ≤ 8 ∧ i = .int .i64 k ∧ x = .int .u32 (crcBits k d)) (fun _ i => (8 - intOf i).toNat)
      case atStart => exact ⟨0, by omega, rfl, rfl⟩
      case round =>
        obtain ⟨k, hk, rfl, rfl⟩ := hrel
        by_cases c8 : k < 8
        · have d8 : decide ((k : Int) < 8) = true := by simp; omega
          have hbd := crcBits_bd d c k
          have HE := hid (show crcBits (k + 1) d = crcBit (crcBits k d) from rfl)
          generalize crcBits k d = x at *
          obtain ⟨hb0, hb1⟩ := hbd
          by_cases e : bits .and .u32 x 1 = 1
          · have e1 : (bits .and .u32 x 1 == 1) = true := by simpa using e
            have HR := hid (show crcBit x = bits .xor .u32 (x / 2) 2197175160 by unfold crcBit; rw [if_pos e])
            clear e
            go_wp2_with fail
            go_round
            case rel => exact ⟨k + 1, by omega, by go_num, by rw [HE.out, HR.out]⟩
            case measure => simp [intOf]; omega
          · have e1 : (bits .and .u32 x 1 == 1) = false := by simpa using e
            have HR := hid (show crcBit x = x / 2 by unfold crcBit; rw [if_neg e])
            clear e
            go_wp2_with fail
            go_round
            case rel => exact ⟨k + 1, by omega, by go_num, by rw [HE.out, HR.out]⟩
            case measure => simp [intOf]; omega
        · have d8 : decide ((k : Int) < 8) = false := by simp; omega
          have hk8 : k = 8 := by omega
          subst hk8
          have HT := hid (show crcBits 8 d = tab0 d from rfl)
          go_wp2_with fail
          go_roundg (gk - 1)
          case measure => omega
          case rel =>
            have q := heap_set HX.out.1 d (.int .u32 (tab0 d))
            rw [tab_set d c] at q
            refine ⟨d + 1, by omega, by go_num, ?_, ?_, ?_⟩
            · rw [HT.out]; exact q
            · exact (heap_set_ne _ _ (by omega)).trans HX.out.2.1
            · exact HX.out.2.2.setCell (fun h => by simp at h; omega) _
    · have dd : decide ((d : Int) < 256) = false := by simp; omega
      have hd6 : d = 256 := by omega
      subst hd6
      rw [tab_end] at h1
      have e1 := cellsAt_full h1 (size_tabV tab0)
      have e2 := cellsFree_full (n := 256) h0 rfl
      have e3 : allOne (tabV tab0) = true := by
        simp only [allOne, tabV, List.all_eq_true]
        intro v hv
        simp only [List.mem_map] at hv
        obtain ⟨b, _, rfl⟩ := hv
        rfl
      have e4 := size_tabV tab0
      have HX := hid (And.intro h1 (And.intro h0 hk))
      clear h1 h0 hk
      go_wp2_with fail
      refine bodyPost_ret (results_cell1 rfl row_Table _ rfl (cellsAt_full (putCells_at HX.out.2.1 (by rw [e4]; rfl)) e4)) rfl ⟨rfl, ?_⟩
      exact keeps_put0 HX.out.2.2 (fun h => absurd h (Nat.lt_irrefl _)) _
end Go.Rv
