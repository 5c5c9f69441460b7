/- No new drive, no new mirror; tables are the same. -/
import Derived.Test.YtoijkpgcaokhlaaGreatPart30
import Derived.Test.YtoijkpgcaokhlaaGreatPart26
import Derived.LaidEqlPtr
set_option linter.unusedVariables false
set_option linter.unusedSimpArgs false
namespace Go.Rv
open Go Go.RowKit Go.Proofs
attribute [local irreducible] wpQuiet tab0
attribute [local go_sem ↓] ld_Geom st_Geom al_Geom ld_Table st_Table al_Table
attribute [local go_sem] cellsAt_new0 cellsAt_lt cellsAt_drew size_bytesV

set_option maxHeartbeats 400000 in
theorem dr_bad (nz size opn : Int) (h : ¬ (1 ≤ nz ∧ nz ≤ 512) ∨ ¬ (1 ≤ opn ∧ opn ≤ 64) ∨ ¬ (1 ≤ size ∧ size ≤ 64)) (w : World) : Calls Tryz.prog 24 #[.int .i64 nz, .int .i64 size, .int .i64 opn] w fun e w' =>
    e = .returned (.tuple #[.pointer none, .int .i64 13]) ∧ Keeps (fun _ => False) w w' := by
  have hd := dnew_bad nz size opn h
  have HD := hid hd
  clear h hd
  go_enter Tryz.func24, Tryz.ntmps24
  go_wp2_with fail
  refine Calls.mono (HD.out _) ?_
  rintro e w1 ⟨rfl, hk⟩
  have HK := hid hk
  clear hk
  go_wp2_with fail
  go_ret2
  exact ⟨rfl, HK.out⟩

theorem tab_same (T : Nat → Int) (w : World) : (binOp .eql 72 (.agg (tabV T)) (.agg (tabV T))).run Tryz.prog w = .ok (.bool true) w := by
  have ht := Tryz.underlying72
  have he := Tryz.underlying70
  have hsz : ∀ w, (sizeOf 70).run Tryz.prog w = .ok 1 w := fun w => by go_simp
  rw [run_eql_struct]
  have key : (Op.equalIn 10000 72 (.agg (tabV T)) (.agg (tabV T))).run Tryz.prog w = .ok true w := by
    rw [Op.equalIn]
    simp only [Sem.run_bind, run_underlying ht, Result.andThen_ok, hsz, Std.Legacy.Range.forIn_eq_forIn_range', Std.Legacy.Range.size, Nat.sub_zero, Nat.add_sub_cancel, Nat.div_one]
    have hl : ∀ i ∈ List.range' 0 256 1, i < 256 := fun i hi => by simpa using (List.mem_range'_1.1 hi).2
    generalize List.range' 0 256 1 = l at hl ⊢
    induction l with
    | nil => simp
    | cons i l ih =>
      have hi : i < 256 := hl i (by simp)
      have px : (part 70 (tabV T) (i * 1)).run Tryz.prog w = .ok (.int .u32 (T i)) w := by
        simp [part, isAgg, run_underlying he, tabV, hi]
      have pe : (Op.equalIn 9999 70 (.int .u32 (T i)) (.int .u32 (T i))).run Tryz.prog w = .ok (T i == T i) w := run_equalIn_int w 9998 70 .u32 .u32 _ _ he
      simp only [List.forIn_cons, Sem.run_bind, px, pe, Result.andThen_ok]
      simp only [beq_self_eq_true, Bool.not_true, Bool.false_eq_true, if_false, Sem.run_pure, Result.andThen_ok]
      exact ih fun j hj => hl j (by simp [hj])
  rw [key]
  rfl
end Go.Rv

/- No new mirror. -/
namespace Go.Rv
open Go Go.RowKit Go.Proofs
attribute [local irreducible] wpQuiet tab0 tabV
attribute [local go_sem ↓] ld_Geom st_Geom al_Geom ld_Table st_Table al_Table
attribute [local go_sem] cellsAt_new0 cellsAt_lt cellsAt_drew size_bytesV

set_option maxHeartbeats 400000 in
set_option maxRecDepth 100000 in
theorem mirnew_wrong (pb : Nat) (g : GeomS) (w : World) (hg : g.right = false) :
    Calls Tryz.prog 25 #[.pointer (some ⟨pb, 0, none⟩), geomV g, .agg (tabV tab0)] w fun e w' => e = .returned (.tuple #[.pointer none, .int .i64 20]) ∧ Keeps (fun _ => False) w w' := by
  obtain ⟨GG, hGG⟩ : ∃ GG, geomC g = GG := ⟨_, rfl⟩
  obtain ⟨TT, hTT⟩ : ∃ TT, tabV tab0 = TT := ⟨_, rfl⟩
  have hgs : GG.size = 6 := by rw [← hGG]; rfl
  have hgf : geomV g = .agg GG := by rw [← hGG]; rfl
  have hk2 : Keeps (fun _ => False) w ((w.alloc (.cells GG 23)).alloc (.cells TT 72)) := (by repeat (first | exact Keeps.refl _ _ | refine Keeps.alloc ?_ _ | refine Keeps.drew ?_ | refine Keeps.drewN ?_ _ | refine Keeps.trans ?_ (by assumption)))
  have hb0 := heap_old (w.alloc (.cells GG 23)) (.cells TT 72) (heap_new w (.cells GG 23))
  obtain ⟨w2, hw2⟩ : ∃ w2, (w.alloc (.cells GG 23)).alloc (.cells TT 72) = w2 := ⟨_, rfl⟩
  rw [hw2] at hk2 hb0
  have e0 := cellsAt_full (n := 6) hb0 hgs
  have hpn := fun X => pnew_bad g hg X
  rw [hgf] at hpn
  have HPN := hid hpn
  have HK := hid hk2
  rw [hgf, hTT]
  clear hg hk2 hb0 hpn hgf hGG hTT
  go_enter Tryz.func25, Tryz.ntmps25
  go_wp2_with fail
  clear hw2 e0
  refine Calls.mono (HPN.out _) ?_
  rintro e w3 ⟨rfl, hk3⟩
  have H3 := hid hk3
  clear hk3
  go_wp2_with fail
  refine wp_region_still (by kernel_rfl) (by kernel_rfl) ?_
  repeat (first | (refine still_pass ?_ ?_; (focus (first | (go_simp; done) | rfl)); try simp only [Act.put, List.setIfInBounds_toArray, List.set_cons_succ, List.set_cons_zero]) | (apply still_step; (focus (go_simp; done)); (focus (intro W hW; unfold Oper.quietAt; (skip); go_simp; first | done | with_reducible rfl | fail | exact ⟨rfl, rfl⟩)); try simp only [Act.put, List.setIfInBounds_toArray, List.set_cons_succ, List.set_cons_zero]))
  refine wpQuiet_nil ?_
  intro W hW
  have HW := hid hW
  clear hW
  go_wp2_with fail
  go_ret2
  exact ⟨rfl, (HK.out.trans H3.out).trans HW.out⟩

set_option maxHeartbeats 400000 in
set_option maxRecDepth 100000 in
theorem mirnew_other (own : Nat → Nat) (pb db : Nat) (D : DriveS) (g : GeomS) (w : World) (h : DriveAt w own pb db D) (hset : Settled own w) (hg : g.right = true) (hno : (D.d.nz : Int) ≠ g.all ∨ D.d.size ≠ g.size) :
    Calls Tryz.prog 25 #[.pointer (some ⟨pb, 0, none⟩), geomV g, .agg (tabV tab0)] w fun e w' => ∃ own', e = .returned (.tuple #[.pointer none, .int .i64 20]) ∧ Step (fun t => t = 4 ∨ poolTag t) w own w' own' ∧ Settled own' w' := by
  have hb : ((D.d.nz : Int) != g.domains * g.zones) = true ∨ ((D.d.nz : Int) != g.domains * g.zones) = false ∧ (D.d.size != g.size) = true := by
    by_cases c : (D.d.nz : Int) = g.domains * g.zones
    · exact .inr ⟨by simpa using c, by simpa using hno.resolve_left (fun hh => hh c)⟩
    · exact .inl (by simpa using c)
  clear hno
  have HD := hid (And.intro h (And.intro hset hg))
  have hsm := g.right_small hg
  have HSM := hid hsm
  have hall := g.all_bd hsm
  obtain ⟨L0, hL, hmL⟩ := mk_ints (g.domains * g.zones) hall.1 hall.2
  have HL := hid (And.intro hL hall)
  obtain ⟨GG, hGG⟩ : ∃ GG, geomC g = GG := ⟨_, rfl⟩
  obtain ⟨TT, hTT⟩ : ∃ TT, tabV tab0 = TT := ⟨_, rfl⟩
  have hgs : GG.size = 6 := by rw [← hGG]; rfl
  have hts : TT.size = 256 := by rw [← hTT]; exact size_tabV tab0
  have hgf : geomV g = .agg GG := by rw [← hGG]; rfl
  have HGG := hid (And.intro hGG hTT)
  have HGF := hid hgf
  have hk2 : Keeps (fun _ => False) w ((w.alloc (.cells GG 23)).alloc (.cells TT 72)) := (by repeat (first | exact Keeps.refl _ _ | refine Keeps.alloc ?_ _ | refine Keeps.drew ?_ | refine Keeps.drewN ?_ _ | refine Keeps.trans ?_ (by assumption)))
  have hb0 := heap_old (w.alloc (.cells GG 23)) (.cells TT 72) (heap_new w (.cells GG 23))
  have hb1 := heap_new (w.alloc (.cells GG 23)) (.cells TT 72)
  rw [World.size_alloc] at hb1
  obtain ⟨w2, hw2⟩ : ∃ w2, (w.alloc (.cells GG 23)).alloc (.cells TT 72) = w2 := ⟨_, rfl⟩
  rw [hw2] at hk2 hb0 hb1
  have e0 := cellsAt_full (n := 6) hb0 hgs
  have HB := hid (And.intro hb0 (And.intro hb1 hk2))
  have hpn := pnew_good own g hg w2 (hset.keeps hk2)
  rw [hgf] at hpn
  have HPN := hid hpn
  have HAL : Hid (∀ W, Calls Tryz.prog 63 #[.agg GG] W fun e w' => e = .returned (.int .i64 (g.domains * g.zones)) ∧ w' = W.alloc (geomB g)) := hid fun W => by
    have := gAll_calls g HSM.out W
    rwa [HGF.out] at this
  rw [hgf, hTT]
  clear h hset hg hsm hall hL hk2 hb0 hb1 hpn hgf hGG hTT
  go_enter Tryz.func25, Tryz.ntmps25
  go_wp2_with fail
  clear hw2 e0
  refine Calls.mono HPN.out ?_
  rintro e w3 ⟨plb, own3, rfl, hp3, hs3, hset3⟩
  have H3 := hid (And.intro hp3 (And.intro hs3 hset3))
  clear hp3 hs3 hset3
  have HDR : Hid (DriveAt w3 own3 pb db D) := hid ((HD.out.1.still HB.out.2.2).kept H3.out.2.1 fun t ht => tags_apart.2.2 t ht)
  have hgb3 : w3.heap[w.heap.size]? = some (.cells GG 23 (0, 0)) := H3.out.2.1.heap HB.out.1 (by
    have := HD.out.2.1 w.heap.size (Nat.le_refl _)
    rw [this]; unfold poolTag; omega)
  have htb3 : w3.heap[w.heap.size + 1]? = some (.cells TT 72 (0, 0)) := H3.out.2.1.heap HB.out.2.1 (by
    have := HD.out.2.1 (w.heap.size + 1) (by omega)
    rw [this]; unfold poolTag; omega)
  have hg2 : GG[2]? = some (.int .i64 g.size) := by rw [← HGG.out.1]; rfl
  have HF : Hid (∀ W, Keeps (fun _ => False) w3 W → cellsAt W ⟨w.heap.size, 0, none⟩ 6 = some GG ∧ W.cell? ⟨w.heap.size, 2, none⟩ = some (.int .i64 g.size)) := hid fun W hW =>
    ⟨cellsAt_full (hW.heap hgb3 id) hgs, (cell_of (hW.heap hgb3 id) 2).trans hg2⟩
  have s0 := (Step.kept (A := fun t => t = 4 ∨ poolTag t) (HB.out.2.2.mono fun _ _ h => h.elim) HD.out.2.1).1
  have hst := s0.trans (H3.out.2.1.mono (B := fun t => t = 4 ∨ poolTag t) fun t h => .inr h)
  have HST := hid hst
  clear hgb3 htb3 hg2 s0 hst
  rcases hb with b1 | ⟨b1, b2⟩
  all_goals
    go_wp2_with fail
    refine wp_region_still (by kernel_rfl) (by kernel_rfl) ?_
    repeat (first | (refine still_pass ?_ ?_; (focus (first | (go_simp; done) | rfl)); try simp only [Act.put, List.setIfInBounds_toArray, List.set_cons_succ, List.set_cons_zero]) | (apply still_step; (focus (go_simp; done)); (focus (intro W hW; unfold Oper.quietAt; (obtain ⟨c0, c1⟩ := HF.out W hW); go_simp; first | done | with_reducible rfl | (first | (go_at_call 36; exact still_call_same hW (pdevice_calls own3 pb db D W (HDR.out.still hW))) | (go_at_call 74; exact still_call_same hW (dzones_calls own3 db D.d W (HDR.out.still hW).dev)) | (go_at_call 75; exact still_call_same hW (dsize_calls own3 db D.d W (HDR.out.still hW).dev)) | (go_at_call 63; exact still_call_box hW (HAL.out W))) | exact ⟨rfl, rfl⟩)); try simp only [Act.put, List.setIfInBounds_toArray, List.set_cons_succ, List.set_cons_zero]))
    refine wpQuiet_nil ?_
    intro W hW
    have HW := hid hW
    clear hW
    go_wp2_with fail
    go_ret2
    exact ⟨own3, rfl, HST.out.trans (Step.kept (A := fun t => t = 4 ∨ poolTag t) (HW.out.mono fun _ _ h => h.elim) H3.out.2.2).1, Settled.keeps H3.out.2.2 HW.out⟩
end Go.Rv

/- Mirrors begin: the law's way. -/
namespace Go.Rv
open Go Go.RowKit Go.Proofs
attribute [local irreducible] wpQuiet tab0 tabV
attribute [local go_sem ↓] ld_Geom st_Geom al_Geom ld_Table st_Table al_Table
attribute [local go_sem] cellsAt_new0 cellsAt_lt cellsAt_drew size_bytesV cellsFree_new0

theorem pairs_none (g : GeomS) : (⟨g, fun _ => []⟩ : PoolS).pairs = 0 := by
  have h1 : ∀ k, (⟨g, fun _ => []⟩ : PoolS).sumTo k = 0 := by
    intro k
    induction k with
    | zero => rfl
    | succ k ih => unfold PoolS.sumTo; rw [ih]; rfl
  unfold PoolS.pairs
  rw [h1]
  unfold PoolS.count
  split <;> simp
theorem geom_same (G : GeomS) (w : World) : (binOp .eql 23 (.agg (geomC G)) (.agg (geomC G))).run Tryz.prog w = .ok (.bool true) w := by
  unfold geomC
  go_simp
  try simp
theorem drive_same (a : Addr) (w : World) : (binOp .eql 65 (.pointer (some a)) (.pointer (some a))).run Tryz.prog w = .ok (.bool true) w := by
  obtain ⟨j, hj⟩ : ∃ j, Tryz.prog.info? 166 = some j := Option.isSome_iff_exists.1 (by kernel_rfl)
  exact run_eql_ptr_same w a Tryz.underlying65 hj

set_option maxHeartbeats 600000 in
set_option maxRecDepth 100000 in
theorem begins_far (g : GeomS) (zones size : Int) (w : World) (h : 64 < zones) : Calls Tryz.prog 5 #[geomV g, .int .i64 zones, .int .i64 size] w fun e w' => e = .returned (.bool true) ∧ Keeps (fun _ => False) w w' := by
  have d1 : decide (64 < zones) = true := by simpa using h
  clear h
  unfold geomV
  go_enter Tryz.func5, Tryz.ntmps5
  go_wp2_with fail
  refine Calls.mono (anchor14_calls _) ?_
  rintro e w1 ⟨rfl, hk1⟩
  have HK := hid (Keeps.trans (show Keeps (fun _ => False) w _ from (by repeat (first | exact Keeps.refl _ _ | refine Keeps.alloc ?_ _ | refine Keeps.drew ?_ | refine Keeps.drewN ?_ _ | refine Keeps.trans ?_ (by assumption)))) hk1)
  clear hk1
  go_wp2_with fail
  go_ret
  exact ⟨rfl, HK.out⟩
set_option maxHeartbeats 600000 in
set_option maxRecDepth 100000 in
theorem begins_bad (g : GeomS) (zones size : Int) (w : World) (h : zones ≤ 64) (hb : zones < 1 ∨ ¬ (1 ≤ size ∧ size ≤ 64)) : Calls Tryz.prog 5 #[geomV g, .int .i64 zones, .int .i64 size] w fun e w' => e = .returned (.bool true) ∧ Keeps (fun _ => False) w w' := by
  have d1 : decide (64 < zones) = false := by simpa using h
  have hd := fun X => dr_bad zones size 4 (by omega) X
  have HD := hid hd
  clear h hb hd
  unfold geomV
  go_enter Tryz.func5, Tryz.ntmps5
  go_wp2_with fail
  refine Calls.mono (anchor14_calls _) ?_
  rintro e w1 ⟨rfl, hk1⟩
  have HK := hid (Keeps.trans (show Keeps (fun _ => False) w _ from (by repeat (first | exact Keeps.refl _ _ | refine Keeps.alloc ?_ _ | refine Keeps.drew ?_ | refine Keeps.drewN ?_ _ | refine Keeps.trans ?_ (by assumption)))) hk1)
  clear hk1
  go_wp2_with fail
  refine Calls.mono (HD.out _) ?_
  rintro e w2 ⟨rfl, hk2⟩
  have HK2 := hid (HK.out.trans hk2)
  clear hk2
  go_wp2_with fail
  go_ret
  exact ⟨rfl, HK2.out⟩

set_option maxHeartbeats 800000 in
set_option maxRecDepth 100000 in
theorem begins_in (g : GeomS) (nz : Nat) (size : Int) (w : World) (h1 : 1 ≤ nz ∧ nz ≤ 64) (h2 : 1 ≤ size ∧ size ≤ 64) : Calls Tryz.prog 5 #[geomV g, .int .i64 nz, .int .i64 size] w fun e w' => e = .returned (.bool true) ∧ Keeps (fun _ => False) w w' := by
  have d1 : decide (64 < (nz : Int)) = false := by simp; omega
  have hgv : geomV g = .agg (geomC g) := rfl
  have HG := hid (And.intro h1 (And.intro h2 hgv))
  have hdr := fun X => dr_new (fun _ => 0) nz size 4 (by omega) h2 (by omega) X (fun _ _ => rfl)
  have HDR := hid hdr
  rw [hgv]
  clear h1 h2 hgv hdr
  have hgc : geomC g = #[.int .i64 g.domains, .int .i64 g.zones, .int .i64 g.size, .int .i64 g.blocks, .int .i64 g.spare, .int .i64 g.opn] := rfl
  have HGC := hid hgc
  clear hgc
  obtain ⟨GG, hGG⟩ : ∃ GG, geomC g = GG := ⟨_, rfl⟩
  rw [hGG] at HGC ⊢
  have HGG := hid hGG
  have hgs : GG.size = 6 := by rw [← hGG]; rfl
  clear hGG
  go_enter Tryz.func5, Tryz.ntmps5
  go_wp2_with fail
  refine Calls.mono (anchor14_calls _) ?_
  rintro e w1 ⟨rfl, hk1⟩
  have hb := hk1.heap (heap_new w (.cells GG 23)) id
  have hk : Keeps (fun _ => False) w w1 := Keeps.trans (by repeat (first | exact Keeps.refl _ _ | refine Keeps.alloc ?_ _ | refine Keeps.drew ?_ | refine Keeps.drewN ?_ _ | refine Keeps.trans ?_ (by assumption))) hk1
  have H1 := hid (And.intro hk hb)
  clear hk hk1 hb
  go_wp2_with fail
  refine Calls.mono (HDR.out _) ?_
  rintro e w2 ⟨pb, db, own2, rfl, hd2, hs2, hset2⟩
  have hst2 : Step anyTag w (fun _ => 0) w2 own2 := (Step.kept (A := anyTag) (H1.out.1.mono fun _ _ h => h.elim) (fun _ _ => rfl)).1.trans (hs2.mono fun t h => by unfold anyTag drvTag devTag at *; omega)
  have o0 : ¬ drvTag ((fun _ => 0 : Nat → Nat) w.heap.size) := by unfold drvTag devTag; simp
  have hb2 := hs2.heap H1.out.2 o0
  have ho2 : own2 w.heap.size = 0 := hs2.agree _ (lt_of H1.out.2)
  have H2 := hid (And.intro hd2 (And.intro hst2 (And.intro hset2 (And.intro hb2 ho2))))
  have e2 := cellsAt_full (n := 6) hb2 hgs
  have HS : Hid (∀ X, Keeps (fun _ => False) w2 X → cellsAt X ⟨w.heap.size, 0, none⟩ 6 = some GG) := hid fun X hX => cellsAt_full (hX.heap H2.out.2.2.2.1 id) hgs
  have ts1 := HS.out w2.drew (Keeps.refl _ _).drew
  clear hd2 hs2 hset2 hst2 hb2 ho2 o0
  by_cases hr : g.right = true
  rotate_left
  · have hr' : g.right = false := by simpa using hr
    have hmw := fun X => mirnew_wrong pb g X hr'
    have hrr := fun X => refRight_calls g X
    have hgv : geomV g = .agg GG := by rw [← HGG.out]; rfl
    rw [hgv] at hmw hrr
    rw [hr'] at hrr
    have HMW := hid hmw
    have HRR := hid hrr
    clear hr hr' hmw hrr hgv
    go_wp2_with fail
    go_region_held3 (fun X => cellsAt X ⟨w.heap.size, 0, none⟩ 6 = some GG) (assumption)
      (first | (go_at_call 26; refine Calls.mono (cnew_calls _) ?_; rintro e w3 ⟨rfl, hk3⟩; have ts2 := HS.out w3 (Keeps.trans ((Keeps.refl _ _).drew) hk3))
             | (go_at_call 25; refine Calls.mono (HMW.out _) ?_; rintro e w4 ⟨rfl, hk4⟩; have hkw4 : Keeps (fun _ => False) w2 w4 := Keeps.trans (Keeps.trans ((Keeps.refl _ _).drew) hk3) hk4; have ts3 := HS.out w4 hkw4))
    have HK4 := hid hkw4
    clear ts1 ts2 ts3 hk3 hk4 hkw4 e2
    have e2 := HS.out w4 HK4.out
    go_wp2_with fail
    refine Calls.mono (HRR.out _) ?_
    rintro e w5 ⟨rfl, hk5⟩
    have HK5 := hid (HK4.out.trans hk5)
    clear hk5 e2
    go_wp2_with fail
    go_ret
    exact ⟨rfl, (H2.out.2.1.keeps.mono fun k _ h => absurd rfl h).trans HK5.out⟩
  · have hsm := g.right_small hr
    have hall := g.all_bd hsm
    have hrr := fun X => refRight_calls g X
    have hgv : geomV g = .agg GG := by rw [← HGG.out]; rfl
    rw [hgv, hr] at hrr
    have HRR := hid hrr
    have hd := hsm.d
    have hz := hsm.z
    have hal0 : 0 ≤ g.domains * g.zones := hall.1
    have hal1 : g.domains * g.zones ≤ 512 := hall.2
    have hc0 : GG[0]? = some (.int .i64 g.domains) := by rw [← HGG.out]; rfl
    have hc1 : GG[1]? = some (.int .i64 g.zones) := by rw [← HGG.out]; rfl
    have hc2 : GG[2]? = some (.int .i64 g.size) := by rw [← HGG.out]; rfl
    have HC := hid (And.intro hc0 (And.intro hc1 hc2))
    have HR := hid hr
    clear hrr hsm hall hc0 hc1 hc2
    by_cases hm : (nz : Int) = g.all ∧ size = g.size
    rotate_left
    · have hmo := fun X hd hs => mirnew_other own2 pb db ⟨⟨nz, size, 4, 0, false, fun _ => ⟨[], 0, 0, false⟩⟩, [], []⟩ g X hd hs hr (by
        refine Decidable.byContradiction fun c => hm ?_
        simp only [not_or, Decidable.not_not] at c
        exact c)
      rw [hgv] at hmo
      have HMO := hid hmo
      have hq : (g.domains * g.zones != (nz : Int)) = true ∨ (g.domains * g.zones != (nz : Int)) = false ∧ (g.size != size) = true := by
        by_cases c : g.domains * g.zones = (nz : Int)
        · refine .inr ⟨by simpa using c, ?_⟩
          have : g.size ≠ size := fun e => hm ⟨c.symm, e.symm⟩
          simpa using this
        · exact .inl (by simpa using c)
      clear hr hm hmo hgv
      go_wp2_with fail
      go_region_held3 (fun X => cellsAt X ⟨w.heap.size, 0, none⟩ 6 = some GG) (assumption)
        (first | (go_at_call 26; refine Calls.mono (cnew_calls _) ?_; rintro e w3 ⟨rfl, hk3⟩; have hkw3 : Keeps (fun _ => False) w2 w3 := Keeps.trans ((Keeps.refl _ _).drew) hk3; have ts2 := HS.out w3 hkw3)
               | (go_at_call 25; refine Calls.mono (HMO.out _ (H2.out.1.still hkw3) (H2.out.2.2.1.keeps hkw3)) ?_; rintro e w4 ⟨own4, rfl, hs4, hset4⟩; have hb4 := hs4.heap (hkw3.heap H2.out.2.2.2.1 id) (by rw [H2.out.2.2.2.2]; unfold poolTag; omega); have ts3 := cellsAt_full (n := 6) hb4 hgs))
      have hst4 := (H2.out.2.1.trans (Step.kept (A := anyTag) (hkw3.mono fun _ _ h => h.elim) H2.out.2.2.1).1).trans (hs4.mono (B := anyTag) fun t h => by unfold poolTag anyTag at *; omega)
      have H4 := hid (And.intro hst4 hb4)
      clear ts1 ts2 hk3 hkw3 e2 hs4 hset4 hst4 hb4
      go_wp2_with fail
      refine Calls.mono (HRR.out _) ?_
      rintro e w5 ⟨rfl, hk5⟩
      have hb5 := hk5.heap H4.out.2 id
      have c0 := (cell_of hb5 0).trans HC.out.1
      have c1 := (cell_of hb5 1).trans HC.out.2.1
      have c2 := (cell_of hb5 2).trans HC.out.2.2
      have HK5 := hid ((H4.out.1.keeps.mono fun k _ h => absurd rfl h : Keeps (fun _ => False) w w4).trans hk5)
      clear hk5 hb5 ts3
      rcases hq with q1 | ⟨q1, q2⟩
      all_goals
        go_wp2_with fail
        go_ret
        exact ⟨rfl, HK5.out⟩
    · have hmg := fun X hd hs => mirnew_good own2 pb db ⟨⟨nz, size, 4, 0, false, fun _ => ⟨[], 0, 0, false⟩⟩, [], []⟩ g X hd hs hr hm.1 hm.2
      rw [hgv] at hmg
      have HMG := hid hmg
      have q1 : (g.domains * g.zones != (nz : Int)) = false := by have := hm.1; unfold GeomS.all at this; simpa using this.symm
      have q2 : (g.size != size) = false := by simpa using hm.2.symm
      clear hr hm hmg hgv
      go_wp2_with fail
      go_region_held3 (fun X => cellsAt X ⟨w.heap.size, 0, none⟩ 6 = some GG) (assumption)
        (first | (go_at_call 26; refine Calls.mono (cnew_calls _) ?_; rintro e w3 ⟨rfl, hk3⟩; have hkw3 : Keeps (fun _ => False) w2 w3 := Keeps.trans ((Keeps.refl _ _).drew) hk3; have ts2 := HS.out w3 hkw3)
               | (go_at_call 25; refine Calls.mono (HMG.out _ (H2.out.1.still hkw3) (H2.out.2.2.1.keeps hkw3)) ?_; rintro e w4 ⟨mb, plb, own4, rfl, hm4, hs4, hset4⟩; have hb4 := hs4.heap (hkw3.heap H2.out.2.2.2.1 id) (by rw [H2.out.2.2.2.2]; unfold poolTag; omega); have ts3 := cellsAt_full (n := 6) hb4 hgs))
      have hst4 := (H2.out.2.1.trans (Step.kept (A := anyTag) (hkw3.mono fun _ _ h => h.elim) H2.out.2.2.1).1).trans (hs4.mono (B := anyTag) fun t h => by unfold poolTag anyTag at *; omega)
      have H4 := hid (And.intro hst4 (And.intro hb4 hm4))
      clear ts1 ts2 hk3 hkw3 e2 hs4 hset4 hst4 hb4 hm4
      go_wp2_with fail
      refine Calls.mono (HRR.out _) ?_
      rintro e w5 ⟨rfl, hk5⟩
      have hb5 := hk5.heap H4.out.2.1 id
      have c0 := (cell_of hb5 0).trans HC.out.1
      have c1 := (cell_of hb5 1).trans HC.out.2.1
      have c2 := (cell_of hb5 2).trans HC.out.2.2
      have HK5 := hid (And.intro hk5 hb5)
      clear hk5 hb5 ts3
      go_wp2_with fail
      refine Calls.mono (mopen_calls own4 mb pb db plb _ _ (H4.out.2.2.still HK5.out.1)) ?_
      rintro e w6 ⟨rfl, hk6⟩
      have HK6 := hid (HK5.out.1.trans hk6)
      clear hk6 c0 c1 c2
      go_wp2_with fail
      refine Calls.mono (cnew_calls _) ?_
      rintro e w7 ⟨rfl, hk7⟩
      have hts := size_tabV tab0
      have hto := tab_one tab0
      have htb := fun w => tab_same tab0 w
      have hpp := pairs_none g
      have hmt := fun X (hX : Keeps (fun _ => False) w4 X) => mtable_calls own4 mb pb db plb _ X (H4.out.2.2.still hX)
      obtain ⟨TT, hTT⟩ : ∃ TT, tabV tab0 = TT := ⟨_, rfl⟩
      rw [hTT] at hts hto htb hmt ⊢
      have hk8 := keeps_put0 (o := 0) ((Keeps.refl (fun _ => False) w7).alloc (.cells z_Table 72)) (fun h => absurd h (Nat.lt_irrefl _)) TT
      have hl8 := putCells_at (heap_new w7 (.cells z_Table 72)) (show z_Table.size = TT.size by rw [hts]; rfl)
      obtain ⟨w8, hw8⟩ : ∃ w8, putCells (w7.alloc (.cells z_Table 72)) ⟨w7.heap.size, 0, none⟩ TT = w8 := ⟨_, rfl⟩
      rw [hw8] at hk8 hl8
      have hkk : Keeps (fun _ => False) w4 w8 := (HK6.out.trans hk7).trans hk8
      have HF : Hid (∀ W, Keeps (fun _ => False) w8 W → cellsAt W ⟨w.heap.size, 0, none⟩ 6 = some GG ∧ cellsAt W ⟨w7.heap.size, 0, none⟩ 256 = some TT) := hid fun W hW => ⟨cellsAt_full ((hkk.trans hW).heap H4.out.2.1 id) hgs, cellsAt_full (hW.heap hl8 id) hts⟩
      have HM : Hid (∀ W, Keeps (fun _ => False) w8 W → MirAt W own4 mb pb db plb _) := hid fun W hW => H4.out.2.2.still (hkk.trans hW)
      have HMT : Hid (∀ W, Keeps (fun _ => False) w8 W → Calls Tryz.prog 32 #[.pointer (some ⟨mb, 0, none⟩)] W fun e w' => e = .returned (.agg TT) ∧ Keeps (fun _ => False) W w') := hid fun W hW => hmt W (hkk.trans hW)
      have HMGE : Hid (∀ W, Keeps (fun _ => False) w8 W → Calls Tryz.prog 30 #[.pointer (some ⟨mb, 0, none⟩)] W fun e w' => e = .returned (.agg GG) ∧ Keeps (fun _ => False) W w') := hid fun W hW => by
        rw [← HGG.out]
        exact mgeom_calls own4 mb pb db plb _ W (HM.out W hW)
      have HPR : Hid (∀ W, Keeps (fun _ => False) w8 W → Calls Tryz.prog 29 #[.pointer (some ⟨plb, 0, none⟩)] W fun e w' => e = .returned (.int .i64 0) ∧ Keeps (fun _ => False) W w') := hid fun W hW => by
        rw [← hpp]
        exact pairs_calls own4 plb _ W (HM.out W hW).pool (HM.out W hW).ok.pool
      have hgq := fun w => geom_same g w
      rw [HGG.out] at hgq
      have hdq := fun w => drive_same ⟨pb, 0, none⟩ w
      have HKK := hid hkk
      have hzt := size_z_Table
      clear hk7 hpp hmt hTT hk8 hl8 hkk
      go_wp2_with fail
      refine wp_region_still (by kernel_rfl) (by kernel_rfl) ?_
      repeat (first | (refine still_pass ?_ ?_; (focus (first | (go_simp; done) | rfl)); try simp only [Act.put, List.setIfInBounds_toArray, List.set_cons_succ, List.set_cons_zero]) | (apply still_step; (focus (go_simp; done)); (focus (intro W hW; unfold Oper.quietAt; (obtain ⟨c0, c1⟩ := HF.out W hW); go_simp; first | done | with_reducible rfl | (first | (go_at_call 14; exact still_call_same hW (mpool_calls own4 mb pb db plb _ W (HM.out W hW))) | (go_at_call 29; exact still_call hW (HPR.out W hW)) | (go_at_call 30; exact still_call hW (HMGE.out W hW)) | (go_at_call 31; exact still_call_same hW (mdrive_calls own4 mb pb db plb _ W (HM.out W hW))) | (go_at_call 32; exact still_call hW (HMT.out W hW))) | exact ⟨rfl, rfl⟩)); try simp only [Act.put, List.setIfInBounds_toArray, List.set_cons_succ, List.set_cons_zero]))
      refine wpQuiet_nil ?_
      intro W hW
      have HW := hid hW
      clear hW
      go_wp2_with fail
      go_ret
      exact ⟨rfl, ((H4.out.1.keeps.mono fun k _ h => absurd rfl h : Keeps (fun _ => False) w w4).trans HKK.out).trans HW.out⟩
end Go.Rv
