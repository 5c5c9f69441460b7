/- A new mirror. -/
import Derived.Test.YtoijkpgcaokhlaaGreatPart15
set_option linter.unusedVariables false
set_option linter.unusedSimpArgs false
namespace Go.Rv
open Go Go.RowKit Go.Proofs
attribute [local irreducible] wpQuiet tab0 tabV
attribute [local go_sem ↓] ld_Geom st_Geom al_Geom ld_Table st_Table al_Table bd_Mir
attribute [local go_sem] cellsAt_new0 cellsAt_lt cellsAt_drew size_bytesV

theorem PoolS.Ok.new {g : GeomS} (h : g.right = true) : (⟨g, fun _ => []⟩ : PoolS).Ok :=
  ⟨g.right_small h, fun d _ z hz => absurd hz (by simp), fun d _ => List.nodup_nil⟩

theorem s2r_alloc {w : World} {a n b : Nat} {x : Array Value} {cs : List Value} {o : Obj} (h : cellsAt w ⟨a, 0, none⟩ n = some x ∧ w.rangeAt b 0 cs) : cellsAt (w.alloc o) ⟨a, 0, none⟩ n = some x ∧ (w.alloc o).rangeAt b 0 cs :=
  ⟨cellsAt_keeps (M := fun _ => False) h.1 ((Keeps.refl _ _).alloc _) id, World.rangeAt_alloc h.2 o⟩
theorem s2_alloc {w : World} {a b n m : Nat} {x y : Array Value} {o : Obj} (h : cellsAt w ⟨a, 0, none⟩ n = some x ∧ cellsAt w ⟨b, 0, none⟩ m = some y) : cellsAt (w.alloc o) ⟨a, 0, none⟩ n = some x ∧ cellsAt (w.alloc o) ⟨b, 0, none⟩ m = some y :=
  ⟨cellsAt_keeps (M := fun _ => False) h.1 ((Keeps.refl _ _).alloc _) id, cellsAt_keeps (M := fun _ => False) h.2 ((Keeps.refl _ _).alloc _) id⟩

set_option maxHeartbeats 400000 in
set_option maxRecDepth 100000 in
theorem mirnew_good (own : Nat → Nat) (pb db : Nat) (D : DriveS) (g : GeomS) (w : World) (h : DriveAt w own pb db D) (hset : Settled own w) (hg : g.right = true) (hnz : (D.d.nz : Int) = g.all) (hsz : D.d.size = g.size) :
    Calls Tryz.prog 25 #[.pointer (some ⟨pb, 0, none⟩), geomV g, .agg (tabV tab0)] w fun e w' => ∃ mb plb own', e = .returned (.tuple #[.pointer (some ⟨mb, 0, none⟩), .int .i64 0]) ∧ MirAt w' own' mb pb db plb ⟨D, g, ⟨g, fun _ => []⟩, fun _ => false, -1, -1, 0⟩ ∧ Step (fun t => t = 4 ∨ poolTag t) w own w' own' ∧ Settled own' w' := by
  have HD := hid (And.intro h (And.intro hset (And.intro hg (And.intro hnz hsz))))
  have hsm := g.right_small hg
  have HSM := hid hsm
  have hall := g.all_bd hsm
  obtain ⟨L0, hL, hmL⟩ := mk_ints (g.domains * g.zones) hall.1 hall.2
  have HL := hid (And.intro hL hall)
  obtain ⟨GG, hGG⟩ : ∃ GG, geomC g = GG := ⟨_, rfl⟩
  obtain ⟨TT, hTT⟩ : ∃ TT, tabV tab0 = TT := ⟨_, rfl⟩
  have hgs : GG.size = 6 := by rw [← hGG]; rfl
  have hts : TT.size = 256 := by rw [← hTT]; exact size_tabV tab0
  have hgf : geomV g = .agg GG := by rw [← hGG]; rfl
  have HGG := hid (And.intro hGG hTT)
  have HGF := hid hgf
  have hk2 : Keeps (fun _ => False) w ((w.alloc (.cells GG 23)).alloc (.cells TT 72)) := (by repeat (first | exact Keeps.refl _ _ | refine Keeps.alloc ?_ _ | refine Keeps.drew ?_ | refine Keeps.drewN ?_ _ | refine Keeps.trans ?_ (by assumption)))
  have hb0 := heap_old (w.alloc (.cells GG 23)) (.cells TT 72) (heap_new w (.cells GG 23))
  have hb1 := heap_new (w.alloc (.cells GG 23)) (.cells TT 72)
  rw [World.size_alloc] at hb1
  obtain ⟨w2, hw2⟩ : ∃ w2, (w.alloc (.cells GG 23)).alloc (.cells TT 72) = w2 := ⟨_, rfl⟩
  rw [hw2] at hk2 hb0 hb1
  have e0 := cellsAt_full (n := 6) hb0 hgs
  have HB := hid (And.intro hb0 (And.intro hb1 hk2))
  have hpn := pnew_good own g hg w2 (hset.keeps hk2)
  rw [hgf] at hpn
  have HPN := hid hpn
  have HAL : Hid (∀ W, Calls Tryz.prog 63 #[.agg GG] W fun e w' => e = .returned (.int .i64 (g.domains * g.zones)) ∧ w' = W.alloc (geomB g)) := hid fun W => by
    have := gAll_calls g HSM.out W
    rwa [HGF.out] at this
  rw [hgf, hTT]
  clear h hset hg hnz hsz hsm hall hL hk2 hb0 hb1 hpn hgf hGG hTT
  go_enter Tryz.func25, Tryz.ntmps25
  go_wp2_with fail
  clear hw2 e0
  refine Calls.mono HPN.out ?_
  rintro e w3 ⟨plb, own3, rfl, hp3, hs3, hset3⟩
  have H3 := hid (And.intro hp3 (And.intro hs3 hset3))
  clear hp3 hs3 hset3
  have b1 : ((D.d.nz : Int) != g.domains * g.zones) = false := by have := HD.out.2.2.2.1; unfold GeomS.all at this; simpa using this
  have b2 : (D.d.size != g.size) = false := by have := HD.out.2.2.2.2; simpa using this
  have HDR : Hid (DriveAt w3 own3 pb db D) := hid ((HD.out.1.still HB.out.2.2).kept H3.out.2.1 fun t ht => tags_apart.2.2 t ht)
  have hgb3 : w3.heap[w.heap.size]? = some (.cells GG 23 (0, 0)) := H3.out.2.1.heap HB.out.1 (by
    have := HD.out.2.1 w.heap.size (Nat.le_refl _)
    rw [this]; unfold poolTag; omega)
  have htb3 : w3.heap[w.heap.size + 1]? = some (.cells TT 72 (0, 0)) := H3.out.2.1.heap HB.out.2.1 (by
    have := HD.out.2.1 (w.heap.size + 1) (by omega)
    rw [this]; unfold poolTag; omega)
  have hg2 : GG[2]? = some (.int .i64 g.size) := by rw [← HGG.out.1]; rfl
  have HF : Hid (∀ W, Keeps (fun _ => False) w3 W → cellsAt W ⟨w.heap.size, 0, none⟩ 6 = some GG ∧ W.cell? ⟨w.heap.size, 2, none⟩ = some (.int .i64 g.size)) := hid fun W hW =>
    ⟨cellsAt_full (hW.heap hgb3 id) hgs, (cell_of (hW.heap hgb3 id) 2).trans hg2⟩
  have HBX := hid (And.intro hgb3 htb3)
  clear hgb3 htb3 hg2
  go_wp2_with fail
  refine wp_region_still (by kernel_rfl) (by kernel_rfl) ?_
  repeat (first | (refine still_pass ?_ ?_; (focus (first | (go_simp; done) | rfl)); try simp only [Act.put, List.setIfInBounds_toArray, List.set_cons_succ, List.set_cons_zero]) | (apply still_step; (focus (go_simp; done)); (focus (intro W hW; unfold Oper.quietAt; (obtain ⟨c0, c1⟩ := HF.out W hW); go_simp; first | done | with_reducible rfl | (first | (go_at_call 36; exact still_call_same hW (pdevice_calls own3 pb db D W (HDR.out.still hW))) | (go_at_call 74; exact still_call_same hW (dzones_calls own3 db D.d W (HDR.out.still hW).dev)) | (go_at_call 75; exact still_call_same hW (dsize_calls own3 db D.d W (HDR.out.still hW).dev)) | (go_at_call 63; exact still_call_box hW (HAL.out W))) | exact ⟨rfl, rfl⟩)); try simp only [Act.put, List.setIfInBounds_toArray, List.set_cons_succ, List.set_cons_zero]))
  refine wpQuiet_nil ?_
  intro W hW
  have HW := hid hW
  have d0 : cellsAt W ⟨w.heap.size, 0, none⟩ 6 = some GG := cellsAt_full (hW.heap HBX.out.1 id) hgs
  have d1 : W.rangeAt (w.heap.size + 1) 0 TT.toList := fun j v hv => by
    rw [Nat.zero_add, cell_of (hW.heap HBX.out.2 id) j]; simpa using hv
  have hun := Tryz.underlying72
  have hts2 : TT.toList.toArray = TT := by simp
  have hts3 : TT.toList.length = 256 := by simp [hts]
  have hin : (Tryz.prog.info? 72).map (·.size) = some TT.toList.length := by
    rw [Array.length_toList, hts]; kernel_rfl
  clear hW
  go_wp2_with fail
  go_region_held3 (fun X => cellsAt X ⟨w.heap.size, 0, none⟩ 6 = some GG ∧ X.rangeAt (w.heap.size + 1) 0 TT.toList) (repeat (first | assumption | exact ⟨d0, d1⟩ | refine s2r_alloc ?_))
    (first | (go_at_call 63; refine Calls.mono (HAL.out _) ?_; rintro e w2 ⟨rfl, rfl⟩))
  all_goals
    go_wp2_with fail
    go_ret2
  obtain ⟨WF, hWF⟩ : ∃ WF, (((W.alloc (geomB g)).alloc (.cells L0 3)).alloc (.cells (mkMir (.pointer (some ⟨pb, 0, none⟩)) GG TT (.pointer (some ⟨plb, 0, none⟩)) (.slice (some ⟨W.heap.size + 1, 0, none⟩) (g.domains * g.zones).toNat (g.domains * g.zones).toNat) (.int .i64 (-1)) (.int .i64 (-1))) 149)).drew = WF := ⟨_, rfl⟩
  rw [hWF]
  have hk : Keeps (fun _ => False) w3 WF := by rw [← hWF]; exact (((HW.out.alloc _).alloc _).alloc _).drew
  have hm : WF.heap[W.heap.size + 1 + 1]? = some (.cells (mirC pb g (tabV tab0) plb (.slice (some ⟨W.heap.size + 1, 0, none⟩) g.all.toNat g.all.toNat) (-1) (-1) 0) 149 (0, 0)) := by
    rw [← hWF]
    have := heap_new ((W.alloc (geomB g)).alloc (.cells L0 3)) (.cells (mkMir (.pointer (some ⟨pb, 0, none⟩)) GG TT (.pointer (some ⟨plb, 0, none⟩)) (.slice (some ⟨W.heap.size + 1, 0, none⟩) (g.domains * g.zones).toNat (g.domains * g.zones).toNat) (.int .i64 (-1)) (.int .i64 (-1))) 149)
    rw [World.size_alloc, World.size_alloc] at this
    rw [← HGG.out.1, ← HGG.out.2, mkMir_eq] at this
    rw [← HGG.out.1, ← HGG.out.2, mkMir_eq]
    exact heap_d this
  have hl : WF.heap[W.heap.size + 1]? = some (.cells L0 3 (0, 0)) := by
    rw [← hWF]
    have := heap_new (W.alloc (geomB g)) (.cells L0 3)
    rw [World.size_alloc] at this
    exact heap_d (heap_old _ _ this)
  obtain ⟨s1, s2⟩ := Step.news hk H3.out.2.2 4
  have s0 := (Step.kept (A := fun t => t = 4 ∨ poolTag t) (HB.out.2.2.mono fun _ _ h => h.elim) HD.out.2.1).1
  have hlt3 : w3.heap.size ≤ W.heap.size := HW.out.size
  refine ⟨_, plb, _, rfl, ⟨⟨W.heap.size + 1, g.all.toNat, L0, ⟨ownNew_new own3 (by omega) (lt_of hm), ownNew_new own3 (by omega) (lt_of hl), hm, hl, fun i hi => ?_⟩⟩, HDR.out.kept s1 fun t ht e => tags_apart.1 (e ▸ ht), H3.out.1.kept (PoolS.Ok.new HD.out.2.2.1).nd.2.1 s1 fun t ht e => tags_apart.2.1 (e ▸ ht), ⟨HD.out.2.2.1, PoolS.Ok.new HD.out.2.2.1, rfl, HD.out.2.2.2.1, HD.out.2.2.2.2⟩⟩, (s0.trans (H3.out.2.1.mono fun t h => .inr h)).trans (s1.mono fun t h => .inl h), s2⟩
  have hi2 : i < (g.domains * g.zones).toNat := by
    have : (i : Int) < g.domains * g.zones := hi
    omega
  rw [← Array.getElem?_toList, HL.out.1]
  simp [hi2]
end Go.Rv

/- Areas: what they hold; making, setting and telling them. -/
namespace Go.Rv
open Go Go.RowKit Go.Proofs
attribute [local irreducible] wpQuiet tab0 tabV
attribute [local go_sem ↓] ld_Geom st_Geom al_Geom ld_Table st_Table al_Table
attribute [local go_sem] cellsAt_new0 cellsAt_lt cellsAt_drew size_bytesV

structure AreaS where
  m : MirS
  cur : Nat → Int
  old : Nat → Int
def put1 (f : Nat → Int) (i : Nat) (v : Int) : Nat → Int := fun k => if k = i then v else f k
def areC (mb : Nat) (cur old : Nat → Int) : Array Value := #[.pointer (some ⟨mb, 0, none⟩), .int .i64 (cur 0), .int .i64 (old 0), .int .i64 (cur 1), .int .i64 (old 1), .int .i64 (cur 2), .int .i64 (old 2)]

/-- the owners of an area's blocks. -/
def areTag (t : Nat) : Prop := t = 6 ∨ mirTag t
theorem mirTag_lt {t : Nat} (h : mirTag t) : t ≠ 0 ∧ t ≠ 5 ∧ t ≠ 6 := by unfold mirTag drvTag devTag poolTag at h; omega

structure AreHead (w : World) (own : Nat → Nat) (ab mb : Nat) (cur old : Nat → Int) : Prop where
  mine : own ab = 6
  heap : w.heap[ab]? = some (.cells (areC mb cur old) 147 (0, 0))
structure AreAt (w : World) (own : Nat → Nat) (ab mb pb db plb : Nat) (A : AreaS) : Prop where
  head : AreHead w own ab mb A.cur A.old
  mir : MirAt w own mb pb db plb A.m

theorem AreHead.keeps {w w' : World} {own : Nat → Nat} {ab mb : Nat} {cur old : Nat → Int} {N : Nat → Prop} (h : AreHead w own ab mb cur old) (hk : Keeps N w w') (hN : ∀ k, own k = 6 → ¬ N k) : AreHead w' own ab mb cur old := ⟨h.mine, hk.heap h.heap (hN _ h.mine)⟩
theorem AreHead.kept {w w' : World} {own own' : Nat → Nat} {ab mb : Nat} {cur old : Nat → Int} {B : Nat → Prop} (h : AreHead w own ab mb cur old) (hs : Step B w own w' own') (hB : ¬ B 6) : AreHead w' own' ab mb cur old := ⟨hs.own h.heap h.mine, hs.heap h.heap (by rw [h.mine]; exact hB)⟩
theorem AreAt.still {w w' : World} {own : Nat → Nat} {ab mb pb db plb : Nat} {A : AreaS} (h : AreAt w own ab mb pb db plb A) (hk : Keeps (fun _ => False) w w') : AreAt w' own ab mb pb db plb A := ⟨h.head.keeps hk (fun _ _ => id), h.mir.still hk⟩
theorem AreHead.cells {w : World} {own : Nat → Nat} {ab mb : Nat} {cur old : Nat → Int} (h : AreHead w own ab mb cur old) : w.cell? ⟨ab, 0, none⟩ = some (.pointer (some ⟨mb, 0, none⟩)) ∧ w.cell? ⟨ab, 1, none⟩ = some (.int .i64 (cur 0)) ∧ w.cell? ⟨ab, 2, none⟩ = some (.int .i64 (old 0)) ∧ w.cell? ⟨ab, 3, none⟩ = some (.int .i64 (cur 1)) ∧ w.cell? ⟨ab, 4, none⟩ = some (.int .i64 (old 1)) ∧ w.cell? ⟨ab, 5, none⟩ = some (.int .i64 (cur 2)) ∧ w.cell? ⟨ab, 6, none⟩ = some (.int .i64 (old 2)) :=
  ⟨cell_of h.heap 0, cell_of h.heap 1, cell_of h.heap 2, cell_of h.heap 3, cell_of h.heap 4, cell_of h.heap 5, cell_of h.heap 6⟩
theorem AreHead.frees {w : World} {own : Nat → Nat} {ab mb : Nat} {cur old : Nat → Int} (h : AreHead w own ab mb cur old) : w.frozen? ⟨ab, 1, none⟩ = false ∧ w.frozen? ⟨ab, 2, none⟩ = false ∧ w.frozen? ⟨ab, 3, none⟩ = false ∧ w.frozen? ⟨ab, 4, none⟩ = false ∧ w.frozen? ⟨ab, 5, none⟩ = false ∧ w.frozen? ⟨ab, 6, none⟩ = false :=
  ⟨free_of h.heap 1, free_of h.heap 2, free_of h.heap 3, free_of h.heap 4, free_of h.heap 5, free_of h.heap 6⟩

def arTo (mb d : Nat) : Array Value := areC mb (fun k => if k < d then -1 else 0) (fun k => if k < d then -1 else 0)
set_option maxHeartbeats 1000000 in
theorem anew_calls (mb : Nat) (w : World) : Calls Tryz.prog 56 #[.pointer (some ⟨mb, 0, none⟩)] w fun e w' => e = .returned (.pointer (some ⟨w.heap.size, 0, none⟩)) ∧ w'.heap[w.heap.size]? = some (.cells (areC mb (fun _ => -1) (fun _ => -1)) 147 (0, 0)) ∧ Keeps (fun _ => False) w w' := by
  go_enter Tryz.func56, Tryz.ntmps56
  go_wp2_with fail
  go_loopg [8] 3 (fun (gk : Nat) (i : Value) (wr : World) => ∃ d : Nat, d + gk = 3 ∧ i = .int .i64 d ∧ wr.heap[w.heap.size]? = some (.cells (arTo mb d) 147 (0, 0)) ∧ Keeps (fun _ => False) w wr)
  case atStart => exact ⟨0, by omega, rfl, heap_new _ _, (by repeat (first | exact Keeps.refl _ _ | refine Keeps.alloc ?_ _ | refine Keeps.drew ?_ | refine Keeps.drewN ?_ _ | refine Keeps.trans ?_ (by assumption)))⟩
  case round =>
    obtain ⟨d, hd, rfl, hh, hk⟩ := hrel
    by_cases c : d < 3
    · have hc : d = 0 ∨ d = 1 ∨ d = 2 := by omega
      have HX := hid (And.intro hh hk)
      have c1 := cell_of hh 1
      have c2 := cell_of hh 2
      have c3 := cell_of hh 3
      have c4 := cell_of hh 4
      have c5 := cell_of hh 5
      have c6 := cell_of hh 6
      have f1 := free_of hh 1
      have f2 := free_of hh 2
      have f3 := free_of hh 3
      have f4 := free_of hh 4
      have f5 := free_of hh 5
      have f6 := free_of hh 6
      clear hh hk
      rcases hc with rfl | rfl | rfl
      all_goals
        simp [arTo, areC] at c1 c2 c3 c4 c5 c6
        have dd : True := trivial
        go_wp2_with fail
        go_roundg (gk - 1)
        case measure => omega
        case rel =>
          first | refine ⟨1, by omega, rfl, ?_, ?_⟩ | refine ⟨2, by omega, rfl, ?_, ?_⟩ | refine ⟨3, by omega, rfl, ?_, ?_⟩
          · exact heap_set (heap_set HX.out.1 _ _) _ _
          · exact (HX.out.2.setCell (fun h => absurd h (Nat.lt_irrefl _)) _).setCell (fun h => absurd h (Nat.lt_irrefl _)) _
    · have hd3 : d = 3 := by omega
      subst hd3
      have HX := hid (And.intro hh hk)
      clear hh hk
      go_wp2_with fail
      go_ret
      exact ⟨rfl, HX.out⟩

theorem ahas_calls (i : Nat) (hi : i < 3) (w : World) : Calls Tryz.prog 58 #[.int .i64 i] w fun e w' => e = .returned (.bool true) ∧ w = w' := by
  have d1 : decide (0 ≤ (i : Int)) = true := by simp
  have d2 : decide ((i : Int) < 3) = true := by simp; omega
  go_enter Tryz.func58, Tryz.ntmps58
  go_wp2_with fail
  go_ret
  exact ⟨rfl, rfl⟩
theorem ahas_not (i : Int) (hi : i < 0 ∨ 3 ≤ i) (w : World) : Calls Tryz.prog 58 #[.int .i64 i] w fun e w' => e = .returned (.bool false) ∧ w = w' := by
  by_cases k1 : 0 ≤ i
  · have d1 : decide (0 ≤ i) = true := by simpa using k1
    have d2 : decide (i < 3) = false := by simp; omega
    go_enter Tryz.func58, Tryz.ntmps58
    go_wp2_with fail
    go_ret
    exact ⟨rfl, rfl⟩
  · have d1 : decide (0 ≤ i) = false := by simpa using k1
    go_enter Tryz.func58, Tryz.ntmps58
    go_wp2_with fail
    go_ret
    exact ⟨rfl, rfl⟩

def AreaS.fits (A : AreaS) (i z : Int) : Bool := z == -1 || A.m.g.domain z == i
set_option maxHeartbeats 1000000 in
theorem afits_calls (own : Nat → Nat) (ab mb pb db plb : Nat) (A : AreaS) (i z : Int) (w : World) (h : AreAt w own ab mb pb db plb A) : Calls Tryz.prog 59 #[.pointer (some ⟨ab, 0, none⟩), .int .i64 i, .int .i64 z] w fun e w' => e = .returned (.bool (A.fits i z)) ∧ Keeps (fun _ => False) w w' := by
  have H := hid h
  obtain ⟨c0, -⟩ := h.head.cells
  have hsm := A.m.g.right_small h.mir.ok.right
  have HSM := hid hsm
  clear h hsm
  unfold AreaS.fits
  cases k1 : z == -1 with
  | true =>
    go_enter Tryz.func59, Tryz.ntmps59
    go_wp2_with fail
    go_ret
    exact ⟨rfl, Keeps.refl _ _⟩
  | false =>
    go_enter Tryz.func59, Tryz.ntmps59
    go_wp2_with fail
    refine Calls.mono (mgeom_calls own mb pb db plb A.m _ H.out.mir) ?_
    rintro e w1 ⟨rfl, hk1⟩
    have HK1 := hid hk1
    clear hk1
    go_wp2_with fail
    refine Calls.mono (domain_calls A.m.g HSM.out _ _) ?_
    rintro e w2 ⟨rfl, hk2⟩
    have HK2 := hid (HK1.out.trans hk2)
    clear hk2
    go_wp2_with fail
    go_ret
    exact ⟨rfl, HK2.out⟩
end Go.Rv

/- Areas: setting and telling their zones; emptying a zone. -/
namespace Go.Rv
open Go Go.RowKit Go.Proofs
attribute [local irreducible] wpQuiet tab0 tabV

theorem AreHead.set {w : World} {own : Nat → Nat} {ab mb : Nat} {cur old : Nat → Int} (h : AreHead w own ab mb cur old) {i : Nat} (hi : i < 3) (c o : Int) :
    AreHead ((w.setCell ⟨ab, 1 + i * 2, none⟩ (.int .i64 c)).setCell ⟨ab, 1 + i * 2 + 1, none⟩ (.int .i64 o)) own ab mb (put1 cur i c) (put1 old i o) ∧ Keeps (fun k => k = ab) w ((w.setCell ⟨ab, 1 + i * 2, none⟩ (.int .i64 c)).setCell ⟨ab, 1 + i * 2 + 1, none⟩ (.int .i64 o)) := by
  refine ⟨⟨h.mine, ?_⟩, keeps_set (keeps_set (Keeps.refl _ _) _ _) _ _⟩
  have q := heap_set (heap_set h.heap (1 + i * 2) (.int .i64 c)) (1 + i * 2 + 1) (.int .i64 o)
  have hc : i = 0 ∨ i = 1 ∨ i = 2 := by omega
  rcases hc with rfl | rfl | rfl <;> exact q
theorem AreHead.setOld {w : World} {own : Nat → Nat} {ab mb : Nat} {cur old : Nat → Int} (h : AreHead w own ab mb cur old) {i : Nat} (hi : i < 3) (o : Int) :
    AreHead (w.setCell ⟨ab, 1 + i * 2 + 1, none⟩ (.int .i64 o)) own ab mb cur (put1 old i o) ∧ Keeps (fun k => k = ab) w (w.setCell ⟨ab, 1 + i * 2 + 1, none⟩ (.int .i64 o)) := by
  refine ⟨⟨h.mine, ?_⟩, keeps_set (Keeps.refl _ _) _ _⟩
  have q := heap_set h.heap (1 + i * 2 + 1) (.int .i64 o)
  have hc : i = 0 ∨ i = 1 ∨ i = 2 := by omega
  rcases hc with rfl | rfl | rfl <;> exact q
theorem AreHead.at {w : World} {own : Nat → Nat} {ab mb : Nat} {cur old : Nat → Int} (h : AreHead w own ab mb cur old) {i : Nat} (hi : i < 3) : w.cell? ⟨ab, 1 + i * 2, none⟩ = some (.int .i64 (cur i)) ∧ w.cell? ⟨ab, 1 + i * 2 + 1, none⟩ = some (.int .i64 (old i)) ∧ w.frozen? ⟨ab, 1 + i * 2, none⟩ = false ∧ w.frozen? ⟨ab, 1 + i * 2 + 1, none⟩ = false := by
  have hc : i = 0 ∨ i = 1 ∨ i = 2 := by omega
  obtain ⟨c0, c1, c2, c3, c4, c5, c6⟩ := h.cells
  refine ⟨?_, ?_, free_of h.heap _, free_of h.heap _⟩ <;> rcases hc with rfl | rfl | rfl <;> assumption

/-- the mirror stays when an area's own block turns. -/
theorem AreAt.turn {w w' : World} {own : Nat → Nat} {ab mb pb db plb : Nat} {A : AreaS} {cur' old' : Nat → Int} (h : AreAt w own ab mb pb db plb A) (hset : Settled own w) (hh : AreHead w' own ab mb cur' old') (hk : Keeps (fun k => k = ab) w w') : AreAt w' own ab mb pb db plb ⟨A.m, cur', old'⟩ ∧ Step (fun t => t = 6) w own w' own ∧ Settled own w' := by
  have hk6 : Keeps (fun k => own k = 6) w w' := hk.mono fun i _ e => by rw [e]; exact h.head.mine
  obtain ⟨s1, s2⟩ := Step.kept (A := fun t => t = 6) hk6 hset
  exact ⟨⟨hh, h.mir.kept s1 fun t ht e => (mirTag_lt ht).2.2 e⟩, s1, s2⟩

set_option maxHeartbeats 1000000 in
theorem aset_ok (own : Nat → Nat) (ab mb pb db plb : Nat) (A : AreaS) (i : Nat) (hi : i < 3) (c o : Int) (w : World) (h : AreAt w own ab mb pb db plb A) (hset : Settled own w) (hc : A.fits i c = true) (ho : A.fits i o = true) (hne : c ≠ o ∨ c = -1) :
    Calls Tryz.prog 13 #[.pointer (some ⟨ab, 0, none⟩), .int .i64 i, .int .i64 c, .int .i64 o] w fun e w' => e = .returned (.int .i64 0) ∧ AreAt w' own ab mb pb db plb ⟨A.m, put1 A.cur i c, put1 A.old i o⟩ ∧ Step (fun t => t = 6) w own w' own ∧ Settled own w' := by
  have H := hid (And.intro h hset)
  have HC := hid (And.intro hc ho)
  have d0 : (0 : Int) ≤ i := by omega
  have hcase : ((c == o) = false) ∨ ((c == o) = true ∧ (c != -1) = false) := by
    by_cases e : c = o
    · right; rcases hne with h | h
      · exact absurd e h
      · subst h; simp [e]
    · left; simpa using e
  clear h hset hc ho hne
  have go : ∀ W, Keeps (fun _ => False) w W → AreAt ((W.setCell ⟨ab, 1 + i * 2, none⟩ (.int .i64 c)).setCell ⟨ab, 1 + i * 2 + 1, none⟩ (.int .i64 o)) own ab mb pb db plb ⟨A.m, put1 A.cur i c, put1 A.old i o⟩ ∧ Step (fun t => t = 6) w own ((W.setCell ⟨ab, 1 + i * 2, none⟩ (.int .i64 c)).setCell ⟨ab, 1 + i * 2 + 1, none⟩ (.int .i64 o)) own ∧ Settled own ((W.setCell ⟨ab, 1 + i * 2, none⟩ (.int .i64 c)).setCell ⟨ab, 1 + i * 2 + 1, none⟩ (.int .i64 o)) := fun W hW => by
    have hA := H.out.1.still hW
    obtain ⟨q1, q2⟩ := hA.head.set hi c o
    obtain ⟨r1, r2, r3⟩ := hA.turn (H.out.2.keeps hW) q1 q2
    exact ⟨r1, (Step.kept (A := fun t => t = 6) (hW.mono fun _ _ h => h.elim) H.out.2).1.trans r2, r3⟩
  have GO := hid go
  clear go
  go_enter Tryz.func13, Tryz.ntmps13
  go_wp2_with fail
  refine Calls.mono (ahas_calls i hi _) ?_
  rintro e w1 ⟨rfl, rfl⟩
  go_wp2_with fail
  refine Calls.mono (afits_calls own ab mb pb db plb A _ _ _ H.out.1) ?_
  rintro e w1 ⟨rfl, hk1⟩
  rw [HC.out.1]
  have HK1 := hid hk1
  clear hk1
  go_wp2_with fail
  refine Calls.mono (afits_calls own ab mb pb db plb A _ _ _ (H.out.1.still HK1.out)) ?_
  rintro e w2 ⟨rfl, hk2⟩
  rw [HC.out.2]
  have HK2 := hid (HK1.out.trans hk2)
  obtain ⟨p1, p2, p3, p4⟩ := (H.out.1.still HK2.out).head.at hi
  clear hk2
  rcases hcase with e1 | ⟨e1, e2⟩
  · go_wp2_with fail
    go_ret
    exact ⟨rfl, GO.out _ HK2.out⟩
  · go_wp2_with fail
    go_ret
    exact ⟨rfl, GO.out _ HK2.out⟩

set_option maxHeartbeats 1000000 in
set_option maxRecDepth 100000 in
theorem azones_calls (own : Nat → Nat) (ab mb pb db plb : Nat) (A : AreaS) (i : Nat) (hi : i < 3) (w : World) (h : AreAt w own ab mb pb db plb A) :
    Calls Tryz.prog 17 #[.pointer (some ⟨ab, 0, none⟩), .int .i64 i] w fun e w' => e = .returned (.tuple #[.int .i64 (A.cur i), .int .i64 (A.old i)]) ∧ Keeps (fun _ => False) w w' := by
  have H := hid h
  have hc : i = 0 ∨ i = 1 ∨ i = 2 := by omega
  have HF : Hid (∀ W, Keeps (fun _ => False) w W → W.cell? ⟨ab, 1 + i * 2, none⟩ = some (.int .i64 (A.cur i)) ∧ W.cell? ⟨ab, 1 + i * 2 + 1, none⟩ = some (.int .i64 (A.old i))) := hid fun W hW => by
    obtain ⟨p1, p2, p3, p4⟩ := (H.out.still hW).head.at hi
    exact ⟨p1, p2⟩
  clear h
  rcases hc with rfl | rfl | rfl
  all_goals
    simp only [Nat.reduceMul, Nat.reduceAdd] at HF
    go_enter Tryz.func17, Tryz.ntmps17
    go_wp2_with fail
    refine Calls.mono (ahas_calls _ hi _) ?_
    rintro e w1 ⟨rfl, rfl⟩
    go_wp2_with fail
    refine wp_region_still (by kernel_rfl) (by kernel_rfl) ?_
    repeat (first | (refine still_pass ?_ ?_; (focus (first | (go_simp; done) | rfl)); try simp only [Act.put, List.setIfInBounds_toArray, List.set_cons_succ, List.set_cons_zero]) | (apply still_step; (focus (go_simp; done)); (focus (intro W hW; unfold Oper.quietAt; (obtain ⟨c0, c1⟩ := HF.out W hW); go_simp; first | done | with_reducible rfl | fail | exact ⟨rfl, rfl⟩)); try simp only [Act.put, List.setIfInBounds_toArray, List.set_cons_succ, List.set_cons_zero]))
    refine wpQuiet_nil ?_
    intro W hW
    go_wp2_with fail
    go_ret2
    exact ⟨rfl, hW⟩
end Go.Rv

/- Areas: the drive turns; a zone is emptied. -/
namespace Go.Rv
open Go Go.RowKit Go.Proofs
attribute [local irreducible] wpQuiet tab0 tabV

/-- the device's measures are the same. -/
def DriveS.like (D D' : DriveS) : Prop := D'.d.nz = D.d.nz ∧ D'.d.size = D.d.size ∧ D'.d.opn = D.d.opn
theorem DriveS.like.refl (D : DriveS) : D.like D := ⟨rfl, rfl, rfl⟩
theorem DriveS.like.trans {A B C : DriveS} (h : A.like B) (k : B.like C) : A.like C := ⟨k.1.trans h.1, k.2.1.trans h.2.1, k.2.2.trans h.2.2⟩
theorem DriveS.like_happen (D : DriveS) (e : EvS) : D.like (D.happen e) := by
  unfold DriveS.like DriveS.happen DevS.spoil DevS.failz
  simp only []
  refine ⟨?_, ?_, ?_⟩ <;> (repeat' split) <;> rfl
theorem DriveS.like_dueF : ∀ (f : Nat) (D : DriveS), D.like (DriveS.dueF f D)
  | 0, D => .refl D
  | f + 1, D => by
    unfold DriveS.dueF
    split
    · exact .refl D
    · split
      · exact (DriveS.like_happen { D with coming := _ } _).trans (DriveS.like_dueF f _)
      · exact .refl D
theorem DriveS.like_begin (D : DriveS) (z : Int) : D.like (D.begin z) := by
  unfold DriveS.begin
  split
  · exact DriveS.like_dueF _ _
  · exact .refl D
theorem DevS.append_nz (D : DevS) (z : Int) (s : List UInt8) : (D.append z s).1.nz = D.nz ∧ (D.append z s).1.size = D.size ∧ (D.append z s).1.opn = D.opn := by
  have := D.begin_nz z
  unfold DevS.append
  split
  · exact ⟨this.1, this.2.1, this.2.2.2.1⟩
  · split <;> exact ⟨this.1, this.2.1, this.2.2.2.1⟩
theorem DevS.reset_nz (D : DevS) (z : Int) : (D.reset z).1.nz = D.nz ∧ (D.reset z).1.size = D.size ∧ (D.reset z).1.opn = D.opn := by
  have := D.begin_nz z
  unfold DevS.reset
  split <;> exact ⟨this.1, this.2.1, this.2.2.2.1⟩
theorem DevS.finish_nz (D : DevS) (z : Int) : (D.finish z).1.nz = D.nz ∧ (D.finish z).1.size = D.size ∧ (D.finish z).1.opn = D.opn := by
  have := D.begin_nz z
  unfold DevS.finish
  split <;> exact ⟨this.1, this.2.1, this.2.2.2.1⟩
theorem DevS.flush_nz (D : DevS) : D.flush.1.nz = D.nz ∧ D.flush.1.size = D.size ∧ D.flush.1.opn = D.opn := by
  unfold DevS.flush
  split <;> exact ⟨rfl, rfl, rfl⟩
theorem DriveS.like_append (D : DriveS) (z : Int) (s : List UInt8) : D.like (D.append z s).1 := (D.like_begin z).trans (DevS.append_nz _ z s)
theorem DriveS.like_reset (D : DriveS) (z : Int) : D.like (D.reset z).1 := (D.like_begin z).trans (DevS.reset_nz _ z)
theorem DriveS.like_finish (D : DriveS) (z : Int) : D.like (D.finish z).1 := (D.like_begin z).trans (DevS.finish_nz _ z)
theorem DriveS.like_flush (D : DriveS) : D.like D.flush.1 := (DriveS.like_dueF _ _).trans (DevS.flush_nz _)

/-- the drive has turned, and nothing else of the mirror. -/
theorem MirAt.turn {w w' : World} {own own' : Nat → Nat} {mb pb db plb : Nat} {M : MirS} (h : MirAt w own mb pb db plb M) (hs : Step drvTag w own w' own') {D' : DriveS} (hd : DriveAt w' own' pb db D') (hl : M.d.like D') : MirAt w' own' mb pb db plb { M with d := D' } := by
  obtain ⟨⟨bb, bc, cur, h1⟩, h2, h3, h4⟩ := h
  refine ⟨⟨bb, bc, cur, ?_⟩, hd, h3.kept h4.pool.nd.2.1 hs fun t ht hd => tags_apart.2.2 t hd ht, ⟨h4.right, h4.pool, h4.pg, ?_, ?_⟩⟩
  · have := h1.kept hs tags_apart.1
    exact ⟨this.mine, this.mineb, this.heap, this.list, this.elems⟩
  · show (D'.d.nz : Int) = _; rw [hl.1]; exact h4.nz
  · show D'.d.size = _; rw [hl.2.1]; exact h4.size
theorem AreAt.turnd {w w' : World} {own own' : Nat → Nat} {ab mb pb db plb : Nat} {A : AreaS} (h : AreAt w own ab mb pb db plb A) (hs : Step drvTag w own w' own') {D' : DriveS} (hd : DriveAt w' own' pb db D') (hl : A.m.d.like D') : AreAt w' own' ab mb pb db plb ⟨{ A.m with d := D' }, A.cur, A.old⟩ :=
  ⟨h.head.kept hs (by unfold drvTag devTag; omega), h.mir.turn hs hd hl⟩

def DriveS.cleanz (D : DriveS) (z : Int) : DriveS × Int := if D.d.state z = 0 then (D, 0) else D.reset z
theorem DriveS.like_clean (D : DriveS) (z : Int) : D.like (D.cleanz z).1 := by
  unfold DriveS.cleanz
  split
  · exact .refl D
  · exact D.like_reset z

set_option maxHeartbeats 1000000 in
theorem aclean_calls (own : Nat → Nat) (ab mb pb db plb : Nat) (A : AreaS) (z : Int) (w : World) (h : AreAt w own ab mb pb db plb A) (hset : Settled own w) : Calls Tryz.prog 163 #[.pointer (some ⟨ab, 0, none⟩), .int .i64 z] w fun e w' =>
    e = .returned (.int .i64 (A.m.d.cleanz z).2) ∧ ∃ own', AreAt w' own' ab mb pb db plb ⟨{ A.m with d := (A.m.d.cleanz z).1 }, A.cur, A.old⟩ ∧ Step drvTag w own w' own' ∧ Settled own' w' := by
  have H := hid (And.intro h hset)
  obtain ⟨c0, -⟩ := h.head.cells
  have HL := hid (A.m.d.like_clean z)
  unfold DriveS.cleanz
  unfold DriveS.cleanz at HL
  clear h hset
  by_cases k : A.m.d.d.state z = 0
  · rw [if_pos k]
    have b1 : (A.m.d.d.state z == 0) = true := by simpa using k
    clear k HL
    go_enter Tryz.func163, Tryz.ntmps163
    go_wp2_with fail
    refine Calls.mono (mdrive_calls own mb pb db plb A.m _ H.out.1.mir) ?_
    rintro e w1 ⟨rfl, rfl⟩
    go_wp2_with fail
    refine Calls.mono (pdevice_calls own pb db A.m.d _ H.out.1.mir.drive) ?_
    rintro e w1 ⟨rfl, rfl⟩
    go_wp2_with fail
    refine Calls.mono (dstate_calls own db A.m.d.d z _ H.out.1.mir.drive.dev) ?_
    rintro e w1 ⟨rfl, rfl⟩
    go_wp2_with fail
    go_ret
    exact ⟨rfl, own, H.out.1, Step.kept (Keeps.refl _ _) H.out.2⟩
  · rw [if_neg k]
    rw [if_neg k] at HL
    have b1 : (A.m.d.d.state z == 0) = false := by simpa using k
    clear k
    go_enter Tryz.func163, Tryz.ntmps163
    go_wp2_with fail
    refine Calls.mono (mdrive_calls own mb pb db plb A.m _ H.out.1.mir) ?_
    rintro e w1 ⟨rfl, rfl⟩
    go_wp2_with fail
    refine Calls.mono (pdevice_calls own pb db A.m.d _ H.out.1.mir.drive) ?_
    rintro e w1 ⟨rfl, rfl⟩
    go_wp2_with fail
    refine Calls.mono (dstate_calls own db A.m.d.d z _ H.out.1.mir.drive.dev) ?_
    rintro e w1 ⟨rfl, rfl⟩
    go_wp2_with fail
    refine Calls.mono (mdrive_calls own mb pb db plb A.m _ H.out.1.mir) ?_
    rintro e w1 ⟨rfl, rfl⟩
    go_wp2_with fail
    refine Calls.mono (preset_calls own pb db A.m.d z _ H.out.1.mir.drive H.out.2) ?_
    rintro e w1 ⟨rfl, own', hd, hs, hst⟩
    have HX := hid (And.intro hd (And.intro hs hst))
    clear hd hs hst
    go_wp2_with fail
    go_ret
    exact ⟨rfl, own', H.out.1.turnd HX.out.2.1 HX.out.1 HL.out, HX.out.2⟩
end Go.Rv

/- Areas: a copy is written to a zone. -/
namespace Go.Rv
open Go Go.RowKit Go.Proofs
attribute [local irreducible] wpQuiet tab0 tabV
attribute [local go_sem ↓] ld_Sector st_Sector al_Sector
attribute [local go_sem] cellsAt_new0 cellsAt_lt cellsAt_drew size_bytesV

/-- sectors are appended, from place i on. -/
def DriveS.apps (z : Int) : List (List UInt8) → Nat → DriveS → DriveS × Int
  | [], _, D => (D, 0)
  | x :: xs, i, D =>
    if (D.append z x).2.2 ≠ 0 then ((D.append z x).1, (D.append z x).2.2) else if (D.append z x).2.1 ≠ i then ((D.append z x).1, 30) else DriveS.apps z xs (i + 1) (D.append z x).1
def DriveS.fillz (D : DriveS) (z : Int) (l : List (List UInt8)) : DriveS × Int :=
  if (D.cleanz z).2 ≠ 0 then D.cleanz z
  else if (DriveS.apps z l 0 (D.cleanz z).1).2 ≠ 0 then DriveS.apps z l 0 (D.cleanz z).1
  else if (DriveS.apps z l 0 (D.cleanz z).1).1.d.state z = 2 then ((DriveS.apps z l 0 (D.cleanz z).1).1, 0)
  else (DriveS.apps z l 0 (D.cleanz z).1).1.finish z
theorem DriveS.like_apps (z : Int) : ∀ (l : List (List UInt8)) (i : Nat) (D : DriveS), D.like (DriveS.apps z l i D).1
  | [], _, D => .refl D
  | x :: xs, i, D => by
    unfold DriveS.apps
    split
    · exact D.like_append z x
    · split
      · exact D.like_append z x
      · exact (D.like_append z x).trans (DriveS.like_apps z xs _ _)

theorem DriveS.apps_step {z : Int} {S : List UInt8} {xs : List (List UInt8)} {d : Nat} {Dd D3 : DriveS} {off3 r3 : Int} (h : Dd.append z S = (D3, off3, r3)) : DriveS.apps z (S :: xs) d Dd = if r3 ≠ 0 then (D3, r3) else if off3 ≠ d then (D3, 30) else DriveS.apps z xs (d + 1) D3 := by
  conv => lhs; unfold DriveS.apps
  rw [h]
theorem DriveS.fillz_eq {D D1 D2 : DriveS} {z e1 e2 : Int} {L : List (List UInt8)} (h : D.cleanz z = (D1, e1)) (h2 : DriveS.apps z L 0 D1 = (D2, e2)) : D.fillz z L = if e1 ≠ 0 then (D1, e1) else if e2 ≠ 0 then (D2, e2) else if D2.d.state z = 2 then (D2, 0) else D2.finish z := by
  unfold DriveS.fillz
  rw [h]
  simp only []
  rw [h2]
theorem s5_keeps {w w' : World} {a b : Nat} {u v0 v1 v2 v3 : Value} (hk : Keeps (fun _ => False) w w') (h : w.cell? ⟨a, 0, none⟩ = some u ∧ w.cell? ⟨b, 0, none⟩ = some v0 ∧ w.cell? ⟨b, 1, none⟩ = some v1 ∧ w.cell? ⟨b, 2, none⟩ = some v2 ∧ w.cell? ⟨b, 3, none⟩ = some v3) :
    w'.cell? ⟨a, 0, none⟩ = some u ∧ w'.cell? ⟨b, 0, none⟩ = some v0 ∧ w'.cell? ⟨b, 1, none⟩ = some v1 ∧ w'.cell? ⟨b, 2, none⟩ = some v2 ∧ w'.cell? ⟨b, 3, none⟩ = some v3 :=
  ⟨(hk.cell (cell_lt h.1) id).trans h.1, s4_keeps hk h.2⟩

set_option maxHeartbeats 1000000 in
set_option maxRecDepth 100000 in
theorem afill_calls (own : Nat → Nat) (ab mb pb db plb : Nat) (A : AreaS) (t : Nat) (s : SnapS) (M : MapS) (z : Int) (w : World) (h : AreAt w own ab mb pb db plb A) (hset : Settled own w)
    (hm : MapAt w own t s.mb M) (hn : s.nums = true) (hr : (M.l.all fun e => decide (e.seq < s.next)) = true) (hf : ∀ e, e ∈ M.l → e.Fits) (hz : M.g.holds z 0 = true) :
    Calls Tryz.prog 117 #[.pointer (some ⟨ab, 0, none⟩), .agg (snapC s), .int .i64 z] w fun e w' =>
    e = .returned (.int .i64 (A.m.d.fillz z (secsOf tab0 s M z M.g.parts.toNat)).2) ∧ ∃ own', AreAt w' own' ab mb pb db plb ⟨{ A.m with d := (A.m.d.fillz z (secsOf tab0 s M z M.g.parts.toNat)).1 }, A.cur, A.old⟩ ∧ Step drvTag w own w' own' ∧ Settled own' w' := by
  have H := hid (And.intro h (And.intro hset hm))
  have HN := hid (And.intro hn (And.intro hr (And.intro hf hz)))
  have hp : 2 ≤ M.g.parts ∧ M.g.parts ≤ 129 := by have := (M.g.right_small hm.right).b; unfold GeomS.parts; omega
  obtain ⟨np, hnp⟩ : ∃ np : Nat, M.g.parts.toNat = np := ⟨_, rfl⟩
  have hnpb : 2 ≤ np ∧ np ≤ 129 := by omega
  obtain ⟨L, hL⟩ : ∃ L, secsOf tab0 s M z M.g.parts.toNat = L := ⟨_, rfl⟩
  have hLl : L.length = np := by rw [← hL, ← hnp]; simp [secsOf]
  have hL64 : ∀ x, x ∈ L → x.length = 64 := by
    intro x hx
    rw [← hL] at hx
    obtain ⟨k, _, rfl⟩ := List.mem_map.1 hx
    exact secOf_len _ _ _ _ _
  rw [hL]
  have HL := hid (And.intro hnp (And.intro hL (And.intro hLl hL64)))
  obtain ⟨D9, r9, hD9⟩ : ∃ D9 r9, A.m.d.fillz z L = (D9, r9) := ⟨_, _, rfl⟩
  rw [hD9]
  have HD9 := hid hD9
  have hk0 : Keeps (fun _ => False) w (w.alloc (.cells (snapC s) 60)) := (by repeat (first | exact Keeps.refl _ _ | refine Keeps.alloc ?_ _ | refine Keeps.drew ?_ | refine Keeps.drewN ?_ _ | refine Keeps.trans ?_ (by assumption)))
  have hb0 := heap_new w (.cells (snapC s) 60)
  obtain ⟨w0, hw0⟩ : ∃ w0, w.alloc (.cells (snapC s) 60) = w0 := ⟨_, rfl⟩
  rw [hw0] at hk0 hb0
  obtain ⟨c0, c1, c2, c3⟩ := snap_cells hb0
  have hA0 := h.still hk0
  obtain ⟨ca, -⟩ := hA0.head.cells
  have H0 := hid (And.intro hA0 (And.intro (hset.keeps hk0) (And.intro (hm.still hk0) hk0)))
  clear h hset hm hn hr hf hz hp hnp hL hLl hL64 hD9 hk0 hb0 hA0
  unfold snapC at hw0 ⊢
  go_enter Tryz.func117, Tryz.ntmps117
  go_wp2_with fail
  clear hw0
  go_region_held3 (fun X => X.cell? ⟨ab, 0, none⟩ = some (.pointer (some ⟨mb, 0, none⟩)) ∧ X.cell? ⟨w.heap.size, 0, none⟩ = some (.int .i64 s.gen) ∧ X.cell? ⟨w.heap.size, 1, none⟩ = some (.int .i64 s.epoch) ∧ X.cell? ⟨w.heap.size, 2, none⟩ = some (.int .i64 s.next) ∧ X.cell? ⟨w.heap.size, 3, none⟩ = some (.pointer (some ⟨s.mb, 0, none⟩)))
    (repeat (first | assumption | exact ⟨ca, c0, c1, c2, c3⟩ | refine s5_keeps (by assumption) ?_))
    (first | (go_at_call 32; refine Calls.mono (mtable_calls own mb pb db plb A.m _ (H0.out.1.still ((Keeps.refl _ _).drew)).mir) ?_; rintro e w1 ⟨rfl, hk1⟩)
           | (go_at_call 162; refine Calls.mono (sectors_good own t tab0 s M z _ (H0.out.2.2.1.still (Keeps.trans ((Keeps.refl _ _).drew) hk1)) HN.out.1 HN.out.2.1 HN.out.2.2.1 HN.out.2.2.2) ?_; rintro e w2 ⟨sv, rfl, hrow, hk2⟩))
  have hk02 : Keeps (fun _ => False) w w2 := H0.out.2.2.2.trans (Keeps.trans ((Keeps.refl _ _).drew) (hk1.trans hk2))
  have hrow2 : RowAt w2 (fun k => own k = 0) 103 64 sv np (cellsOf L) := by
    rw [HL.out.2.1, HL.out.1] at hrow
    refine hrow.imp fun k _ hk => H.out.2.1 k ?_
    have := H0.out.2.2.2.size
    have := hk1.size
    have e : w0.drew.heap.size = w0.heap.size := rfl
    omega
  obtain ⟨a7, cap7, rfl⟩ := hrow2.slice
  have H2 := hid (And.intro hrow2 hk02)
  obtain ⟨D1, e1, hc⟩ : ∃ D1 e1, A.m.d.cleanz z = (D1, e1) := ⟨_, _, rfl⟩
  have hcl := aclean_calls own ab mb pb db plb A z w2 (H.out.1.still hk02) (H.out.2.1.keeps hk02)
  rw [hc] at hcl
  have HCL := hid hcl
  have HC := hid hc
  clear hk1 hk2 hrow hrow2 hk02 hc hcl ca c0 c1 c2 c3
  go_wp2_with fail
  refine Calls.mono HCL.out ?_
  rintro e w3 ⟨rfl, own3, hA3, hs3, hset3⟩
  have H3 := hid (And.intro hA3 (And.intro ((Step.kept (A := drvTag) (H2.out.2.mono fun _ _ h => h.elim) H.out.2.1).1.trans hs3) (And.intro hset3 (hs3.row H2.out.1 (by unfold drvTag devTag; omega)))))
  clear hA3 hs3 hset3
  simp only [] at *
  by_cases k1 : e1 = 0
  · subst k1
    obtain ⟨D2, e2, ha⟩ : ∃ D2 e2, DriveS.apps z L 0 D1 = (D2, e2) := ⟨_, _, rfl⟩
    have HA := hid ha
    clear ha
    go_wp2_with fail
    go_loopg [36] np (fun (gk : Nat) (i : Value) (wr : World) => ∃ (d : Nat) (Dd : DriveS) (ownd : Nat → Nat), d + gk = np ∧ i = .int .i64 d ∧ AreAt wr ownd ab mb pb db plb ⟨{ A.m with d := Dd }, A.cur, A.old⟩ ∧ Step drvTag w own wr ownd ∧ Settled ownd wr ∧ RowAt wr (fun k => ownd k = 0) 103 64 (.slice a7 np cap7) np (cellsOf L) ∧ DriveS.apps z (L.drop d) d Dd = (D2, e2))
    case atStart => exact ⟨0, D1, own3, by omega, rfl, H3.out.1, H3.out.2.1, H3.out.2.2.1, H3.out.2.2.2, HA.out⟩
    case round =>
      obtain ⟨d, Dd, ownd, hd, rfl, hA, hst, hset, hrw, hap⟩ := hrel
      obtain ⟨ca, -⟩ := hA.head.cells
      have HX := hid (And.intro hA (And.intro hst (And.intro hset (And.intro hrw hap))))
      clear hA hst hset hrw hap
      by_cases c : d < np
      · have dd : decide (d < np) = true := by simpa using c
        obtain ⟨g, rfl, hg0, hcs, -⟩ := sector_at HX.out.2.2.2.1 HL.out.2.2.1.symm HL.out.2.2.2 d (by have := HL.out.2.2.1; omega)
        have hdL : d < L.length := by have := HL.out.2.2.1; omega
        have hs64 := HL.out.2.2.2 _ (List.getElem_mem hdL)
        have hdrop : L.drop d = L[d] :: L.drop (d + 1) := List.drop_eq_getElem_cons hdL
        have HDR := hid hdrop
        have hg : g < wr.heap.size := by
          unfold cellsAt at hcs
          cases hx : wr.heap[g]? with
          | none => simp [hx] at hcs
          | some o => exact lt_of hx
        clear hdrop
        generalize L[d] = S at *
        have hn1 := heap_new wr (.cells z_Sector 103)
        have e5 := cellsFree_full (n := 64) hn1 rfl
        have e6 : (bytesV S).size = 64 := by simp [bytesV, hs64]
        have e7 := allOne_bytes S
        have hn2 := putCells_at hn1 (show z_Sector.size = (bytesV S).size by rw [e6]; rfl)
        have hkp : Keeps (fun _ => False) wr (putCells (wr.alloc (.cells z_Sector 103)) ⟨wr.heap.size, 0, none⟩ (bytesV S)) := keeps_put0 (by repeat (first | exact Keeps.refl _ _ | refine Keeps.alloc ?_ _ | refine Keeps.drew ?_ | refine Keeps.drewN ?_ _ | refine Keeps.trans ?_ (by assumption))) (fun h => absurd h (Nat.lt_irrefl _)) _
        obtain ⟨w4, hw4⟩ : ∃ w4, putCells (wr.alloc (.cells z_Sector 103)) ⟨wr.heap.size, 0, none⟩ (bytesV S) = w4 := ⟨_, rfl⟩
        rw [hw4] at hn2 hkp
        have HK4 := hid (And.intro hkp hn2)
        have ca4 := (hkp.cell (lt_of HX.out.1.head.heap) id).trans ca
        have d1 : w4.rangeAt wr.heap.size 0 (S.map byteV) := fun j v hv => by
          rw [Nat.zero_add, cell_of hn2 j]; simpa [bytesV] using hv
        have hun := Tryz.underlying103
        have hin : (Tryz.prog.info? 103).map (·.size) = some (S.map byteV).length := by
          rw [List.length_map, hs64]; kernel_rfl
        have hbv : (S.map byteV).toArray = bytesV S := rfl
        obtain ⟨D3, off3, r3, hap3⟩ : ∃ D3 off3 r3, Dd.append z S = (D3, off3, r3) := ⟨_, _, _, rfl⟩
        have hpa : ∀ X, Keeps (fun _ => False) w4 X → Calls Tryz.prog 164 #[.pointer (some ⟨pb, 0, none⟩), .int .i64 z, .agg (bytesV S)] X fun e w' => e = .returned (.tuple #[.int .i64 off3, .int .i64 r3]) ∧ ∃ own', AreAt w' own' ab mb pb db plb ⟨{ A.m with d := D3 }, A.cur, A.old⟩ ∧ Step drvTag w own w' own' ∧ Settled own' w' ∧ RowAt w' (fun k => own' k = 0) 103 64 (.slice (some ⟨g, 0, none⟩) np cap7) np (cellsOf L) ∧ (w'.cell? ⟨ab, 0, none⟩ = some (.pointer (some ⟨mb, 0, none⟩)) ∧ w'.rangeAt wr.heap.size 0 (S.map byteV)) := fun X hX => by
          have hkX := HK4.out.1.trans hX
          have hAX := HX.out.1.still hkX
          have hsX := HX.out.2.2.1.keeps hkX
          have hl := Dd.like_append z S
          refine (pappend_calls ownd pb db Dd z S hs64 X hAX.mir.drive hsX).mono ?_
          rw [hap3] at hl ⊢
          rintro e w' ⟨rfl, own', hd', hs', hset'⟩
          have hA' := hAX.turnd hs' hd' hl
          have hs0 := (Step.kept (A := drvTag) (hkX.mono fun _ _ h => h.elim) HX.out.2.2.1).1
          have hrow' := hs'.row ((HX.out.2.2.2.1).keeps hkX fun _ _ => id) (by unfold drvTag devTag; omega)
          refine ⟨rfl, own', hA', (HX.out.2.1.trans hs0).trans hs', hset', hrow', hA'.head.cells.1, fun j v hv => ?_⟩
          have hblk := hs'.heap (hX.heap HK4.out.2 id) (by rw [HX.out.2.2.1 _ (Nat.le_refl _)]; unfold drvTag devTag; omega)
          rw [Nat.zero_add, cell_of hblk j]; simpa [bytesV] using hv
        have HPA := hid hpa
        have HAP := hid hap3
        clear hpa hn1 hn2 hkp hap3
        go_wp2_with fail
        clear hw4 hcs e5
        go_region_held3 (fun X => X.cell? ⟨ab, 0, none⟩ = some (.pointer (some ⟨mb, 0, none⟩)) ∧ X.rangeAt wr.heap.size 0 (S.map byteV)) (repeat (first | assumption | exact ⟨ca4, d1⟩))
          (first | (go_at_call 31; refine Calls.mono (mdrive_calls ownd mb pb db plb { A.m with d := Dd } _ (HX.out.1.still (HK4.out.1.trans ((Keeps.refl _ _).drew))).mir) ?_; rintro e w5 ⟨rfl, rfl⟩)
                 | (go_at_call 164; refine Calls.mono (HPA.out _ ((Keeps.refl _ _).drew)) ?_; rintro e w5 ⟨rfl, own5, hA5, hs5, hset5, hrow5, hS5⟩; have HY := hid (And.intro hA5 (And.intro hs5 (And.intro hset5 hrow5))); clear hA5 hs5 hset5 hrow5))
        all_goals
          have hsp := HX.out.2.2.2.2
          rw [HDR.out, DriveS.apps_step HAP.out] at hsp
          have HSP := hid hsp
          clear hsp hS5
          by_cases k3 : r3 = 0
          · subst k3
            by_cases k4 : off3 = d
            · subst k4
              go_wp2_with fail
              go_roundg (gk - 1)
              case measure => omega
              case rel =>
                refine ⟨d + 1, D3, own5, by omega, by go_num, HY.out.1, HY.out.2.1, HY.out.2.2.1, HY.out.2.2.2, ?_⟩
                have := HSP.out
                rwa [if_neg (by simp), if_neg (by simp)] at this
            · have b2 : (off3 != (d : Int)) = true := by simpa using k4
              have h9 := DriveS.fillz_eq HC.out HA.out
              have hsp := HSP.out
              rw [if_neg (by simp), if_pos k4] at hsp
              have h9' : D9 = D3 ∧ r9 = 30 := by
                cases hsp
                rw [HD9.out, if_neg (by simp), if_pos (by simp)] at h9
                cases h9; exact ⟨rfl, rfl⟩
              have H9 := hid h9'
              clear h9 h9' hsp k4
              go_wp2_with fail
              go_ret
              refine ⟨ret_z H9.out.2.symm, own5, ?_, HY.out.2.1, HY.out.2.2.1⟩
              rw [H9.out.1]; exact HY.out.1
          · have b2 : (r3 != 0) = true := by simpa using k3
            have b1 : (r3 == 0) = false := by simpa using k3
            have h9 := DriveS.fillz_eq HC.out HA.out
            have hsp := HSP.out
            rw [if_pos k3] at hsp
            have h9' : D9 = D3 ∧ r9 = r3 := by
              cases hsp
              rw [HD9.out, if_neg (by simp), if_pos k3] at h9
              cases h9; exact ⟨rfl, rfl⟩
            have H9 := hid h9'
            clear h9 h9' hsp k3
            go_wp2_with fail
            go_ret
            refine ⟨ret_z H9.out.2.symm, own5, ?_, HY.out.2.1, HY.out.2.2.1⟩
            rw [H9.out.1]; exact HY.out.1
      · have dd : decide (d < np) = false := by simpa using c
        have hdn : d = np := by omega
        subst hdn
        have h9 := DriveS.fillz_eq HC.out HA.out
        have hsp := HX.out.2.2.2.2
        rw [List.drop_of_length_le (by have := HL.out.2.2.1; omega)] at hsp
        have h2' : D2 = Dd ∧ e2 = 0 := by cases hsp; exact ⟨rfl, rfl⟩
        rw [h2'.1, h2'.2, HD9.out, if_neg (by simp), if_neg (by simp)] at h9
        have H9 := hid h9
        clear h9 hsp h2'
        go_wp2_with fail
        refine Calls.mono (mdrive_calls ownd mb pb db plb _ _ HX.out.1.mir) ?_
        rintro e w5 ⟨rfl, rfl⟩
        go_wp2_with fail
        refine Calls.mono (pdevice_calls ownd pb db _ _ HX.out.1.mir.drive) ?_
        rintro e w5 ⟨rfl, rfl⟩
        go_wp2_with fail
        refine Calls.mono (dstate_calls ownd db _ z _ HX.out.1.mir.drive.dev) ?_
        rintro e w5 ⟨rfl, rfl⟩
        by_cases k5 : Dd.d.state z = 2
        · have b5 : (Dd.d.state z == 2) = true := by simpa using k5
          have h9' : D9 = Dd ∧ r9 = 0 := by
            have := H9.out
            rw [if_pos k5] at this
            cases this; exact ⟨rfl, rfl⟩
          have H9' := hid h9'
          clear h9' k5
          go_wp2_with fail
          go_ret
          refine ⟨ret_z H9'.out.2.symm, ownd, ?_, HX.out.2.1, HX.out.2.2.1⟩
          rw [H9'.out.1]; exact HX.out.1
        · have b5 : (Dd.d.state z == 2) = false := by simpa using k5
          have h9' : (D9, r9) = Dd.finish z := by
            have := H9.out
            rwa [if_neg k5] at this
          have H9' := hid h9'
          clear h9' k5
          go_wp2_with fail
          refine Calls.mono (mdrive_calls ownd mb pb db plb _ _ HX.out.1.mir) ?_
          rintro e w5 ⟨rfl, rfl⟩
          go_wp2_with fail
          refine Calls.mono (pfinish_calls ownd pb db Dd z _ HX.out.1.mir.drive HX.out.2.2.1) ?_
          rintro e w5 ⟨rfl, own5, hd5, hs5, hset5⟩
          have HY := hid (And.intro hd5 (And.intro hs5 hset5))
          clear hd5 hs5 hset5
          go_wp2_with fail
          go_ret
          have hf := H9'.out
          refine ⟨ret_z (by rw [← hf]), own5, ?_, HX.out.2.1.trans HY.out.2.1, HY.out.2.2⟩
          have e9 : D9 = (Dd.finish z).1 := by rw [← hf]
          rw [e9]
          exact HX.out.1.turnd HY.out.2.1 HY.out.1 (Dd.like_finish z)
  · have b1 : (e1 != 0) = true := by simpa using k1
    have h9 : A.m.d.fillz z L = (D1, e1) := by
      unfold DriveS.fillz
      rw [HC.out, if_pos k1]
    have h9' : D9 = D1 ∧ r9 = e1 := by
      rw [HD9.out] at h9
      cases h9; exact ⟨rfl, rfl⟩
    have H9 := hid h9'
    clear h9 h9' k1
    go_wp2_with fail
    go_ret
    refine ⟨ret_z H9.out.2.symm, own3, ?_, H3.out.2.1, H3.out.2.2.1⟩
    rw [H9.out.1]; exact H3.out.1
end Go.Rv
