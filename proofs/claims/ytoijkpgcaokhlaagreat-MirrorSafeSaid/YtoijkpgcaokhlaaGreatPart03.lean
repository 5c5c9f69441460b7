/- Results that lie in memory; whole blocks written at once. -/
import Derived.Test.YtoijkpgcaokhlaaGreatPart01
import Derived.Test.YtoijkpgcaokhlaaGreatPart02
import Derived.Deep.DeepCutAuto
import Derived.Deep.QuietTactic
import Derived.BigQuiet
set_option linter.unusedVariables false
set_option linter.unusedSimpArgs false
namespace Go.Rv
open Go Go.RowKit Go.Proofs

section
variable {P : Program} {fn : Func} {t u : Tmp} {ty : TypeId} {n : Nat} {a : Addr} {cs : Array Value} {w : World}
theorem results_cell2 (h : fn.results = #[.cell t ty, .tmp u]) (hr : RowTy P ty n) (tmps : Array Value) (ha : tmps.getD t undef = .pointer (some a)) (hc : cellsAt w a n = some cs) :
    (results fn tmps).run P w = .ok (.tuple #[.agg cs, tmps.getD u undef]) w := by
  have ha' : tmps[t]?.getD undef = .pointer (some a) := by simpa using ha
  simp [results, h, asAddr, ha', run_loadVar_cells w a ty n hr hc]
theorem results_cell1 (h : fn.results = #[.cell t ty]) (hr : RowTy P ty n) (tmps : Array Value) (ha : tmps.getD t undef = .pointer (some a)) (hc : cellsAt w a n = some cs) :
    (results fn tmps).run P w = .ok (.agg cs) w := by
  have ha' : tmps[t]?.getD undef = .pointer (some a) := by simpa using ha
  simp [results, h, asAddr, ha', run_loadVar_cells w a ty n hr hc]
end

theorem putCells_at {w : World} {b : Nat} {c cs : Array Value} {e : TypeId} (h : w.heap[b]? = some (.cells c e (0, 0))) (hs : c.size = cs.size) : (putCells w ⟨b, 0, none⟩ cs).heap[b]? = some (.cells cs e (0, 0)) := by
  have hc : splice c 0 cs = cs := by
    apply Array.ext_getElem?
    intro j
    unfold splice
    rw [get_spliceL _ _ _ _ (by simp [hs])]
    by_cases hj : j < cs.size
    · simp [hj]
    · simp [hj]; omega
  simp [putCells, Array.getElem?_modify, h, hc]
theorem putCells_ne (w : World) {b k : Nat} (o : Nat) (cs : Array Value) (h : k ≠ b) : (putCells w ⟨b, o, none⟩ cs).heap[k]? = w.heap[k]? := by
  simp [putCells, Array.getElem?_modify, Ne.symm h]
theorem cellsAt_full {w : World} {b : Nat} {c : Array Value} {e : TypeId} {n : Nat} (h : w.heap[b]? = some (.cells c e (0, 0))) (hn : c.size = n) : cellsAt w ⟨b, 0, none⟩ n = some c := cellsAt_whole h n hn.symm
theorem cellsFree_full {w : World} {b : Nat} {c : Array Value} {e : TypeId} {n : Nat} (h : w.heap[b]? = some (.cells c e (0, 0))) (hn : c.size = n) : cellsFree w ⟨b, 0, none⟩ n = true := by
  simp [cellsFree, h, hn]
theorem keeps_put0 {M : Nat → Prop} {a w : World} (h : Keeps M a w) {b o : Nat} (hb : b < a.heap.size → M b) (cs : Array Value) : Keeps M a (putCells w ⟨b, o, none⟩ cs) :=
  h.trans' (N := fun k => k = b) ⟨rfl, rfl, rfl, by simp [putCells], fun k _ hk => putCells_ne w o cs hk⟩ fun i hi hn => by subst hn; exact hb hi
theorem allOne_bytes (s : List UInt8) : allOne (bytesV s) = true := by
  simp only [allOne, bytesV, List.all_eq_true]
  intro v hv
  simp only [List.mem_map] at hv
  obtain ⟨b, _, rfl⟩ := hv
  rfl
end Go.Rv

/- Zones: reading. -/
namespace Go.Rv
open Go Go.RowKit Go.Proofs
attribute [local go_sem ↓] ld_Sector st_Sector al_Sector bs_Sector
attribute [local go_sem] cellsAt_new0 cellsAt_lt cellsAt_drew size_bytesV

def zero64 : List UInt8 := List.replicate 64 0
def ZoneS.read (Z : ZoneS) (off : Int) : List UInt8 × Int := if Z.state = 4 then (zero64, 32) else if off < 0 ∨ Z.l.length ≤ off then (zero64, 31) else (Z.l.getD off.toNat [], 0)

theorem z_zero64 : z_Sector = bytesV zero64 := by kernel_rfl

theorem cellsOf_at : ∀ (l : List (List UInt8)) (_ : ∀ s, s ∈ l → s.length = 64) (k : Nat) (hk : k < l.length), ((cellsOf l).drop (k * 64)).take 64 = l[k].map byteV
  | [], _, k, hk => by simp at hk
  | s :: l, h, 0, hk => by
    have := h s (by simp)
    have e : cellsOf (s :: l) = s.map byteV ++ cellsOf l := by simp [cellsOf]
    rw [e, Nat.zero_mul, List.drop_zero, List.take_append_of_le_length (by simp; omega), List.take_of_length_le (by simp; omega)]
    rfl
  | s :: l, h, k + 1, hk => by
    have h1 := h s (by simp)
    have e : cellsOf (s :: l) = s.map byteV ++ cellsOf l := by simp [cellsOf]
    rw [e, List.drop_append, List.drop_of_length_le (by simp; omega)]
    have ih := cellsOf_at l (fun x hx => h x (by simp [hx])) k (by simpa using hk)
    rw [List.nil_append, show (k + 1) * 64 - (s.map byteV).length = k * 64 by simp; omega, ih]
    rfl

theorem sector_at {w : World} {P : Nat → Prop} {e : TypeId} {a : Option Addr} {m cap n : Nat} {l : List (List UInt8)} (h : RowAt w P e 64 (.slice a m cap) n (cellsOf l)) (hn : n = l.length) (h64 : ∀ s, s ∈ l → s.length = 64) (k : Nat) (hk : k < l.length) :
    ∃ g, a = some ⟨g, 0, none⟩ ∧ P g ∧ cellsAt w ⟨g, k * 64, none⟩ 64 = some (bytesV l[k]) ∧ cellsFree w ⟨g, k * 64, none⟩ 64 = true := by
  obtain ⟨h1, ⟨_, _, h2⟩ | ⟨g, cap', cur, hv, hp, hh, h3, h4, h5, h6⟩⟩ := h
  · omega
  · cases hv
    have hle : k * 64 + 64 ≤ cur.size := by rw [h5]; omega
    refine ⟨g, rfl, hp, ?_, by simp [cellsFree, hh, hle]⟩
    rw [cellsAt_row hh _ _ hle]
    congr 1
    apply Array.toList_inj.1
    have q := cellsOf_at l h64 k hk
    rw [← h6, List.drop_take, List.take_take, Nat.min_eq_left (by omega)] at q
    simp only [bytesV, ← q, Array.toList_extract, List.extract_eq_take_drop]
    congr 1
    omega

set_option maxHeartbeats 1000000 in
set_option maxRecDepth 100000 in
theorem zread_calls (own : Nat → Nat) (t zb : Nat) (size : Int) (Z : ZoneS) (sv : Value) (off : Int) (w : World) (h : ZoneAt w own t zb size Z sv) (h64 : ∀ s, s ∈ Z.l → s.length = 64) :
   Calls Tryz.prog 213 #[.pointer (some ⟨zb, 0, none⟩), .int .i64 off] w fun e w' => e = .returned (.tuple #[secV (Z.read off).1, .int .i64 (Z.read off).2]) ∧ Keeps (fun _ => False) w w' := by
  obtain ⟨a, cap, hsv⟩ := h.row.slice
  subst hsv
  obtain ⟨c0, c1, c2, c3, c4, f0, f2, f3, f4, hb⟩ := zcells h
  have H := hid h
  clear h
  by_cases k4 : Z.state = 4
  · have b4 : (Z.state == 4) = true := by simpa using k4
    have hz : Z.read off = (zero64, 32) := by unfold ZoneS.read; rw [if_pos k4]
    rw [hz]
    clear hz k4
    go_enter Tryz.func213, Tryz.ntmps213
    go_upto_region 2 with (fail)
    obtain ⟨W, hW⟩ : ∃ W, (w.alloc (.cells z_Sector 103)).alloc (.cells z_Sector 103) = W := ⟨_, rfl⟩
    have hK : Keeps (fun _ => False) w W := by rw [← hW]; exact (by repeat (first | exact Keeps.refl _ _ | refine Keeps.alloc ?_ _ | refine Keeps.drew ?_ | refine Keeps.drewN ?_ _ | refine Keeps.trans ?_ (by assumption)))
    have h1 : W.heap[w.heap.size]? = some (.cells (bytesV zero64) 103 (0, 0)) := by rw [← hW, ← z_zero64]; exact heap_old _ _ (heap_new _ _)
    have h2 : W.heap[w.heap.size + 1]? = some (.cells (bytesV zero64) 103 (0, 0)) := by
      rw [← hW, ← z_zero64]; have := heap_new (w.alloc (.cells z_Sector 103)) (.cells z_Sector 103); rwa [World.size_alloc] at this
    rw [hW]
    have e1 := cellsAt_full (n := 64) h2 rfl
    have e2 := cellsFree_full (n := 64) h1 rfl
    have e3 := allOne_bytes zero64
    have e4 : (bytesV zero64).size = 64 := rfl
    have k3 : W.cell? ⟨zb, 3, none⟩ = some (.int .i64 Z.state) := (hK.cell hb id).trans c3
    have k0 : W.cell? ⟨zb, 0, none⟩ = some (.slice a Z.l.length cap) := (hK.cell hb id).trans c0
    have HK := hid hK
    have H1 := hid h1
    clear hK h1 h2 hW c0 c1 c2 c3 c4
    go_wp2_with fail
    refine bodyPost_ret (results_cell2 rfl row_Sector _ rfl (cellsAt_full (putCells_at H1.out rfl) rfl)) rfl ⟨rfl, keeps_put0 HK.out (fun h => absurd h (Nat.lt_irrefl _)) _⟩
  · have b4 : (Z.state == 4) = false := by simpa using k4
    by_cases k5 : off < 0 ∨ Z.l.length ≤ off
    · have hz : Z.read off = (zero64, 31) := by unfold ZoneS.read; rw [if_neg k4, if_pos k5]
      rw [hz]
      clear hz k4
      by_cases k6 : off < 0
      · have d6 : decide (off < 0) = true := by simpa using k6
        clear k5 k6
        go_enter Tryz.func213, Tryz.ntmps213
        go_upto_region 2 with (fail)
        obtain ⟨W, hW⟩ : ∃ W, (w.alloc (.cells z_Sector 103)).alloc (.cells z_Sector 103) = W := ⟨_, rfl⟩
        have hK : Keeps (fun _ => False) w W := by rw [← hW]; exact (by repeat (first | exact Keeps.refl _ _ | refine Keeps.alloc ?_ _ | refine Keeps.drew ?_ | refine Keeps.drewN ?_ _ | refine Keeps.trans ?_ (by assumption)))
        have h1 : W.heap[w.heap.size]? = some (.cells (bytesV zero64) 103 (0, 0)) := by rw [← hW, ← z_zero64]; exact heap_old _ _ (heap_new _ _)
        have h2 : W.heap[w.heap.size + 1]? = some (.cells (bytesV zero64) 103 (0, 0)) := by
          rw [← hW, ← z_zero64]; have := heap_new (w.alloc (.cells z_Sector 103)) (.cells z_Sector 103); rwa [World.size_alloc] at this
        rw [hW]
        have e1 := cellsAt_full (n := 64) h2 rfl
        have e2 := cellsFree_full (n := 64) h1 rfl
        have e3 := allOne_bytes zero64
        have e4 : (bytesV zero64).size = 64 := rfl
        have k3 : W.cell? ⟨zb, 3, none⟩ = some (.int .i64 Z.state) := (hK.cell hb id).trans c3
        have k0 : W.cell? ⟨zb, 0, none⟩ = some (.slice a Z.l.length cap) := (hK.cell hb id).trans c0
        have HK := hid hK
        have H1 := hid h1
        clear hK h1 h2 hW c0 c1 c2 c3 c4
        go_wp2_with fail
        refine bodyPost_ret (results_cell2 rfl row_Sector _ rfl (cellsAt_full (putCells_at H1.out rfl) rfl)) rfl ⟨rfl, keeps_put0 HK.out (fun h => absurd h (Nat.lt_irrefl _)) _⟩
      · have d6 : decide (off < 0) = false := by simpa using k6
        have d7 : decide ((Z.l.length : Int) ≤ off) = true := by simp; omega
        clear k5 k6
        go_enter Tryz.func213, Tryz.ntmps213
        go_upto_region 2 with (fail)
        obtain ⟨W, hW⟩ : ∃ W, (w.alloc (.cells z_Sector 103)).alloc (.cells z_Sector 103) = W := ⟨_, rfl⟩
        have hK : Keeps (fun _ => False) w W := by rw [← hW]; exact (by repeat (first | exact Keeps.refl _ _ | refine Keeps.alloc ?_ _ | refine Keeps.drew ?_ | refine Keeps.drewN ?_ _ | refine Keeps.trans ?_ (by assumption)))
        have h1 : W.heap[w.heap.size]? = some (.cells (bytesV zero64) 103 (0, 0)) := by rw [← hW, ← z_zero64]; exact heap_old _ _ (heap_new _ _)
        have h2 : W.heap[w.heap.size + 1]? = some (.cells (bytesV zero64) 103 (0, 0)) := by
          rw [← hW, ← z_zero64]; have := heap_new (w.alloc (.cells z_Sector 103)) (.cells z_Sector 103); rwa [World.size_alloc] at this
        rw [hW]
        have e1 := cellsAt_full (n := 64) h2 rfl
        have e2 := cellsFree_full (n := 64) h1 rfl
        have e3 := allOne_bytes zero64
        have e4 : (bytesV zero64).size = 64 := rfl
        have k3 : W.cell? ⟨zb, 3, none⟩ = some (.int .i64 Z.state) := (hK.cell hb id).trans c3
        have k0 : W.cell? ⟨zb, 0, none⟩ = some (.slice a Z.l.length cap) := (hK.cell hb id).trans c0
        have HK := hid hK
        have H1 := hid h1
        clear hK h1 h2 hW c0 c1 c2 c3 c4
        go_wp2_with fail
        refine bodyPost_ret (results_cell2 rfl row_Sector _ rfl (cellsAt_full (putCells_at H1.out rfl) rfl)) rfl ⟨rfl, keeps_put0 HK.out (fun h => absurd h (Nat.lt_irrefl _)) _⟩
    · obtain ⟨k, rfl⟩ : ∃ k : Nat, off = k := ⟨off.toNat, by omega⟩
      have hk : k < Z.l.length := by omega
      have d6 : decide ((k : Int) < 0) = false := by simp
      have d7 : decide ((Z.l.length : Int) ≤ k) = false := by simp; omega
      have d8 : decide (Z.l.length ≤ k) = false := by simp; omega
      have hz : Z.read k = (Z.l[k], 0) := by unfold ZoneS.read; rw [if_neg k4, if_neg k5]; simp [hk]
      rw [hz]
      clear hz k4 k5
      go_enter Tryz.func213, Tryz.ntmps213
      go_upto_region 2 with (fail)
      obtain ⟨W, hW⟩ : ∃ W, (w.alloc (.cells z_Sector 103)).alloc (.cells z_Sector 103) = W := ⟨_, rfl⟩
      have hK : Keeps (fun _ => False) w W := by rw [← hW]; exact (by repeat (first | exact Keeps.refl _ _ | refine Keeps.alloc ?_ _ | refine Keeps.drew ?_ | refine Keeps.drewN ?_ _ | refine Keeps.trans ?_ (by assumption)))
      have h1 : W.heap[w.heap.size]? = some (.cells (bytesV zero64) 103 (0, 0)) := by rw [← hW, ← z_zero64]; exact heap_old _ _ (heap_new _ _)
      have h2 : W.heap[w.heap.size + 1]? = some (.cells (bytesV zero64) 103 (0, 0)) := by
        rw [← hW, ← z_zero64]; have := heap_new (w.alloc (.cells z_Sector 103)) (.cells z_Sector 103); rwa [World.size_alloc] at this
      rw [hW]
      have e1 := cellsAt_full (n := 64) h2 rfl
      have e2 := cellsFree_full (n := 64) h1 rfl
      have e3 := allOne_bytes zero64
      have e4 : (bytesV zero64).size = 64 := rfl
      have k3 : W.cell? ⟨zb, 3, none⟩ = some (.int .i64 Z.state) := (hK.cell hb id).trans c3
      have k0 : W.cell? ⟨zb, 0, none⟩ = some (.slice a Z.l.length cap) := (hK.cell hb id).trans c0
      have HK := hid hK
      have H1 := hid h1
      clear hK h1 h2 hW c0 c1 c2 c3 c4
      obtain ⟨g, rfl, -, e5, -⟩ := sector_at (H.out.row.keeps HK.out (fun _ _ => id)) rfl h64 k hk
      have e6 := allOne_bytes Z.l[k]
      have e7 : (bytesV Z.l[k]).size = 64 := by simp [bytesV, h64 _ (List.getElem_mem hk)]
      go_wp2_with fail
      refine bodyPost_ret (results_cell2 rfl row_Sector _ rfl (cellsAt_full (putCells_at H1.out (by rw [e7]; rfl)) e7)) rfl ⟨rfl, keeps_put0 HK.out (fun h => absurd h (Nat.lt_irrefl _)) _⟩
end Go.Rv

/- Devices: what they hold, in memory; the reading functions. -/
namespace Go.Rv
open Go Go.RowKit Go.Proofs

theorem ret_z {k : IntKind} {a b : Int} (h : a = b) : Ending.returned (.int k a) = .returned (.int k b) := by rw [h]

structure DevS where
  nz : Nat
  size : Int
  opn : Int
  n : Int
  down : Bool
  z : Nat → ZoneS
def DevS.setz (D : DevS) (i : Nat) (Z : ZoneS) : DevS := { D with z := fun k => if k = i then Z else D.z k }

structure DevS.Ok (D : DevS) : Prop where
  nz : 1 ≤ D.nz ∧ D.nz ≤ 512
  size : 1 ≤ D.size ∧ D.size ≤ 64
  opn : 1 ≤ D.opn ∧ D.opn ≤ 64
  len : ∀ i, i < D.nz → ((D.z i).l.length : Int) ≤ D.size
  sec : ∀ i, i < D.nz → ∀ s, s ∈ (D.z i).l → s.length = 64

/-- the owners of a device's blocks. -/
def devTag (t : Nat) : Prop := t = 1 ∨ 1000 ≤ t

structure DevHead (w : World) (own : Nat → Nat) (db : Nat) (D : DevS) (lb lc : Nat) (cur : Array Value) (zb : Nat → Nat) : Prop where
  mine : own db = 1
  minel : own lb = 1
  heap : w.heap[db]? = some (.cells #[.slice (some ⟨lb, 0, none⟩) D.nz lc, .int .i64 D.size, .int .i64 D.opn, .int .i64 D.n, .bool D.down] 183 (0, 0))
  list : w.heap[lb]? = some (.cells cur 180 (0, 0))
  elems : ∀ i, i < D.nz → cur[i]? = some (.pointer (some ⟨zb i, 0, none⟩))

def ZsAt (w : World) (own : Nat → Nat) (D : DevS) (zb : Nat → Nat) : Prop := ∀ i, i < D.nz → ∃ sv, ZoneAt w own (1000 + i) (zb i) D.size (D.z i) sv

structure DevAt (w : World) (own : Nat → Nat) (db : Nat) (D : DevS) : Prop where
  ex : ∃ lb lc cur zb, DevHead w own db D lb lc cur zb ∧ ZsAt w own D zb

theorem DevHead.keeps {w w' : World} {own : Nat → Nat} {db : Nat} {D : DevS} {lb lc : Nat} {cur : Array Value} {zb : Nat → Nat} {M : Nat → Prop} (h : DevHead w own db D lb lc cur zb) (hk : Keeps M w w') (h1 : ¬ M db) (h2 : ¬ M lb) : DevHead w' own db D lb lc cur zb :=
  ⟨h.mine, h.minel, hk.heap h.heap h1, hk.heap h.list h2, h.elems⟩

theorem DevAt.keeps {w w' : World} {own : Nat → Nat} {db : Nat} {D : DevS} {M : Nat → Prop} (h : DevAt w own db D) (hk : Keeps M w w') (hM : ∀ k, devTag (own k) → ¬ M k) : DevAt w' own db D := by
  obtain ⟨lb, lc, cur, zb, h1, h2⟩ := h
  refine ⟨lb, lc, cur, zb, h1.keeps hk (hM _ (.inl h1.mine)) (hM _ (.inl h1.minel)), fun i hi => ?_⟩
  obtain ⟨sv, hz⟩ := h2 i hi
  exact ⟨sv, hz.keeps hk fun k e => hM k (.inr (by omega))⟩
theorem DevAt.kept {w w' : World} {own own' : Nat → Nat} {db : Nat} {D : DevS} {A : Nat → Prop} (h : DevAt w own db D) (hs : Step A w own w' own') (hA : ∀ t, devTag t → ¬ A t) : DevAt w' own' db D := by
  obtain ⟨lb, lc, cur, zb, h1, h2⟩ := h
  refine ⟨lb, lc, cur, zb, ⟨hs.own h1.heap h1.mine, hs.own h1.list h1.minel, hs.heap h1.heap (by rw [h1.mine]; exact hA _ (.inl rfl)), hs.heap h1.list (by rw [h1.minel]; exact hA _ (.inl rfl)), h1.elems⟩, fun i hi => ?_⟩
  obtain ⟨sv, hz⟩ := h2 i hi
  exact ⟨sv, hz.kept hs (hA _ (.inr (by omega)))⟩

/-- one zone has turned. -/
theorem DevAt.zone {w w' : World} {own own' : Nat → Nat} {db : Nat} {D : DevS} {lb lc : Nat} {cur : Array Value} {zb : Nat → Nat} (h1 : DevHead w own db D lb lc cur zb) (h2 : ZsAt w own D zb) {i : Nat} (hi : i < D.nz) {Z' : ZoneS} {sv' : Value}
    (hz : ZoneAt w' own' (1000 + i) (zb i) D.size Z' sv') (hs : Step (fun t => t = 1000 + i) w own w' own') : DevAt w' own' db (D.setz i Z') ∧ Step devTag w own w' own' := by
  refine ⟨⟨lb, lc, cur, zb, ⟨hs.own h1.heap h1.mine, hs.own h1.list h1.minel, hs.heap h1.heap (by rw [h1.mine]; omega), hs.heap h1.list (by rw [h1.minel]; omega), h1.elems⟩, fun j hj => ?_⟩, hs.mono fun t e => .inr (by omega)⟩
  by_cases hji : j = i
  · subst hji; exact ⟨sv', by simpa [DevS.setz] using hz⟩
  · obtain ⟨sv, hzz⟩ := h2 j hj
    exact ⟨sv, by simpa [DevS.setz, hji] using hzz.kept hs (by omega)⟩

theorem DevHead.cells {w : World} {own : Nat → Nat} {db : Nat} {D : DevS} {lb lc : Nat} {cur : Array Value} {zb : Nat → Nat} (h : DevHead w own db D lb lc cur zb) : w.cell? ⟨db, 0, none⟩ = some (.slice (some ⟨lb, 0, none⟩) D.nz lc) ∧ w.cell? ⟨db, 1, none⟩ = some (.int .i64 D.size) ∧ w.cell? ⟨db, 2, none⟩ = some (.int .i64 D.opn) ∧ w.cell? ⟨db, 3, none⟩ = some (.int .i64 D.n) ∧ w.cell? ⟨db, 4, none⟩ = some (.bool D.down) ∧ w.frozen? ⟨db, 3, none⟩ = false ∧ w.frozen? ⟨db, 4, none⟩ = false ∧ db < w.heap.size ∧ lb < w.heap.size :=
  ⟨cell_of h.heap 0, cell_of h.heap 1, cell_of h.heap 2, cell_of h.heap 3, cell_of h.heap 4, free_of h.heap 3, free_of h.heap 4, lt_of h.heap, lt_of h.list⟩

def DevS.has (D : DevS) (z : Int) : Bool := decide (0 ≤ z) && decide (z < D.nz)

theorem dhas_calls (own : Nat → Nat) (db : Nat) (D : DevS) (z : Int) (w : World) (h : DevAt w own db D) : Calls Tryz.prog 85 #[.pointer (some ⟨db, 0, none⟩), .int .i64 z] w fun e w' => e = .returned (.bool (D.has z)) ∧ w = w' := by
  obtain ⟨lb, lc, cur, zb, h1, h2⟩ := h
  obtain ⟨c0, -⟩ := h1.cells
  clear h1 h2
  unfold DevS.has
  by_cases k1 : 0 ≤ z
  · have d1 : decide (0 ≤ z) = true := by simpa using k1
    go_enter Tryz.func85, Tryz.ntmps85
    go_wp2
    go_ret
    exact ⟨by simp [k1], rfl⟩
  · have d1 : decide (0 ≤ z) = false := by simpa using k1
    go_enter Tryz.func85, Tryz.ntmps85
    go_wp2
    go_ret
    exact ⟨by simp [k1], rfl⟩

theorem DevS.has_ex {D : DevS} {z : Int} (h : D.has z = true) : ∃ i : Nat, z = i ∧ i < D.nz := by
  simp only [DevS.has, Bool.and_eq_true, decide_eq_true_eq] at h
  exact ⟨z.toNat, by omega, by omega⟩

theorem dzones_calls (own : Nat → Nat) (db : Nat) (D : DevS) (w : World) (h : DevAt w own db D) : Calls Tryz.prog 74 #[.pointer (some ⟨db, 0, none⟩)] w fun e w' => e = .returned (.int .i64 D.nz) ∧ w = w' := by
  obtain ⟨lb, lc, cur, zb, h1, h2⟩ := h
  obtain ⟨c0, -⟩ := h1.cells
  clear h1 h2
  go_enter Tryz.func74, Tryz.ntmps74
  go_wp2
  go_ret
  exact ⟨rfl, rfl⟩
theorem dsize_calls (own : Nat → Nat) (db : Nat) (D : DevS) (w : World) (h : DevAt w own db D) : Calls Tryz.prog 75 #[.pointer (some ⟨db, 0, none⟩)] w fun e w' => e = .returned (.int .i64 D.size) ∧ w = w' := by
  obtain ⟨lb, lc, cur, zb, h1, h2⟩ := h
  obtain ⟨c0, c1, -⟩ := h1.cells
  clear h1 h2
  go_enter Tryz.func75, Tryz.ntmps75
  go_wp2
  go_ret
  exact ⟨rfl, rfl⟩
theorem ddown_calls (own : Nat → Nat) (db : Nat) (D : DevS) (w : World) (h : DevAt w own db D) : Calls Tryz.prog 166 #[.pointer (some ⟨db, 0, none⟩)] w fun e w' => e = .returned (.bool D.down) ∧ w = w' := by
  obtain ⟨lb, lc, cur, zb, h1, h2⟩ := h
  obtain ⟨c0, c1, c2, c3, c4, -⟩ := h1.cells
  clear h1 h2
  go_enter Tryz.func166, Tryz.ntmps166
  go_wp2
  go_ret
  exact ⟨rfl, rfl⟩
theorem dcount_calls (own : Nat → Nat) (db : Nat) (D : DevS) (w : World) (h : DevAt w own db D) : Calls Tryz.prog 167 #[.pointer (some ⟨db, 0, none⟩)] w fun e w' => e = .returned (.int .i64 D.n) ∧ w = w' := by
  obtain ⟨lb, lc, cur, zb, h1, h2⟩ := h
  obtain ⟨c0, c1, c2, c3, c4, -⟩ := h1.cells
  clear h1 h2
  go_enter Tryz.func167, Tryz.ntmps167
  go_wp2
  go_ret
  exact ⟨rfl, rfl⟩

def DevS.state (D : DevS) (z : Int) : Int := if D.has z then (D.z z.toNat).state else 4
def DevS.len (D : DevS) (z : Int) : Int := if D.has z then (D.z z.toNat).l.length else 0

set_option maxHeartbeats 1000000 in
theorem dstate_calls (own : Nat → Nat) (db : Nat) (D : DevS) (z : Int) (w : World) (h : DevAt w own db D) : Calls Tryz.prog 37 #[.pointer (some ⟨db, 0, none⟩), .int .i64 z] w fun e w' => e = .returned (.int .i64 (D.state z)) ∧ w = w' := by
  have H := hid h
  obtain ⟨lb, lc, cur, zb, h1, h2⟩ := h
  obtain ⟨c0, -⟩ := h1.cells
  cases hh : D.has z with
  | false =>
    have HH := hid hh
    clear h1 h2 hh
    go_enter Tryz.func37, Tryz.ntmps37
    go_wp2_with fail
    refine Calls.mono (dhas_calls own db D z _ H.out) ?_
    rintro e w1 ⟨rfl, rfl⟩
    rw [HH.out]
    go_wp2
    go_ret
    exact ⟨ret_z (by simp [DevS.state, HH.out]), rfl⟩
  | true =>
    obtain ⟨i, rfl, hi⟩ := DevS.has_ex hh
    have hc : w.cell? ⟨lb, i, none⟩ = some (.pointer (some ⟨zb i, 0, none⟩)) := (cell_of h1.list i).trans (h1.elems i hi)
    obtain ⟨sv, hz⟩ := h2 i hi
    have z3 := (zcells hz).2.2.2.1
    have HH := hid hh
    clear h1 h2 hh hz
    go_enter Tryz.func37, Tryz.ntmps37
    go_wp2_with fail
    refine Calls.mono (dhas_calls own db D _ _ H.out) ?_
    rintro e w1 ⟨rfl, rfl⟩
    rw [HH.out]
    go_wp2_with fail
    refine Calls.mono (zstate_calls _ _ _ z3) ?_
    rintro e w1 ⟨rfl, rfl⟩
    go_wp2
    go_ret
    exact ⟨ret_z (by simp [DevS.state, HH.out]), rfl⟩

set_option maxHeartbeats 1000000 in
theorem dlen_calls (own : Nat → Nat) (db : Nat) (D : DevS) (z : Int) (w : World) (h : DevAt w own db D) : Calls Tryz.prog 89 #[.pointer (some ⟨db, 0, none⟩), .int .i64 z] w fun e w' => e = .returned (.int .i64 (D.len z)) ∧ w = w' := by
  have H := hid h
  obtain ⟨lb, lc, cur, zb, h1, h2⟩ := h
  obtain ⟨c0, -⟩ := h1.cells
  cases hh : D.has z with
  | false =>
    have HH := hid hh
    clear h1 h2 hh
    go_enter Tryz.func89, Tryz.ntmps89
    go_wp2_with fail
    refine Calls.mono (dhas_calls own db D z _ H.out) ?_
    rintro e w1 ⟨rfl, rfl⟩
    rw [HH.out]
    go_wp2
    go_ret
    exact ⟨ret_z (by simp [DevS.len, HH.out]), rfl⟩
  | true =>
    obtain ⟨i, rfl, hi⟩ := DevS.has_ex hh
    have hc : w.cell? ⟨lb, i, none⟩ = some (.pointer (some ⟨zb i, 0, none⟩)) := (cell_of h1.list i).trans (h1.elems i hi)
    obtain ⟨sv, hz⟩ := h2 i hi
    have HZ := hid hz
    have HH := hid hh
    clear h1 h2 hh hz
    go_enter Tryz.func89, Tryz.ntmps89
    go_wp2_with fail
    refine Calls.mono (dhas_calls own db D _ _ H.out) ?_
    rintro e w1 ⟨rfl, rfl⟩
    rw [HH.out]
    go_wp2_with fail
    refine Calls.mono (zlen_calls _ _ _ _ _ _ _ HZ.out) ?_
    rintro e w1 ⟨rfl, rfl⟩
    go_wp2
    go_ret
    exact ⟨ret_z (by simp [DevS.len, HH.out]), rfl⟩

def DevS.begin (D : DevS) (z : Int) : DevS × Int := if D.down then (D, 34) else if D.has z then ({ D with n := wrap64 (D.n + 1) }, 0) else (D, 13)
end Go.Rv

/- Regions that draw their order, and read, and call what lays new blocks alone. -/
namespace Go.Rv
open Go Go.RowKit

theorem wp_region_still {P : Program} {id : Nat} {Q : Exit → Act → World → Prop} {a : Act} {w : World} {l : List Oper} (hm : P.follows .mixedOrders = true) (hB : Region.lexB .any l.toArray = true)
    (h : wpQuiet P l.toArray (fun w' => Keeps (fun _ => False) w w') (fun a' => ∀ w', Keeps (fun _ => False) w w' → Q .normal a' w') l a) : (Code.region id l.toArray true).wp P Q a w :=
  wp_region_quiet (C := fun w' => Keeps (fun _ => False) w w') hm hB ((Keeps.refl _ _).drew) (by simpa using h)

theorem still_call {P : Program} {f : FuncId} {args : Array Value} {w W : World} {v : Value} (hW : Keeps (fun _ => False) w W)
    (h : Calls P f args W fun e w' => e = .returned v ∧ Keeps (fun _ => False) W w') : Calls P f args W fun e w'' => e = .returned v ∧ Keeps (fun _ => False) w w'' :=
  h.mono fun _ _ ⟨he, hm⟩ => ⟨he, hW.trans hm⟩
theorem still_call_same {P : Program} {f : FuncId} {args : Array Value} {w W : World} {v : Value} (hW : Keeps (fun _ => False) w W)
    (h : Calls P f args W fun e w' => e = .returned v ∧ W = w') : Calls P f args W fun e w'' => e = .returned v ∧ Keeps (fun _ => False) w w'' :=
  h.mono fun _ _ ⟨he, hm⟩ => ⟨he, by rw [← hm]; exact hW⟩
theorem still_call_box {P : Program} {f : FuncId} {args : Array Value} {w W : World} {v : Value} {o : Obj} (hW : Keeps (fun _ => False) w W)
    (h : Calls P f args W fun e w' => e = .returned v ∧ w' = W.alloc o) : Calls P f args W fun e w'' => e = .returned v ∧ Keeps (fun _ => False) w w'' :=
  h.mono fun _ _ ⟨he, hm⟩ => ⟨he, by rw [hm]; exact hW.alloc _⟩

theorem still_take {c A B : Prop} [Decidable c] (hc : c) (h : A) : if c then A else B := by rw [if_pos hc]; exact h
theorem still_skip {c A B : Prop} [Decidable c] (hc : ¬ c) (h : B) : if c then A else B := by rw [if_neg hc]; exact h

theorem still_op {P : Program} {o : Oper} {a : Act} {C : World → Prop} {next : Act → Prop} (v : Value) (h : ∀ W, C W → o.quietAt P a C W v) (hn : next (a.put o.dst v)) : o.quiet P a C next := ⟨v, h, hn⟩

section
variable {P : Program} {ops : Array Oper} {C : World → Prop} {Q : Act → Prop} {a : Act} {o : Oper} {rest : List Oper}
theorem still_step (v : Value) (hc : Region.wanted o (yielded ops a.tmps) = true) (h : ∀ W, C W → o.quietAt P a C W v) (hn : wpQuiet P ops C Q rest (a.put o.dst v)) : wpQuiet P ops C Q (o :: rest) a := by
  unfold wpQuiet; rw [if_pos hc]; exact ⟨v, h, hn⟩
theorem still_pass (hc : Region.wanted o (yielded ops a.tmps) = false) (hn : wpQuiet P ops C Q rest (a.put o.dst undef)) : wpQuiet P ops C Q (o :: rest) a := by
  unfold wpQuiet; rw [if_neg (by rw [hc]; decide)]; exact hn
end

end Go.Rv

/- Devices: the commands. -/
namespace Go.Rv
open Go Go.RowKit Go.Proofs
attribute [local irreducible] wpQuiet
attribute [local go_sem ↓] ld_Sector st_Sector al_Sector bs_Sector
attribute [local go_sem] cellsAt_new0 cellsAt_lt cellsAt_drew size_bytesV

theorem DevAt.upd {w W : World} {own : Nat → Nat} {db : Nat} {D : DevS} {lb lc : Nat} {cur : Array Value} {zb : Nat → Nat} {n' : Int} {down' : Bool} (h1 : DevHead w own db D lb lc cur zb) (h2 : ZsAt w own D zb) (hk : Keeps (fun k => k = db) w W)
    (hz : W.heap[db]? = some (.cells #[.slice (some ⟨lb, 0, none⟩) D.nz lc, .int .i64 D.size, .int .i64 D.opn, .int .i64 n', .bool down'] 183 (0, 0))) : DevAt W own db { D with n := n', down := down' } ∧ Keeps (fun k => devTag (own k)) w W := by
  have hne : lb ≠ db := fun e => by have := h1.list; rw [e] at this; have := this.symm.trans h1.heap; cases this
  refine ⟨⟨lb, lc, cur, zb, ⟨h1.mine, h1.minel, hz, hk.heap h1.list hne, h1.elems⟩, fun i hi => ?_⟩, hk.mono fun i _ hi => by subst hi; exact .inl h1.mine⟩
  obtain ⟨sv, hzz⟩ := h2 i hi
  exact ⟨sv, hzz.keeps hk fun k e hk => by subst hk; rw [h1.mine] at e; omega⟩

set_option maxHeartbeats 1000000 in
theorem begin_calls (own : Nat → Nat) (db : Nat) (D : DevS) (z : Int) (w : World) (h : DevAt w own db D) : Calls Tryz.prog 212 #[.pointer (some ⟨db, 0, none⟩), .int .i64 z] w fun e w' => e = .returned (.int .i64 (D.begin z).2) ∧ DevAt w' own db (D.begin z).1 ∧ Keeps (fun k => devTag (own k)) w w' := by
  have H := hid h
  obtain ⟨lb, lc, cur, zb, h1, h2⟩ := h
  obtain ⟨c0, c1, c2, c3, c4, f3, f4, hb, hl⟩ := h1.cells
  have HX := hid (And.intro h1 h2)
  clear h1 h2
  cases hd : D.down with
  | true =>
    have HD := hid hd
    rw [hd] at c4
    clear hd
    have hg : D.begin z = (D, 34) := by simp [DevS.begin, HD.out]
    rw [hg]
    clear hg
    go_enter Tryz.func212, Tryz.ntmps212
    go_wp2
    go_ret
    exact ⟨rfl, H.out, Keeps.refl _ _⟩
  | false =>
    have HD := hid hd
    rw [hd] at c4
    clear hd
    cases hh : D.has z with
    | false =>
      have HH := hid hh
      clear hh
      have hg : D.begin z = (D, 13) := by simp [DevS.begin, HD.out, HH.out]
      rw [hg]
      clear hg
      go_enter Tryz.func212, Tryz.ntmps212
      go_wp2_with fail
      refine Calls.mono (dhas_calls own db D z _ H.out) ?_
      rintro e w1 ⟨rfl, rfl⟩
      rw [HH.out]
      go_wp2
      go_ret
      exact ⟨rfl, H.out, Keeps.refl _ _⟩
    | true =>
      have HH := hid hh
      clear hh
      have hg : D.begin z = ({ D with n := wrap64 (D.n + 1), down := false }, 0) := by simp [DevS.begin, HD.out, HH.out]
      rw [hg]
      clear hg
      go_enter Tryz.func212, Tryz.ntmps212
      go_wp2_with fail
      refine Calls.mono (dhas_calls own db D z _ H.out) ?_
      rintro e w1 ⟨rfl, rfl⟩
      rw [HH.out]
      go_wp2
      go_ret
      have q := heap_set HX.out.1.heap 3 (.int .i64 (wrap64 (D.n + 1)))
      rw [HD.out] at q
      have := DevAt.upd HX.out.1 HX.out.2 (by repeat (first | exact Keeps.refl _ _ | refine keeps_set ?_ _ _)) q
      exact ⟨rfl, this⟩

def DevS.openTo (D : DevS) : Nat → Nat
  | 0 => 0
  | i + 1 => D.openTo i + if (D.z i).state = 1 then 1 else 0
theorem DevS.openTo_le (D : DevS) : ∀ i, D.openTo i ≤ i
  | 0 => Nat.le_refl _
  | i + 1 => by have := D.openTo_le i; unfold DevS.openTo; split <;> omega
theorem DevS.openTo_succ (D : DevS) (i : Nat) : D.openTo (i + 1) = D.openTo i + if (D.z i).state = 1 then 1 else 0 := rfl

set_option maxHeartbeats 1000000 in
theorem opened_calls (own : Nat → Nat) (db : Nat) (D : DevS) (w : World) (h : DevAt w own db D) (hn : D.nz ≤ 512) : Calls Tryz.prog 222 #[.pointer (some ⟨db, 0, none⟩)] w fun e w' => e = .returned (.int .i64 (D.openTo D.nz)) ∧ w = w' := by
  obtain ⟨lb, lc, cur, zb, h1, h2⟩ := h
  obtain ⟨c0, -⟩ := h1.cells
  have HX := hid (And.intro h1 h2)
  clear h1 h2
  go_enter Tryz.func222, Tryz.ntmps222
  go_wp2_with fail
  go_loopg [3, 11] D.nz (fun (gk : Nat) (b i : Value) (wr : World) => ∃ d : Nat, d + gk = D.nz ∧ b = .int .i64 (D.openTo d) ∧ i = .int .i64 d ∧ wr = w)
  case atStart => exact ⟨0, by omega, rfl, rfl, rfl⟩
  case round =>
    obtain ⟨d, hd, rfl, rfl, rfl⟩ := hrel
    have hle := D.openTo_le d
    by_cases c : d < D.nz
    · have dd : decide (d < D.nz) = true := by simpa using c
      have hc : wr.cell? ⟨lb, d, none⟩ = some (.pointer (some ⟨zb d, 0, none⟩)) := (cell_of HX.out.1.list d).trans (HX.out.1.elems d c)
      obtain ⟨sv, hz⟩ := HX.out.2 d c
      have z3 := (zcells hz).2.2.2.1
      clear hz
      by_cases s1 : (D.z d).state = 1
      · have b1 : ((D.z d).state == 1) = true := by simpa using s1
        have S1 := hid s1
        clear s1
        go_wp2_with fail
        refine Calls.mono (zstate_calls _ _ _ z3) ?_
        rintro e w1 ⟨rfl, rfl⟩
        go_wp2_with fail
        go_roundg (gk - 1)
        case measure => omega
        case rel => exact ⟨d + 1, by omega, zint (by rw [DevS.openTo_succ, if_pos S1.out]; omega), by go_num, rfl⟩
      · have b1 : ((D.z d).state == 1) = false := by simpa using s1
        have S1 := hid s1
        clear s1
        go_wp2_with fail
        refine Calls.mono (zstate_calls _ _ _ z3) ?_
        rintro e w1 ⟨rfl, rfl⟩
        go_wp2_with fail
        go_roundg (gk - 1)
        case measure => omega
        case rel => exact ⟨d + 1, by omega, zint (by rw [DevS.openTo_succ, if_neg S1.out]; omega), by go_num, rfl⟩
    · have dd : decide (d < D.nz) = false := by simpa using c
      go_wp2_with fail
      go_ret
      exact ⟨ret_z (by rw [show d = D.nz by omega]), rfl⟩

def DevS.reset (D : DevS) (z : Int) : DevS × Int := if (D.begin z).2 ≠ 0 then D.begin z else ((D.begin z).1.setz z.toNat (D.z z.toNat).reset.1, (D.z z.toNat).reset.2)
def DevS.finish (D : DevS) (z : Int) : DevS × Int := if (D.begin z).2 ≠ 0 then D.begin z else ((D.begin z).1.setz z.toNat (D.z z.toNat).finish.1, (D.z z.toNat).finish.2)

theorem DevS.begin_ok {D : DevS} {z : Int} (h : (D.begin z).2 = 0) : D.has z = true ∧ (D.begin z).1 = { D with n := wrap64 (D.n + 1) } := by
  unfold DevS.begin at h ⊢
  cases hd : D.down
  · cases hh : D.has z
    · simp [hd, hh] at h
    · simp
  · simp [hd] at h

set_option maxHeartbeats 1000000 in
theorem dreset_calls (own : Nat → Nat) (db : Nat) (D : DevS) (z : Int) (w : World) (h : DevAt w own db D) (hset : Settled own w) : Calls Tryz.prog 221 #[.pointer (some ⟨db, 0, none⟩), .int .i64 z] w fun e w' => e = .returned (.int .i64 (D.reset z).2) ∧ DevAt w' own db (D.reset z).1 ∧ Keeps (fun k => devTag (own k)) w w' := by
  have H := hid h
  have HS := hid hset
  clear h hset
  by_cases hb : (D.begin z).2 = 0
  · obtain ⟨hh, hbe⟩ := DevS.begin_ok hb
    obtain ⟨i, rfl, hi⟩ := DevS.has_ex hh
    have hr : D.reset i = ((D.begin i).1.setz i (D.z i).reset.1, (D.z i).reset.2) := by unfold DevS.reset; rw [if_neg (by omega)]; simp
    rw [hr]
    have HB := hid (And.intro hb hbe)
    clear hb hbe hh hr
    go_enter Tryz.func221, Tryz.ntmps221
    go_wp2_with fail
    refine Calls.mono (begin_calls own db D _ _ H.out) ?_
    rintro e w1 ⟨rfl, hd1, hk1⟩
    have H1 := hid (And.intro hd1 hk1)
    rw [HB.out.2] at hd1
    obtain ⟨lb, lc, cur, zb, h1, h2⟩ := hd1
    obtain ⟨c0, -⟩ := h1.cells
    have hc : w1.cell? ⟨lb, i, none⟩ = some (.pointer (some ⟨zb i, 0, none⟩)) := (cell_of h1.list i).trans (h1.elems i hi)
    obtain ⟨sv, hz⟩ := h2 i hi
    have HX := hid (And.intro h1 (And.intro h2 hz))
    clear hk1 h1 h2 hz
    rw [HB.out.1]
    go_wp2_with fail
    refine Calls.mono (zreset_calls own _ _ _ _ _ _ HX.out.2.2) ?_
    rintro e w2 ⟨rfl, ⟨sv', hz'⟩, hk2⟩
    have H2 := hid (And.intro hz' hk2)
    clear hz' hk2
    go_wp2
    go_ret
    have hstep := (Step.kept (A := fun t => t = 1000 + i) H2.out.2 (HS.out.keeps H1.out.2)).1
    have := DevAt.zone HX.out.1 HX.out.2.1 hi H2.out.1 hstep
    rw [HB.out.2]
    exact ⟨rfl, this.1, H1.out.2.trans this.2.keeps⟩
  · have hr : D.reset z = D.begin z := by unfold DevS.reset; rw [if_pos hb]
    rw [hr]
    have hbf : ((D.begin z).2 == 0) = false := by simpa using hb
    have hbt : ((D.begin z).2 != 0) = true := by simpa using hb
    clear hr hb
    go_enter Tryz.func221, Tryz.ntmps221
    go_wp2_with fail
    refine Calls.mono (begin_calls own db D _ _ H.out) ?_
    rintro e w1 ⟨rfl, hd1, hk1⟩
    have H1 := hid (And.intro hd1 hk1)
    clear hd1 hk1
    go_wp2
    go_ret
    exact ⟨rfl, H1.out⟩
end Go.Rv
