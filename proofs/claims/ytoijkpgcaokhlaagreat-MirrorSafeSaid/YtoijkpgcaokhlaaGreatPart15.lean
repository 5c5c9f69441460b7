/- Copies of snapshots: their sectors. -/
import Derived.Test.YtoijkpgcaokhlaaGreatPart14
set_option linter.unusedVariables false
set_option linter.unusedSimpArgs false
namespace Go.Rv
open Go Go.RowKit Go.Proofs
attribute [local irreducible] wpQuiet
attribute [local go_sem ↓] ld_Frame st_Frame al_Frame ld_Table st_Table al_Table ld_Sector st_Sector al_Sector bs_Sector
attribute [local go_sem] cellsAt_new0 cellsAt_lt cellsAt_drew size_bytesV

theorem flat_at {α : Type} (f : α → List Value) (n : Nat) : ∀ (l : List α) (_ : ∀ x, x ∈ l → (f x).length = n) (k : Nat) (hk : k < l.length), ((l.flatMap f).drop (k * n)).take n = f l[k]
  | [], _, k, hk => by simp at hk
  | e :: l, h, 0, _ => by
    have he := h e (List.mem_cons_self ..)
    show ((f e ++ l.flatMap f).drop (0 * n)).take n = f e
    rw [Nat.zero_mul, List.drop_zero]
    exact List.take_left' he
  | e :: l, h, k + 1, hk => by
    have he := h e (List.mem_cons_self ..)
    show ((f e ++ l.flatMap f).drop ((k + 1) * n)).take n = f (l[k]'(by simpa using hk))
    have e1 : (k + 1) * n - (f e).length = k * n := by rw [he, Nat.succ_mul]; omega
    rw [List.drop_append, List.drop_of_length_le (by rw [he, Nat.succ_mul]; omega), List.nil_append, e1]
    exact flat_at f n l (fun x hx => h x (List.mem_cons_of_mem _ hx)) k (by simpa using hk)
/-- an element's cells in a row. -/
theorem row_at {α : Type} {f : α → List Value} {n : Nat} {w : World} {P : Nat → Prop} {e : TypeId} {a : Option Addr} {m cap len : Nat} {l : List α} (h : RowAt w P e n (.slice a m cap) len (l.flatMap f)) (hn : len = l.length) (hf : ∀ x, x ∈ l → (f x).length = n) (k : Nat) (hk : k < l.length) :
    ∃ g, a = some ⟨g, 0, none⟩ ∧ m = len ∧ P g ∧ g < w.heap.size ∧ cellsAt w ⟨g, k * n, none⟩ n = some (f l[k]).toArray := by
  obtain ⟨h1, ⟨_, _, h2⟩ | ⟨g, cap', cur, hv, hp, hh, h3, h4, h5, h6⟩⟩ := h
  · omega
  · cases hv
    refine ⟨g, rfl, rfl, hp, lt_of hh, ?_⟩
    subst hn
    have hle : k * n + n ≤ l.length * n := by
      have : (k + 1) * n ≤ l.length * n := Nat.mul_le_mul_right _ hk
      rw [Nat.succ_mul] at this; exact this
    have hle2 : l.length * n ≤ cap * n := Nat.mul_le_mul_right _ h3
    rw [cellsAt_row hh _ _ (by omega)]
    congr 1
    apply Array.ext'
    rw [Array.toList_extract]
    have he := flat_at f n l hf k hk
    rw [← h6] at he
    rw [List.drop_take, List.take_take, show min n (l.length * n - k * n) = n by omega] at he
    rw [List.extract_eq_take_drop, show k * n + n - k * n = n by omega]
    exact he

theorem snapF_right (s : SnapS) (M : MapS) (zone : Int) (hn : s.nums = true) (hz : 0 ≤ zone ∧ zone ≤ 65535) (k : Nat) (hk : k ≤ 1000) : (snapF s M zone k).right = true := by
  simp only [SnapS.nums, inB, Bool.and_eq_true, decide_eq_true_eq] at hn
  have key : ∀ kd o : Int, 1 ≤ kd → kd ≤ 5 → 0 ≤ o → o ≤ 1000 → (inB kd 1 5 && inB zone 0 65535 && inB o 0 65535 && inB s.epoch 1 4294967295 && inB s.gen 0 281474976710655) = true := by
    intro kd o h1 h2 h3 h4
    simp only [inB, Bool.and_eq_true, decide_eq_true_eq]
    omega
  cases k with
  | zero => exact key 4 0 (by omega) (by omega) (by omega) (by omega)
  | succ k => exact key 5 (k + 1) (by omega) (by omega) (by omega) (by omega)
theorem GeomS.holds_bd {g : GeomS} {z o : Int} (h : g.holds z o = true) : 0 ≤ z ∧ z < g.all ∧ 0 ≤ o ∧ o < g.size := by
  simp [GeomS.holds, inB] at h; omega

def secOf (T : Nat → Int) (s : SnapS) (M : MapS) (zone : Int) (k : Nat) : List UInt8 := frmSec T (snapF s M zone k)
/-- a copy's first n sectors. -/
def secsOf (T : Nat → Int) (s : SnapS) (M : MapS) (zone : Int) (n : Nat) : List (List UInt8) := (List.range n).map (secOf T s M zone)
theorem secOf_len (T : Nat → Int) (s : SnapS) (M : MapS) (zone : Int) (k : Nat) : (secOf T s M zone k).length = 64 := frmSec_len T _ (snapF_body s M zone k)
theorem secsOf_succ (T : Nat → Int) (s : SnapS) (M : MapS) (zone : Int) (n : Nat) : secsOf T s M zone (n + 1) = secsOf T s M zone n ++ [secOf T s M zone n] := by simp [secsOf, List.range_succ]

theorem frmL_len (s : SnapS) (M : MapS) (zone : Int) (n : Nat) : ∀ x, x ∈ snapFs s M zone n → (frmL x).length = 49 := by
  intro x hx
  obtain ⟨k, _, rfl⟩ := List.mem_map.1 hx
  have := (frm_facts _ (snapF_body s M zone k)).1
  simpa [frmL] using this

set_option maxHeartbeats 2000000 in
set_option maxRecDepth 100000 in
theorem sectors_good (own : Nat → Nat) (t : Nat) (T : Nat → Int) (s : SnapS) (M : MapS) (zone : Int) (w : World) (h : MapAt w own t s.mb M) (hn : s.nums = true) (hr : (M.l.all fun e => decide (e.seq < s.next)) = true) (hf : ∀ e, e ∈ M.l → e.Fits) (hz : M.g.holds zone 0 = true) :
    Calls Tryz.prog 162 #[.agg (tabV T), .agg (snapC s), .int .i64 zone] w fun r w' => ∃ sv, r = .returned (.tuple #[sv, .int .i64 0]) ∧ RowAt w' (fun k => w.heap.size ≤ k) 103 64 sv M.g.parts.toNat (cellsOf (secsOf T s M zone M.g.parts.toNat)) ∧ Keeps (fun _ => False) w w' := by
  have HM := hid h
  have HN := hid (And.intro hn (And.intro hr (And.intro hf hz)))
  have hsm := M.g.right_small h.right
  have hzb := GeomS.holds_bd hz
  have hal := M.g.all_bd hsm
  have hbk := hsm.b
  have hparts : 2 ≤ M.g.parts ∧ M.g.parts ≤ 129 := by unfold GeomS.parts; omega
  obtain ⟨np, hnp⟩ : ∃ np : Nat, M.g.parts.toNat = np := ⟨_, rfl⟩
  have hnpb : 2 ≤ np ∧ np ≤ 129 := by omega
  have HNP := hid hnp
  rw [hnp]
  have HZ := hid (show 0 ≤ zone ∧ zone ≤ 65535 by omega)
  clear hnp hparts hzb hal hbk hsm h hn hr hf hz
  have hk2 : Keeps (fun _ => False) w ((w.alloc (.cells (tabV T) 72)).alloc (.cells (snapC s) 60)) := (by repeat (first | exact Keeps.refl _ _ | refine Keeps.alloc ?_ _ | refine Keeps.drew ?_ | refine Keeps.drewN ?_ _ | refine Keeps.trans ?_ (by assumption)))
  have hb0 := heap_old (w.alloc (.cells (tabV T) 72)) (.cells (snapC s) 60) (heap_new w (.cells (tabV T) 72))
  have hb1 := heap_new (w.alloc (.cells (tabV T) 72)) (.cells (snapC s) 60)
  rw [World.size_alloc] at hb1
  obtain ⟨w2, hw2⟩ : ∃ w2, (w.alloc (.cells (tabV T) 72)).alloc (.cells (snapC s) 60) = w2 := ⟨_, rfl⟩
  rw [hw2] at hk2 hb0 hb1
  obtain ⟨c0, c1, c2, c3⟩ := snap_cells hb1
  have HB := hid (And.intro hb0 (And.intro hb1 hk2))
  clear hb0 hb1 hk2
  unfold snapC at hw2 ⊢
  go_enter Tryz.func162, Tryz.ntmps162
  go_wp2_with fail
  clear hw2 c0 c1 c2 c3
  refine Calls.mono (frames_good own t s M zone _ (HM.out.still HB.out.2.2) HN.out.1 HN.out.2.1 HN.out.2.2.1 HN.out.2.2.2) ?_
  rintro r w3 ⟨sv, rfl, hrow, hk3⟩
  rw [HNP.out] at hrow
  obtain ⟨a3, cap3, rfl⟩ := hrow.slice
  have HR := hid (And.intro hrow (And.intro (hk3.heap HB.out.1 id) (HB.out.2.2.trans hk3)))
  have hsz3 := hk3.size
  clear hrow hk3
  have hinf := info_parts info_Sector
  have HI := hid hinf
  clear hinf
  go_wp2_with fail
  go_loopg [10, 26] np (fun (gk : Nat) (x i : Value) (wr : World) => ∃ d : Nat, d + gk = np ∧ i = .int .i64 d ∧ RowAt wr (fun k => w3.heap.size ≤ k) 103 64 x d (cellsOf (secsOf T s M zone d)) ∧ Keeps (fun _ => False) w3 wr)
  case atStart => exact ⟨0, by omega, rfl, RowAt.nil _ _ _ _, Keeps.refl _ _⟩
  case round =>
    obtain ⟨d, hd, rfl, hrow, hkw⟩ := hrel
    have HX := hid (And.intro hrow hkw)
    clear hrow hkw
    by_cases c : d < np
    · have dd : decide (d < np) = true := by simpa using c
      have hlen : (snapFs s M zone np).length = np := by simp [snapFs]
      obtain ⟨g, rfl, -, -, hg, hc⟩ := row_at (HR.out.1.keeps HX.out.2 fun _ _ => id) hlen.symm (frmL_len s M zone np) d (by omega)
      have hget : (snapFs s M zone np)[d]'(by omega) = snapF s M zone d := by simp [snapFs]
      have e0 : (frmL (snapF s M zone d)).toArray = frmC (snapF s M zone d) := by simp [frmL]
      rw [hget, e0] at hc
      have hs0 := (frm_facts _ (snapF_body s M zone d)).1
      have ha0 := frm_one (snapF s M zone d)
      have hn1 := heap_new wr (.cells z_Frame 120)
      have e2 := cellsFree_full (n := 49) hn1 rfl
      have hn2 := putCells_at hn1 (show z_Frame.size = (frmC (snapF s M zone d)).size by rw [hs0]; rfl)
      have hkp : Keeps (fun _ => False) wr (putCells (wr.alloc (.cells z_Frame 120)) ⟨wr.heap.size, 0, none⟩ (frmC (snapF s M zone d))) := keeps_put0 (by repeat (first | exact Keeps.refl _ _ | refine Keeps.alloc ?_ _ | refine Keeps.drew ?_ | refine Keeps.drewN ?_ _ | refine Keeps.trans ?_ (by assumption))) (fun h => absurd h (Nat.lt_irrefl _)) _
      obtain ⟨w4, hw4⟩ : ∃ w4, putCells (wr.alloc (.cells z_Frame 120)) ⟨wr.heap.size, 0, none⟩ (frmC (snapF s M zone d)) = w4 := ⟨_, rfl⟩
      rw [hw4] at hn2 hkp
      have e5 := cellsAt_full (n := 49) hn2 hs0
      have e6 := cellsAt_full (hkp.heap (HX.out.2.heap HR.out.2.1 id) id) (size_tabV T)
      have HK4 := hid hkp
      have HS0 := hid hs0
      have henc := encode_good T (snapF s M zone d) (snapF_body s M zone d) (snapF_right s M zone HN.out.1 HZ.out d (by omega)) w4
      have HEN := hid henc
      clear hn1 hn2 hkp henc hget e0
      generalize hFd : frmC (snapF s M zone d) = Fd at *
      have hsec : frmSec T (snapF s M zone d) = secOf T s M zone d := rfl
      rw [hsec] at HEN
      have HL := hid (secsOf_succ T s M zone d)
      have hsl := secOf_len T s M zone d
      generalize secOf T s M zone d = S at *
      clear hFd
      go_wp2_with fail
      refine Calls.mono HEN.out ?_
      rintro r w5 ⟨rfl, hk5⟩
      have HK5 := hid (HK4.out.trans hk5)
      have hn1 := heap_new w5 (.cells z_Sector 103)
      have e7 := cellsFree_full (n := 64) hn1 rfl
      have e8 : (bytesV S).size = 64 := by simp [bytesV, hsl]
      have e9 := allOne_bytes S
      have hn2 := putCells_at hn1 (show z_Sector.size = (bytesV S).size by rw [e8]; rfl)
      have hkp : Keeps (fun _ => False) w5 (putCells (w5.alloc (.cells z_Sector 103)) ⟨w5.heap.size, 0, none⟩ (bytesV S)) := keeps_put0 (by repeat (first | exact Keeps.refl _ _ | refine Keeps.alloc ?_ _ | refine Keeps.drew ?_ | refine Keeps.drewN ?_ _ | refine Keeps.trans ?_ (by assumption))) (fun h => absurd h (Nat.lt_irrefl _)) _
      obtain ⟨w6, hw6⟩ : ∃ w6, putCells (w5.alloc (.cells z_Sector 103)) ⟨w5.heap.size, 0, none⟩ (bytesV S) = w6 := ⟨_, rfl⟩
      rw [hw6] at hn2 hkp
      have e10 := cellsAt_full (n := 64) hn2 e8
      have HK6 := hid (HK5.out.trans hkp)
      clear hk5 hn1 hn2 hkp hw4 e2 e5 e6 hc
      unfold secV
      obtain ⟨a7, cap7, rfl⟩ := HX.out.1.slice
      obtain ⟨i0, hi, hz0, hz1, hz2⟩ := HI.out
      go_wp2_with (at_builtin; refine wpList_append_tag rfl (.tmp 39) (.tmp 41) rfl Tryz.underlying129 hi hz0 hz1 hz2 size_z_Sector (by decide) rfl (Q := fun k => w3.heap.size ≤ k) (n := d) (m := 1) (xs := cellsOf (secsOf T s M zone d)) ?own rfl (news := S.map byteV) ?c0 ?c1 ?c2 ?c3 ?c4 (by decide) ?go)
      case own =>
        show RowAt _ _ _ _ (.slice a7 d cap7) _ _
        exact (HX.out.1.keeps HK6.out (fun _ _ => id)).keeps ((Keeps.refl (fun _ => False) w6).alloc _) (fun _ _ => id)
      case c0 => simp [hsl]
      case c1 =>
        intro j u hu
        rw [add_off, Nat.zero_add, cell_of (heap_new w6 _) j]
        simpa [bytesV] using hu
      case c2 => exact fun u hu => by obtain ⟨c, _, rfl⟩ := List.mem_map.1 hu; rfl
      case c3 => unfold maxLen; omega
      case c4 => omega
      case go =>
        intro g2 cap w10 hown hg2 hk10
        have hgp : w3.heap.size ≤ g2 := by
          have h1 := HX.out.2.size
          have h2 := HK6.out.size
          rcases hg2 with h | h <;> omega
        have hrow := (rowAt_of_owns hown hgp : RowAt w10 (fun k => w3.heap.size ≤ k) _ _ _ _ _)
        have hkk := (((HX.out.2.trans HK6.out).alloc _).trans' hk10 (fun i hi h => by omega) : Keeps (fun _ => False) w3 w10)
        have HZ := hid (And.intro hrow hkk)
        clear hown hg2 hk10 hrow hkk hi hz0 hz1 hz2
        go_wp2_with fail
        go_roundg (gk - 1)
        case measure => omega
        case rel =>
          refine ⟨d + 1, by omega, by go_num, ?_, HZ.out.2⟩
          rw [HL.out, cellsOf_append]
          exact HZ.out.1
    · have dd : decide (d < np) = false := by simpa using c
      have hdn : d = np := by omega
      subst hdn
      go_wp2_with fail
      go_ret2
      refine ⟨_, rfl, ?_, HR.out.2.2.trans HX.out.2⟩
      exact HX.out.1.imp fun k _ h => Nat.le_trans HR.out.2.2.size h
end Go.Rv

/- Mirrors: what they hold, in memory; the reading functions. -/
namespace Go.Rv
open Go Go.RowKit Go.Proofs
attribute [local irreducible] wpQuiet
attribute [local go_sem ↓] ld_Geom st_Geom al_Geom ld_Table st_Table al_Table
attribute [local go_sem] cellsAt_new0 cellsAt_lt cellsAt_drew size_bytesV

structure MirS where
  d : DriveS
  g : GeomS
  p : PoolS
  bad : Nat → Bool
  a : Int
  b : Int
  used : Int

def mirC (pb : Nat) (g : GeomS) (tab : Array Value) (plb : Nat) (bv : Value) (a b u : Int) : Array Value :=
  (#[.pointer (some ⟨pb, 0, none⟩)] ++ geomC g) ++ (tab ++ #[.pointer (some ⟨plb, 0, none⟩), bv, .int .i64 a, .int .i64 b, .int .i64 u])
theorem mirC_size (pb : Nat) (g : GeomS) (tab : Array Value) (plb : Nat) (bv : Value) (a b u : Int) (h : tab.size = 256) : (mirC pb g tab plb bv a b u).size = 268 := by
  simp [mirC, geomC, h]
theorem mirC_h7 (pb : Nat) (g : GeomS) : ((#[.pointer (some ⟨pb, 0, none⟩)] : Array Value) ++ geomC g).size = 7 := rfl
theorem mirC_tail (pb : Nat) (g : GeomS) (tab : Array Value) (plb : Nat) (bv : Value) (a b u : Int) (h : tab.size = 256) (i : Nat) (hi : 263 ≤ i) : (mirC pb g tab plb bv a b u)[i]? = (#[.pointer (some ⟨plb, 0, none⟩), bv, .int .i64 a, .int .i64 b, .int .i64 u] : Array Value)[i - 263]? := by
  unfold mirC
  rw [Array.getElem?_append_right (by rw [mirC_h7]; omega), Array.getElem?_append_right (by rw [mirC_h7, h]; omega), mirC_h7, h, Nat.sub_sub]
theorem mirC_head (pb : Nat) (g : GeomS) (tab : Array Value) (plb : Nat) (bv : Value) (a b u : Int) (i : Nat) (hi : i < 7) : (mirC pb g tab plb bv a b u)[i]? = (#[.pointer (some ⟨pb, 0, none⟩), .int .i64 g.domains, .int .i64 g.zones, .int .i64 g.size, .int .i64 g.blocks, .int .i64 g.spare, .int .i64 g.opn] : Array Value)[i]? := by
  unfold mirC
  rw [Array.getElem?_append_left (by rw [mirC_h7]; omega)]
  rfl
theorem mirC_mid (pb : Nat) (g : GeomS) (tab : Array Value) (plb : Nat) (bv : Value) (a b u : Int) (h : tab.size = 256) (i : Nat) (hi : i < 256) : (mirC pb g tab plb bv a b u)[7 + i]? = tab[i]? := by
  unfold mirC
  rw [Array.getElem?_append_right (by rw [mirC_h7]; omega), Array.getElem?_append_left (by rw [mirC_h7, h]; omega), mirC_h7, Nat.add_sub_cancel_left]
theorem extract_eq {c d : Array Value} {o n : Nat} (hs : o + n ≤ c.size) (hd : d.size = n) (h : ∀ i, i < n → c[o + i]? = d[i]?) : c.extract o (o + n) = d := by
  apply Array.ext_getElem?
  intro i
  rw [Array.getElem?_extract]
  by_cases hi : i < n
  · rw [if_pos (by omega), h i hi]
  · rw [if_neg (by omega), Array.getElem?_eq_none (by omega)]

/-- the owners of a mirror's blocks. -/
def mirTag (t : Nat) : Prop := t = 4 ∨ drvTag t ∨ poolTag t

structure MirHead (w : World) (own : Nat → Nat) (mb pb plb : Nat) (M : MirS) (bb bc : Nat) (cur : Array Value) : Prop where
  mine : own mb = 4
  mineb : own bb = 4
  heap : w.heap[mb]? = some (.cells (mirC pb M.g (tabV tab0) plb (.slice (some ⟨bb, 0, none⟩) M.g.all.toNat bc) M.a M.b M.used) 149 (0, 0))
  list : w.heap[bb]? = some (.cells cur 3 (0, 0))
  elems : ∀ i : Nat, (i : Int) < M.g.all → cur[i]? = some (.int .i64 (if M.bad i then 1 else 0))

structure MirS.Ok (M : MirS) : Prop where
  right : M.g.right = true
  pool : M.p.Ok
  pg : M.p.g = M.g
  nz : (M.d.d.nz : Int) = M.g.all
  size : M.d.d.size = M.g.size

structure MirAt (w : World) (own : Nat → Nat) (mb pb db plb : Nat) (M : MirS) : Prop where
  head : ∃ bb bc cur, MirHead w own mb pb plb M bb bc cur
  drive : DriveAt w own pb db M.d
  pool : PoolAt w own plb M.p
  ok : M.Ok

theorem MirHead.keeps {w w' : World} {own : Nat → Nat} {mb pb plb : Nat} {M : MirS} {bb bc : Nat} {cur : Array Value} {N : Nat → Prop} (h : MirHead w own mb pb plb M bb bc cur) (hk : Keeps N w w') (hN : ∀ k, own k = 4 → ¬ N k) : MirHead w' own mb pb plb M bb bc cur :=
  ⟨h.mine, h.mineb, hk.heap h.heap (hN _ h.mine), hk.heap h.list (hN _ h.mineb), h.elems⟩
theorem MirHead.kept {w w' : World} {own own' : Nat → Nat} {mb pb plb : Nat} {M : MirS} {bb bc : Nat} {cur : Array Value} {A : Nat → Prop} (h : MirHead w own mb pb plb M bb bc cur) (hs : Step A w own w' own') (hA : ¬ A 4) : MirHead w' own' mb pb plb M bb bc cur :=
  ⟨hs.own h.heap h.mine, hs.own h.list h.mineb, hs.heap h.heap (by rw [h.mine]; exact hA), hs.heap h.list (by rw [h.mineb]; exact hA), h.elems⟩
theorem tags_apart : ¬ drvTag 4 ∧ ¬ poolTag 4 ∧ (∀ t, drvTag t → ¬ poolTag t) := by
  refine ⟨?_, ?_, ?_⟩
  · unfold drvTag devTag; omega
  · unfold poolTag; omega
  · intro t; unfold drvTag devTag poolTag; omega
theorem PoolAt.kept {w w' : World} {own own' : Nat → Nat} {pb : Nat} {p : PoolS} {A : Nat → Prop} (h : PoolAt w own pb p) (hp : p.nd ≤ 8) (hs : Step A w own w' own') (hA : ∀ t, poolTag t → ¬ A t) : PoolAt w' own' pb p := by
  obtain ⟨lb, lc, cur, qb, cb, h1, h2⟩ := h
  have a3 := hA 3 (.inl rfl)
  refine ⟨lb, lc, cur, qb, cb, ⟨hs.own h1.heap h1.mine, hs.own h1.list h1.minel, hs.heap h1.heap (by rw [h1.mine]; exact a3), hs.heap h1.list (by rw [h1.minel]; exact a3), h1.elems⟩, fun d hd => ?_⟩
  obtain ⟨s, r, hq⟩ := h2 d hd
  have ad := hA (16 + d) (.inr (by omega))
  exact ⟨s, r, ⟨hs.own hq.heap hq.mine, hs.own hq.chan hq.minec, hs.heap hq.heap (by rw [hq.mine]; exact ad), hs.heap hq.chan (by rw [hq.minec]; exact ad)⟩⟩
theorem MirAt.still {w w' : World} {own : Nat → Nat} {mb pb db plb : Nat} {M : MirS} (h : MirAt w own mb pb db plb M) (hk : Keeps (fun _ => False) w w') : MirAt w' own mb pb db plb M := by
  obtain ⟨⟨bb, bc, cur, h1⟩, h2, h3, h4⟩ := h
  exact ⟨⟨bb, bc, cur, h1.keeps hk (fun _ _ => id)⟩, h2.still hk, h3.keeps h4.pool.nd.2.1 hk (fun _ _ => id), h4⟩
theorem MirAt.kept {w w' : World} {own own' : Nat → Nat} {mb pb db plb : Nat} {M : MirS} {A : Nat → Prop} (h : MirAt w own mb pb db plb M) (hs : Step A w own w' own') (hA : ∀ t, mirTag t → ¬ A t) : MirAt w' own' mb pb db plb M := by
  obtain ⟨⟨bb, bc, cur, h1⟩, h2, h3, h4⟩ := h
  exact ⟨⟨bb, bc, cur, h1.kept hs (hA _ (.inl rfl))⟩, h2.kept hs fun t ht => hA t (.inr (.inl ht)), h3.kept h4.pool.nd.2.1 hs fun t ht => hA t (.inr (.inr ht)), h4⟩
end Go.Rv

/- Mirrors: the reading functions. -/
namespace Go.Rv
open Go Go.RowKit Go.Proofs
attribute [local irreducible] wpQuiet
attribute [local go_sem ↓] ld_Geom st_Geom al_Geom ld_Table st_Table al_Table
attribute [local go_sem] cellsAt_new0 cellsAt_lt cellsAt_drew size_bytesV

theorem MirHead.cells {w : World} {own : Nat → Nat} {mb pb plb : Nat} {M : MirS} {bb bc : Nat} {cur : Array Value} (h : MirHead w own mb pb plb M bb bc cur) :
    w.cell? ⟨mb, 0, none⟩ = some (.pointer (some ⟨pb, 0, none⟩)) ∧ cellsAt w ⟨mb, 1, none⟩ 6 = some (geomC M.g) ∧ cellsAt w ⟨mb, 7, none⟩ 256 = some (tabV tab0) ∧ w.cell? ⟨mb, 263, none⟩ = some (.pointer (some ⟨plb, 0, none⟩)) ∧
    w.cell? ⟨mb, 264, none⟩ = some (.slice (some ⟨bb, 0, none⟩) M.g.all.toNat bc) ∧ w.cell? ⟨mb, 265, none⟩ = some (.int .i64 M.a) ∧ w.cell? ⟨mb, 266, none⟩ = some (.int .i64 M.b) ∧ w.cell? ⟨mb, 267, none⟩ = some (.int .i64 M.used) := by
  have hs := size_tabV tab0
  have hheap := h.heap
  clear h
  generalize tabV tab0 = tab at *
  have hz := mirC_size pb M.g tab plb (.slice (some ⟨bb, 0, none⟩) M.g.all.toNat bc) M.a M.b M.used hs
  have ht := mirC_tail pb M.g tab plb (.slice (some ⟨bb, 0, none⟩) M.g.all.toNat bc) M.a M.b M.used hs
  have hh := mirC_head pb M.g tab plb (.slice (some ⟨bb, 0, none⟩) M.g.all.toNat bc) M.a M.b M.used
  have hm := mirC_mid pb M.g tab plb (.slice (some ⟨bb, 0, none⟩) M.g.all.toNat bc) M.a M.b M.used hs
  generalize mirC pb M.g tab plb (.slice (some ⟨bb, 0, none⟩) M.g.all.toNat bc) M.a M.b M.used = C at *
  refine ⟨(cell_of hheap 0).trans (hh 0 (by omega)), ?_, ?_, (cell_of hheap 263).trans (ht 263 (by omega)), (cell_of hheap 264).trans (ht 264 (by omega)), (cell_of hheap 265).trans (ht 265 (by omega)), (cell_of hheap 266).trans (ht 266 (by omega)), (cell_of hheap 267).trans (ht 267 (by omega))⟩
  · rw [cellsAt_row hheap 1 6 (by omega)]
    refine congrArg some (extract_eq (by omega) rfl fun i hi => ?_)
    rw [hh (1 + i) (by omega)]
    have hc : i = 0 ∨ i = 1 ∨ i = 2 ∨ i = 3 ∨ i = 4 ∨ i = 5 := by omega
    rcases hc with rfl | rfl | rfl | rfl | rfl | rfl <;> rfl
  · rw [cellsAt_row hheap 7 256 (by omega)]
    exact congrArg some (extract_eq (by omega) hs fun i hi => hm i hi)
theorem MirHead.free {w : World} {own : Nat → Nat} {mb pb plb : Nat} {M : MirS} {bb bc : Nat} {cur : Array Value} (h : MirHead w own mb pb plb M bb bc cur) (o : Nat) : w.frozen? ⟨mb, o, none⟩ = false := free_of h.heap o

theorem tab_one (T : Nat → Int) : allOne (tabV T) = true := by
  simp only [allOne, tabV, List.all_eq_true]
  intro v hv
  simp only [List.mem_map] at hv
  obtain ⟨b, _, rfl⟩ := hv
  rfl
section
variable (own : Nat → Nat) (mb pb db plb : Nat) (M : MirS) (w : World) (h : MirAt w own mb pb db plb M)
include h
theorem mdrive_calls : Calls Tryz.prog 31 #[.pointer (some ⟨mb, 0, none⟩)] w fun e w' => e = .returned (.pointer (some ⟨pb, 0, none⟩)) ∧ w = w' := by
  obtain ⟨⟨bb, bc, cur, h1⟩, -, -, -⟩ := h
  obtain ⟨c0, -⟩ := h1.cells
  clear h1
  go_enter Tryz.func31, Tryz.ntmps31
  go_wp2
  go_ret
  exact ⟨rfl, rfl⟩
theorem mpool_calls : Calls Tryz.prog 14 #[.pointer (some ⟨mb, 0, none⟩)] w fun e w' => e = .returned (.pointer (some ⟨plb, 0, none⟩)) ∧ w = w' := by
  obtain ⟨⟨bb, bc, cur, h1⟩, -, -, -⟩ := h
  obtain ⟨-, -, -, c0, -⟩ := h1.cells
  clear h1
  go_enter Tryz.func14, Tryz.ntmps14
  go_wp2
  go_ret
  exact ⟨rfl, rfl⟩
set_option maxRecDepth 100000 in
theorem mgeom_calls : Calls Tryz.prog 30 #[.pointer (some ⟨mb, 0, none⟩)] w fun e w' => e = .returned (geomV M.g) ∧ Keeps (fun _ => False) w w' := by
  obtain ⟨⟨bb, bc, cur, h1⟩, -, -, -⟩ := h
  obtain ⟨-, c0, -⟩ := h1.cells
  have hb := lt_of h1.heap
  have hn := heap_new w (.cells z_Geom 23)
  have e2 := cellsFree_full (n := 6) hn rfl
  have e3 : allOne (geomC M.g) = true := rfl
  have e4 : (geomC M.g).size = 6 := rfl
  have HN := hid hn
  clear h1 hn
  change Calls Tryz.prog 30 #[.pointer (some ⟨mb, 0, none⟩)] w fun e w' => e = .returned (.agg (geomC M.g)) ∧ Keeps (fun _ => False) w w'
  generalize geomC M.g = G at *
  go_enter Tryz.func30, Tryz.ntmps30
  go_wp2_with fail
  refine bodyPost_ret (results_cell1 rfl row_Geom _ rfl (cellsAt_full (putCells_at HN.out (by rw [e4]; rfl)) e4)) rfl ⟨rfl, ?_⟩
  exact keeps_put0 (by repeat (first | exact Keeps.refl _ _ | refine Keeps.alloc ?_ _ | refine Keeps.drew ?_ | refine Keeps.drewN ?_ _ | refine Keeps.trans ?_ (by assumption))) (fun h => absurd h (Nat.lt_irrefl _)) _
set_option maxRecDepth 100000 in
theorem mtable_calls : Calls Tryz.prog 32 #[.pointer (some ⟨mb, 0, none⟩)] w fun e w' => e = .returned (.agg (tabV tab0)) ∧ Keeps (fun _ => False) w w' := by
  obtain ⟨⟨bb, bc, cur, h1⟩, -, -, -⟩ := h
  obtain ⟨-, -, c0, -⟩ := h1.cells
  have hb := lt_of h1.heap
  have hn := heap_new w (.cells z_Table 72)
  have e2 := cellsFree_full (n := 256) hn rfl
  have e3 := tab_one tab0
  have e4 := size_tabV tab0
  have HN := hid hn
  clear h1 hn
  generalize tabV tab0 = G at *
  go_enter Tryz.func32, Tryz.ntmps32
  go_wp2_with fail
  refine bodyPost_ret (results_cell1 rfl row_Table _ rfl (cellsAt_full (putCells_at HN.out (by rw [e4]; rfl)) e4)) rfl ⟨rfl, ?_⟩
  exact keeps_put0 (by repeat (first | exact Keeps.refl _ _ | refine Keeps.alloc ?_ _ | refine Keeps.drew ?_ | refine Keeps.drewN ?_ _ | refine Keeps.trans ?_ (by assumption))) (fun h => absurd h (Nat.lt_irrefl _)) _
end

def MirS.isBad (M : MirS) (z : Int) : Bool := decide (0 ≤ M.g.domain z) && M.bad z.toNat
theorem GeomS.domain_in {g : GeomS} {z : Int} (h : 0 ≤ g.domain z) : 0 ≤ z ∧ z < g.all := by
  unfold GeomS.domain at h
  split at h <;> omega

set_option maxHeartbeats 1000000 in
set_option maxRecDepth 100000 in
theorem mbad_calls (own : Nat → Nat) (mb pb db plb : Nat) (M : MirS) (z : Int) (w : World) (h : MirAt w own mb pb db plb M) : Calls Tryz.prog 21 #[.pointer (some ⟨mb, 0, none⟩), .int .i64 z] w fun e w' => e = .returned (.bool (M.isBad z)) ∧ Keeps (fun _ => False) w w' := by
  obtain ⟨⟨bb, bc, cur, h1⟩, -, -, hok⟩ := h
  obtain ⟨-, c1, -, -, c4, -⟩ := h1.cells
  have H1 := hid h1
  have hsm := M.g.right_small hok.right
  have HSM := hid hsm
  clear h1 hok hsm
  unfold MirS.isBad
  have hgv : geomV M.g = .agg (geomC M.g) := rfl
  have HG := hid hgv
  clear hgv
  by_cases k1 : 0 ≤ M.g.domain z
  · obtain ⟨z0, z1⟩ := GeomS.domain_in k1
    obtain ⟨i, rfl⟩ : ∃ i : Nat, z = i := ⟨z.toNat, by omega⟩
    have d1 : decide (0 ≤ M.g.domain i) = true := by simpa using k1
    have hci := (cell_of H1.out.list i).trans (H1.out.elems i z1)
    have hlt : i < M.g.all.toNat := by omega
    rw [d1, show ((i : Nat) : Int).toNat = i by simp, Bool.true_and]
    clear k1 z0 z1
    obtain ⟨b, hbv⟩ : ∃ b, M.bad i = b := ⟨_, rfl⟩
    rw [hbv] at hci
    rw [hbv]
    have HCI := hid hci
    have HC4 := hid c4
    clear hci c4 hbv
    go_enter Tryz.func21, Tryz.ntmps21
    go_wp2_with fail
    rw [← HG.out]
    refine Calls.mono (domain_calls M.g HSM.out _ _) ?_
    rintro e w1 ⟨rfl, hk⟩
    have hci := (hk.cell (lt_of H1.out.list) id).trans HCI.out
    have c4 := (hk.cell (lt_of H1.out.heap) id).trans HC4.out
    have HK := hid hk
    clear hk
    cases b with
    | true =>
      rw [if_pos rfl] at hci
      go_wp2_with fail
      go_ret
      exact ⟨rfl, HK.out⟩
    | false =>
      rw [if_neg (by decide)] at hci
      go_wp2_with fail
      go_ret
      exact ⟨rfl, HK.out⟩
  · have d1 : decide (0 ≤ M.g.domain z) = false := by simpa using k1
    rw [d1]
    clear k1
    go_enter Tryz.func21, Tryz.ntmps21
    go_wp2_with fail
    rw [← HG.out]
    refine Calls.mono (domain_calls M.g HSM.out _ _) ?_
    rintro e w1 ⟨rfl, hk⟩
    have HK := hid hk
    clear hk
    go_wp2_with fail
    go_ret
    exact ⟨rfl, HK.out⟩
end Go.Rv

/- New mirrors. -/
namespace Go.Rv
open Go Go.RowKit Go.Proofs

def z_Mir : Array Value := (reps 1 (.pointer none) ++ reps 6 (.int .i64 0) ++ reps 256 (.int .u32 0) ++ reps 1 (.pointer none) ++ reps 1 (.slice none 0 0) ++ reps 3 (.int .i64 0)).toArray
theorem row_Mir : RowTy Tryz.prog 149 268 := ⟨⟨_, Tryz.underlying149, rfl⟩, by kernel_rfl⟩
theorem info_Mir : (Tryz.prog.info? 149).map (fun i => (i.zero, i.size, i.bytes)) = some (some (.agg z_Mir), 268, 1136) := by kernel_rfl
theorem size_z_Mir : z_Mir.size = 268 := by kernel_rfl
theorem ld_Mir (f : Operand → Value) (x : Operand) (d : Option Tmp) (t : TypeId) (pos : String) (af : Array Edge) (g : Option (Nat × Bool)) (w : World) :
    (execOp f ⟨d, .load 149 x, t, pos, af, g⟩).run Tryz.prog w = match f x with
      | .pointer (some a) => match cellsAt w a 268 with
        | some cs => .ok (.value (.agg cs)) w
        | none => stuckOp Tryz.prog f ⟨d, .load 149 x, t, pos, af, g⟩ w
      | _ => stuckOp Tryz.prog f ⟨d, .load 149 x, t, pos, af, g⟩ w := op_load 149 268 row_Mir f x d t pos af g w
theorem st_Mir (f : Operand → Value) (p x : Operand) (d : Option Tmp) (t : TypeId) (pos : String) (af : Array Edge) (g : Option (Nat × Bool)) (w : World) :
    (execOp f ⟨d, .store 149 p x, t, pos, af, g⟩).run Tryz.prog w = match f p, f x with
      | .pointer (some a), .agg cs => if cs.size = 268 ∧ cellsFree w a 268 = true ∧ allOne cs = true then .ok .skip (putCells w a cs) else stuckOp Tryz.prog f ⟨d, .store 149 p x, t, pos, af, g⟩ w
      | _, _ => stuckOp Tryz.prog f ⟨d, .store 149 p x, t, pos, af, g⟩ w := op_store 149 268 row_Mir f p x d t pos af g w
theorem al_Mir (f : Operand → Value) (d : Option Tmp) (t : TypeId) (pos : String) (af : Array Edge) (g : Option (Nat × Bool)) (w : World) :
    (execOp f ⟨d, .alloc 149, t, pos, af, g⟩).run Tryz.prog w = .ok (.value (.pointer (some ⟨w.heap.size, 0, none⟩))) (w.alloc (.cells z_Mir 149)) := by
  obtain ⟨i0, hi, hz0, hz1, hz2⟩ := info_parts info_Mir
  exact op_alloc 149 i0 z_Mir hi hz0 f d t pos af g w


theorem fill_at (place : Nat → Option (Nat × Nat)) (base : Array Value) (i off size : Nat) (v : Value) (rest : List (Nat × Value)) (hp : place i = some (off, size)) (hs : v.cells.size = size) (hb : off + size ≤ base.size) : Instr.fill place base ((i, v) :: rest) = Instr.fill place (splice base off v.cells) rest := by
  conv => lhs; unfold Instr.fill
  rw [hp]
  simp only [hs]
  rw [if_neg (by simp; omega)]
  congr 1
  apply Array.ext_getElem?
  intro j
  rw [fold_get _ _ _ _ (by omega), get_splice _ _ _ _ (by omega)]

def mkMir (p : Value) (G T : Array Value) (q s a b : Value) : Array Value := (#[p] ++ G) ++ (T ++ #[q, s, a, b, .int .i64 0])
theorem mkMir_eq (pb : Nat) (g : GeomS) (tab : Array Value) (plb : Nat) (bv : Value) (a b : Int) : mkMir (.pointer (some ⟨pb, 0, none⟩)) (geomC g) tab (.pointer (some ⟨plb, 0, none⟩)) bv (.int .i64 a) (.int .i64 b) = mirC pb g tab plb bv a b 0 := rfl

theorem z_mir_last : z_Mir[267]? = some (.int .i64 0) := by kernel_rfl

theorem mir_splices (p : Value) (G T : Array Value) (q s a b : Value) (hG : G.size = 6) (hT : T.size = 256) :
    splice (splice (splice (splice (splice (splice (splice z_Mir 0 #[p]) 1 G) 7 T) 263 #[q]) 264 #[s]) 265 #[a]) 266 #[b] = mkMir p G T q s a b := by
  have hz := size_z_Mir
  have hl := z_mir_last
  generalize z_Mir = Z at *
  have s7 : ((#[p] : Array Value) ++ G).size = 7 := by simp [hG]
  have hm : (mkMir p G T q s a b).size = 268 := by simp [mkMir, hG, hT]
  apply Array.ext_getElem?
  intro i
  rw [get_splice _ _ _ _ (by simp [size_splice, hz]), get_splice _ _ _ _ (by simp [size_splice, hz]), get_splice _ _ _ _ (by simp [size_splice, hz]), get_splice _ _ _ _ (by simp [size_splice, hz]), get_splice _ _ _ _ (by simp [size_splice, hz, hT]), get_splice _ _ _ _ (by simp [size_splice, hz, hG]), get_splice _ _ _ _ (by simp [hz])]
  simp only [List.size_toArray, List.length_cons, List.length_nil, hG, hT]
  by_cases h0 : i < 7
  · have e : (mkMir p G T q s a b)[i]? = (#[p] ++ G)[i]? := by unfold mkMir; rw [Array.getElem?_append_left (by omega)]
    rw [e, if_neg (by omega), if_neg (by omega), if_neg (by omega), if_neg (by omega), if_neg (by omega)]
    by_cases h1 : i = 0
    · subst h1; rw [if_neg (by omega), if_pos (by omega), Array.getElem?_append_left (by simp)]
    · rw [if_pos (by omega), Array.getElem?_append_right (by simp; omega)]; rfl
  · by_cases h1 : i < 263
    · have e : (mkMir p G T q s a b)[i]? = T[i - 7]? := by unfold mkMir; rw [Array.getElem?_append_right (by omega), Array.getElem?_append_left (by omega), s7]
      rw [e, if_neg (by omega), if_neg (by omega), if_neg (by omega), if_neg (by omega), if_pos (by omega)]
    · have e : (mkMir p G T q s a b)[i]? = (#[q, s, a, b, .int .i64 0] : Array Value)[i - 263]? := by
        unfold mkMir; rw [Array.getElem?_append_right (by omega), Array.getElem?_append_right (by omega), s7, hT, Nat.sub_sub]
      rw [e]
      by_cases h2 : i < 268
      · have hc : i = 263 ∨ i = 264 ∨ i = 265 ∨ i = 266 ∨ i = 267 := by omega
        rcases hc with rfl | rfl | rfl | rfl | rfl
        · rw [if_neg (by omega), if_neg (by omega), if_neg (by omega), if_pos (by omega)]; rfl
        · rw [if_neg (by omega), if_neg (by omega), if_pos (by omega)]; rfl
        · rw [if_neg (by omega), if_pos (by omega)]; rfl
        · rw [if_pos (by omega)]; rfl
        · rw [if_neg (by omega), if_neg (by omega), if_neg (by omega), if_neg (by omega), if_neg (by omega), if_neg (by omega), if_neg (by omega), hl]; rfl
      · rw [if_neg (by omega), if_neg (by omega), if_neg (by omega), if_neg (by omega), if_neg (by omega), if_neg (by omega), if_neg (by omega), Array.getElem?_eq_none (by omega), Array.getElem?_eq_none (by simp; omega)]

theorem build_mir (p q s : Value) (G T : Array Value) (a b : Int) (hp : p.cells = #[p]) (hq : q.cells = #[q]) (hsl : s.cells = #[s]) (hG : G.size = 6) (hT : T.size = 256) (w : World) :
    (Instr.build 149 #[(0, p), (1, .agg G), (2, .agg T), (3, q), (4, s), (5, .int .i64 a), (6, .int .i64 b)]).run Tryz.prog w = .ok (.agg (mkMir p G T q s (.int .i64 a) (.int .i64 b))) w := by
  obtain ⟨i0, hi, hz0, hz1, hz2⟩ := info_parts info_Mir
  have hzv : (zeroValue 149).run Tryz.prog w = .ok (.agg z_Mir) w := by simp [zeroValue, typeInfo, hi, hz0]
  have hu := run_underlying Tryz.underlying149 w
  unfold Instr.build
  simp only [Sem.run_bind, hzv, hu, Result.andThen_ok]
  refine (congrArg (fun r => Result.andThen r _) (show _ = Result.ok #[(0, 1), (1, 6), (7, 256), (263, 1), (264, 1), (265, 1), (266, 1), (267, 1)] w from by kernel_rfl)).trans ?_
  have hz : (Value.agg z_Mir).cells = z_Mir := rfl
  have c1 : (Value.agg G).cells = G := rfl
  have c2 : (Value.agg T).cells = T := rfl
  have c5 : (Value.int .i64 a).cells = #[.int .i64 a] := rfl
  have c6 : (Value.int .i64 b).cells = #[.int .i64 b] := rfl
  have hf : Instr.fill (fun x => (#[(0, 1), (1, 6), (7, 256), (263, 1), (264, 1), (265, 1), (266, 1), (267, 1)] : Array (Nat × Nat))[x]?) z_Mir [(0, p), (1, .agg G), (2, .agg T), (3, q), (4, s), (5, .int .i64 a), (6, .int .i64 b)] = some (mkMir p G T q s (.int .i64 a) (.int .i64 b)) := by
    rw [fill_at _ _ 0 0 1 _ _ rfl (by rw [hp]; rfl) (by rw [size_z_Mir]; omega), fill_at _ _ 1 1 6 _ _ rfl (by rw [c1]; exact hG) (by simp [size_splice, size_z_Mir]), fill_at _ _ 2 7 256 _ _ rfl (by rw [c2]; exact hT) (by simp [size_splice, size_z_Mir]),
      fill_at _ _ 3 263 1 _ _ rfl (by rw [hq]; rfl) (by simp [size_splice, size_z_Mir]), fill_at _ _ 4 264 1 _ _ rfl (by rw [hsl]; rfl) (by simp [size_splice, size_z_Mir]), fill_at _ _ 5 265 1 _ _ rfl (by rw [c5]; rfl) (by simp [size_splice, size_z_Mir]), fill_at _ _ 6 266 1 _ _ rfl (by rw [c6]; rfl) (by simp [size_splice, size_z_Mir])]
    rw [hp, c1, c2, hq, hsl, c5, c6, mir_splices p G T q s _ _ hG hT]
    rfl
  simp only [Result.andThen_ok, hz, hf]
  rfl

theorem bd_Mir (f : Operand → Value) (x0 x1 x2 x3 x4 x5 x6 : Operand) (d : Option Tmp) (t : TypeId) (pos : String) (af : Array Edge) (g : Option (Nat × Bool)) (w : World) :
    (execOp f ⟨d, .build 149 #[(0, x0), (1, x1), (2, x2), (3, x3), (4, x4), (5, x5), (6, x6)], t, pos, af, g⟩).run Tryz.prog w = match f x0, f x1, f x2, f x3, f x4, f x5, f x6 with
      | .pointer p, .agg G, .agg T, .pointer q, .slice s n c, .int .i64 a, .int .i64 b => if G.size = 6 ∧ T.size = 256 then .ok (.value (.agg (mkMir (.pointer p) G T (.pointer q) (.slice s n c) (.int .i64 a) (.int .i64 b)))) w else stuckOp Tryz.prog f ⟨d, .build 149 #[(0, x0), (1, x1), (2, x2), (3, x3), (4, x4), (5, x5), (6, x6)], t, pos, af, g⟩ w
      | _, _, _, _, _, _, _ => stuckOp Tryz.prog f ⟨d, .build 149 #[(0, x0), (1, x1), (2, x2), (3, x3), (4, x4), (5, x5), (6, x6)], t, pos, af, g⟩ w := by
  split
  · rename_i p G T q s n c a b h0 h1 h2 h3 h4 h5 h6
    split
    · rename_i hh
      have := build_mir (.pointer p) (.pointer q) (.slice s n c) G T a b rfl rfl rfl hh.1 hh.2 w
      simp [execOp, h0, h1, h2, h3, h4, h5, h6, this]
    · rfl
  · rfl
end Go.Rv
