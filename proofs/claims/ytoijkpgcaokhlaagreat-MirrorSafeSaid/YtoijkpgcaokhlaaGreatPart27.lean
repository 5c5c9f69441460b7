/- Sums: what stands ahead of a right sum. -/
import Derived.Test.YtoijkpgcaokhlaaGreatPart26
import Derived.Test.YtoijkpgcaokhlaaGreatPart24
import Derived.Laws.CopyOwn
set_option linter.unusedVariables false
set_option linter.unusedSimpArgs false
namespace Go.Rv
open Go Go.RowKit Go.Proofs
attribute [local irreducible] wpQuiet tab0 tabV
attribute [local go_sem ↓] ld_Table st_Table al_Table
attribute [local go_sem] cellsAt_new0 cellsAt_lt cellsAt_drew size_bytesV

/-- whether the last four bytes are the sum of those ahead. -/
def sumOk (T : Nat → Int) (l : List UInt8) (n : Nat) : Prop := l.drop n = leB 4 (crcSum T (l.take n))
theorem leB_take : ∀ (d k : Nat) (v : Int), d ≤ k → (leB k v).take d = leB d v
  | 0, _, _, _ => by simp [leB]
  | d + 1, 0, _, h => by omega
  | d + 1, k + 1, v, h => by simp [leB, leB_take d k (v / 256) (by omega)]

set_option maxHeartbeats 600000 in
set_option maxRecDepth 100000 in
theorem topen_calls (T : Nat → Int) (b o cap m n : Nat) (l : List UInt8) (hlm : l.length = m) (hmn : m = n + 4) (w : World) (hb : BytesAt w b o l) (h0 : 0 < n) (hl : m ≤ 1000) (hcap : m ≤ cap) : Calls Tryz.prog 193 #[.agg (tabV T), .slice (some ⟨b, o, none⟩) m cap] w fun e w' =>
    (sumOk T l n ∧ (∃ g cap', e = .returned (.tuple #[.slice (some ⟨g, 0, none⟩) n cap', .int .i64 0]) ∧ w.heap.size ≤ g ∧ BytesAt w' g 0 (l.take n)) ∧ Keeps (fun _ => False) w w') ∨ (¬ sumOk T l n ∧ e = .returned (.tuple #[.slice none 0 0, .int .i64 11]) ∧ Keeps (fun _ => False) w w') := by
  subst hmn
  have hTs := size_tabV T
  obtain ⟨TT, hTT⟩ : ∃ TT, tabV T = TT := ⟨_, rfl⟩
  obtain ⟨s0, hs0⟩ : ∃ s0, crcSum T (l.take n) = s0 := ⟨_, rfl⟩
  have hsb := crcSum_bd T (l.take n)
  rw [hs0] at hsb
  have hkx : Keeps (fun _ => False) w (w.alloc (.cells TT 72)) := (by repeat (first | exact Keeps.refl _ _ | refine Keeps.alloc ?_ _ | refine Keeps.drew ?_ | refine Keeps.drewN ?_ _ | refine Keeps.trans ?_ (by assumption)))
  have hbx := heap_new w (.cells TT 72)
  obtain ⟨w0, hw0⟩ : ∃ w0, w.alloc (.cells TT 72) = w0 := ⟨_, rfl⟩
  rw [hw0] at hkx hbx
  have HSM : Hid (∀ X, Keeps (fun _ => False) w0 X → Calls Tryz.prog 82 #[.agg TT, .slice (some ⟨b, o, none⟩) n cap] X fun e w' => e = .returned (.int .u32 s0) ∧ Keeps (fun _ => False) X w') := hid fun X hX => by
    rw [← hTT, ← hs0]
    exact sum_n T b o cap n (l.take n) (by rw [List.length_take]; omega) X (((hb.part n).1).keeps (hkx.trans hX) id) (by omega)
  rw [hTT] at hTs ⊢
  have H := hid (And.intro hb (And.intro hkx (And.intro hbx (And.intro hlm (And.intro hsb (And.intro hs0 hTT))))))
  have hs5 : w0.rangeAt w.heap.size 0 TT.toList := fun j v hv => by
    rw [Nat.zero_add, cell_of hbx j]; simpa using hv
  have hun := Tryz.underlying72
  have hts2 : TT.toList.toArray = TT := by simp
  have hts3 : TT.toList.length = 256 := by simp [hTs]
  have hin : (Tryz.prog.info? 72).map (·.size) = some TT.toList.length := by
    rw [Array.length_toList, hTs]; kernel_rfl
  have d1 : IntKind.i64.wrap (((n + 4 : Nat) : Int) - 4) = (n : Int) := by rw [show ((n + 4 : Nat) : Int) - 4 = n by omega]; exact IntWalk.i64_in _ (by omega)
  have d2 : decide ((n : Int) < 0) = false := by simp
  have d3 : (n : Int) ≤ (cap : Int) := by omega
  have d4 : (n : Int) ≤ ((n + 4 : Nat) : Int) := by omega
  have d5 : ¬ cap = n := by omega
  have d6 : (0 : Int) ≤ n := by omega
  clear hb hkx hbx hlm hsb hs0 hTT
  go_enter Tryz.func193, Tryz.ntmps193
  go_wp2_with fail
  clear hw0
  go_region_held3 (fun X => X.rangeAt w.heap.size 0 TT.toList) (repeat (first | assumption | refine World.rangeAt_alloc ?_ _ | (refine (World.rangeAt_drew _ _ _ _).2 ?_) | exact h5'))
    ((go_at_call 82; refine Calls.mono (HSM.out _ ((Keeps.refl _ _).drew)) ?_; rintro r w1 ⟨rfl, hk1⟩; have hk1' : Keeps (fun _ => False) w0 w1 := Keeps.trans (by repeat (first | exact Keeps.refl _ _ | refine Keeps.alloc ?_ _ | refine Keeps.drew ?_ | refine Keeps.drewN ?_ _ | refine Keeps.trans ?_ (by assumption))) hk1; have h5' : w1.rangeAt w.heap.size 0 TT.toList := fun j v hv => (hk1'.cell (cell_lt (hs5 j v hv)) id).trans (hs5 j v hv)))
  have hby := (H.out.1.part n).2.keeps (H.out.2.1.trans hk1') id
  have H1 := hid (And.intro (H.out.2.1.trans hk1') hby)
  clear hk1 hk1' h5' hby hs5
  go_wp2_with fail
  go_loopg [7, 24] 4 (fun (gk : Nat) (s i : Value) (wr : World) => ∃ d : Nat, d + gk = 4 ∧ i = .int .i64 d ∧ s = .int .u32 (widP s0 d) ∧ (l.drop n).take d = leB d s0 ∧ wr = w1)
  case atStart => exact ⟨0, by omega, rfl, rfl, by simp [leB], rfl⟩
  case round =>
    obtain ⟨d, hd, rfl, rfl, htk, rfl⟩ := hrel
    have hlen : (l.drop n).length = 4 := by rw [List.length_drop, H.out.2.2.2.1]; omega
    by_cases c : d < 4
    · have dd : decide (d < 4) = true := by simpa using c
      have hcell := H1.out.2 d (by omega)
      have hgd : (l.drop n)[d]? = some ((l.drop n)[d]'(by omega)) := List.getElem?_eq_getElem (by omega)
      obtain ⟨x, hx⟩ : ∃ x, (l.drop n)[d]'(by omega) = x := ⟨_, rfl⟩
      rw [hx] at hcell hgd
      unfold byteV at hcell
      have hw0 : 0 ≤ widP s0 d ∧ widP s0 d ≤ 4294967295 := by
        have hc : d = 0 ∨ d = 1 ∨ d = 2 ∨ d = 3 := by omega
        have hb := H.out.2.2.2.2.1
        rcases hc with rfl | rfl | rfl | rfl <;> simp only [widP] <;> omega
      have HT := hid (And.intro htk (And.intro hlen hgd))
      clear htk hlen hgd hx
      obtain ⟨v, hv⟩ : ∃ v, widP s0 d = v := ⟨_, rfl⟩
      have hv1 : widP s0 (d + 1) = v / 256 := by rw [← hv]; rfl
      rw [hv] at hw0 ⊢
      have HV := hid (And.intro hv hv1)
      have hwr : IntKind.u8.wrap v = v % 256 := IntKind.wrap_u8 v
      clear hv hv1
      have hls : leB (d + 1) s0 = leB d s0 ++ [byteOf v] := by rw [leB_snoc, HV.out.1]
      have HLS := hid hls
      clear hls
      by_cases k : (x.toNat : Int) = v % 256
      · have HK := hid k
        go_wp2_with fail
        go_roundg (gk - 1)
        case measure => omega
        case rel =>
          refine ⟨d + 1, by omega, by go_num, by rw [HV.out.2], ?_, rfl⟩
          have hbo : byteOf v = x := by
            apply UInt8.toNat_inj.1
            have h1 := byteV_of v
            unfold byteV at h1
            have h2 : ((byteOf v).toNat : Int) = v % 256 := by simpa using h1
            have := HK.out
            omega
          rw [HLS.out, hbo, ← HT.out.1, List.take_add_one, HT.out.2.2]; rfl
      · have k' : ((x.toNat : Int) != v % 256) = true := by simpa using k
        have HK := hid k
        clear k
        go_wp2_with fail
        go_ret2
        refine .inr ⟨fun hok => ?_, rfl, H1.out.1⟩
        unfold sumOk at hok
        rw [H.out.2.2.2.2.2.1] at hok
        have e1 : (l.drop n).take (d + 1) = leB (d + 1) s0 := by rw [hok]; exact leB_take _ _ _ (by omega)
        rw [List.take_add_one, HT.out.2.2, HT.out.1, HLS.out] at e1
        have e2 : x = byteOf v := by simpa using e1
        have h1 := byteV_of v
        unfold byteV at h1
        have h2 : ((byteOf v).toNat : Int) = v % 256 := by simpa using h1
        rw [← e2] at h2
        exact HK.out h2
    · have hd4 : d = 4 := by omega
      subst hd4
      have hok : sumOk T l n := by
        unfold sumOk
        rw [H.out.2.2.2.2.2.1, ← htk, List.take_of_length_le (by omega)]
      have HOK := hid hok
      obtain ⟨i0, hi, hz0, hz1, hz2⟩ := info_parts infoU8
      have HI := hid (And.intro hi (And.intro hz0 (And.intro hz1 hz2)))
      clear hok htk hlen hi hz0 hz1 hz2
      obtain ⟨hi, hz0, hz1, hz2⟩ := HI.out
      go_wp2_with (at_builtin; refine wpList_append_tag rfl (.tmp 35) (.tmp 38) rfl Tryz.underlying174 hi hz0 hz1 hz2 rfl (by decide) rfl (Q := fun _ => False) (n := 0) (m := n) (xs := []) ?own rfl (news := (l.take n).map byteV) ?c0 ?c1 ?c2 ?c3 ?c4 h0 ?go)
      case own => exact ⟨by simp, .inl ⟨_, rfl, rfl⟩⟩
      case c0 => simp; have := H.out.2.2.2.1; omega
      case c1 =>
        have := ((H.out.1.part n).1).keeps (M := fun _ => False) (w' := wr.alloc (.cells #[] 5)) (H1.out.1.alloc _) id
        exact this.news
      case c2 => exact fun u hu => by obtain ⟨c, _, rfl⟩ := List.mem_map.1 hu; rfl
      case c3 => unfold maxLen; omega
      case c4 => omega
      case go =>
        intro g cap' w3 hown hg hk3
        have hgp : w.heap.size ≤ g := by
          have := H1.out.1.size
          omega
        have hrow := (rowAt_of_owns hown hgp : RowAt w3 (fun k => w.heap.size ≤ k) _ _ _ _ _)
        have HY := hid (And.intro hrow (And.intro hk3 hgp))
        clear hown hg hk3 hrow hgp hi hz0 hz1 hz2
        go_wp2_with fail
        go_ret2
        have hr := HY.out.1
        try simp only [Nat.zero_add, List.nil_append] at hr
        exact .inl ⟨HOK.out, ⟨g, cap', rfl, HY.out.2.2, ((by rw [List.map_take]; exact hr : RowAt w3 (fun k => w.heap.size ≤ k) 5 1 (.slice (some ⟨g, 0, none⟩) n cap') n ((l.take n).map byteV)).bytes h0).1⟩, (H1.out.1.alloc _).trans HY.out.2.1⟩
end Go.Rv

/- Entries: a block of one byte. -/
namespace Go.Rv
open Go Go.RowKit Go.Proofs
attribute [local irreducible] wpQuiet tab0 tabV
attribute [local go_sem ↓] ld_Block st_Block al_Block
attribute [local go_sem] cellsAt_new0 cellsAt_lt cellsAt_drew size_bytesV

def fillTo (x : UInt8) (d : Nat) : List UInt8 := List.replicate d x ++ List.replicate (32 - d) 0
theorem fillTo_len (x : UInt8) (d : Nat) (h : d ≤ 32) : (fillTo x d).length = 32 := by simp [fillTo]; omega
theorem fillTo_step (x : UInt8) (d : Nat) (h : d < 32) : (bytesV (fillTo x d)).setIfInBounds d (byteV x) = bytesV (fillTo x (d + 1)) := by
  apply Array.ext_getElem?
  intro i
  rw [Array.getElem?_setIfInBounds]
  have l1 := fillTo_len x d (by omega)
  have e1 : ∀ k j, (bytesV (fillTo x k))[j]? = (fillTo x k)[j]?.map byteV := fun k j => by rw [bytesV, List.getElem?_toArray, List.getElem?_map]
  rw [e1, e1]
  have e2 : ∀ k j, k ≤ 32 → (fillTo x k)[j]? = if j < k then some x else if j < 32 then some 0 else none := fun k j hk => by
    unfold fillTo
    by_cases h1 : j < k
    · rw [List.getElem?_append_left (by simpa using h1), if_pos h1]; simp [h1]
    · rw [List.getElem?_append_right (by simpa using h1), if_neg h1]
      by_cases h2 : j < 32
      · rw [if_pos h2, List.length_replicate, List.getElem?_replicate, if_pos (by omega)]
      · rw [if_neg h2, List.length_replicate, List.getElem?_replicate, if_neg (by omega)]
  rw [e2 _ _ (by omega), e2 _ _ (by omega)]
  by_cases c : d = i
  · subst c
    rw [if_pos rfl, if_pos (by simp [bytesV, l1]; omega), if_pos (by omega)]; rfl
  · rw [if_neg c]
    by_cases c1 : i < d
    · rw [if_pos c1, if_pos (by omega)]
    · rw [if_neg c1, if_neg (show ¬ i < d + 1 by omega)]
theorem fillTo_zero (x : UInt8) : bytesV (fillTo x 0) = z_Block := by simp [fillTo]; rfl
theorem fillTo_all (x : UInt8) : fillTo x 32 = List.replicate 32 x := by simp [fillTo]

set_option maxHeartbeats 400000 in
set_option maxRecDepth 100000 in
theorem efill_calls (x : UInt8) (w : World) : Calls Tryz.prog 38 #[byteV x] w fun e w' => e = .returned (.agg (bytesV (List.replicate 32 x))) ∧ Keeps (fun _ => False) w w' := by
  have hbv : byteV x = .int .u8 x.toNat := rfl
  rw [hbv]
  clear hbv
  go_enter Tryz.func38, Tryz.ntmps38
  go_wp2_with fail
  go_loopg [5] 32 (fun (gk : Nat) (i : Value) (wr : World) => ∃ d : Nat, d + gk = 32 ∧ i = .int .i64 d ∧ wr.heap[w.heap.size]? = some (.cells z_Block 87 (0, 0)) ∧ wr.heap[w.heap.size + 1]? = some (.cells (bytesV (fillTo x d)) 87 (0, 0)) ∧ Keeps (fun _ => False) w wr)
  case atStart =>
    refine ⟨0, by omega, rfl, heap_old _ _ (heap_new _ _), ?_, (by repeat (first | exact Keeps.refl _ _ | refine Keeps.alloc ?_ _ | refine Keeps.drew ?_ | refine Keeps.drewN ?_ _ | refine Keeps.trans ?_ (by assumption)))⟩
    rw [fillTo_zero]
    have := heap_new (w.alloc (.cells z_Block 87)) (.cells z_Block 87)
    rwa [World.size_alloc] at this
  case round =>
    obtain ⟨d, hd, rfl, h1, h2, hk⟩ := hrel
    by_cases c : d < 32
    · have dd : decide ((d : Int) < 32) = true := by simp; omega
      have d0 : decide ((0 : Int) ≤ d) = true := by simp
      obtain ⟨v, hv⟩ : ∃ v, wr.cell? ⟨w.heap.size + 1, d, none⟩ = some v := ⟨_, (cell_of h2 d).trans (Array.getElem?_eq_getElem (by simp [bytesV, fillTo_len x d (by omega)]; omega))⟩
      have hf := free_of h2 d
      have H := hid (And.intro h1 (And.intro h2 hk))
      clear h1 h2 hk
      go_wp2_with fail
      go_roundg (gk - 1)
      case measure => omega
      case rel =>
        refine ⟨d + 1, by omega, by go_num, ?_, ?_, H.out.2.2.setCell (fun h => absurd h (by simp)) _⟩
        · rw [heap_set_ne _ _ (by omega)]; exact H.out.1
        · rw [← fillTo_step x d c]; exact heap_set H.out.2.1 d _
    · have hd32 : d = 32 := by omega
      subst hd32
      rw [fillTo_all] at h2
      have e1 := cellsAt_full (n := 32) h2 (by simp [bytesV])
      have e2 := cellsFree_full (n := 32) h1 rfl
      have e3 := allOne_bytes (List.replicate 32 x)
      have e4 : (bytesV (List.replicate 32 x)).size = 32 := by simp [bytesV]
      have H := hid (And.intro h1 (And.intro h2 hk))
      obtain ⟨B, hB⟩ : ∃ B, bytesV (List.replicate 32 x) = B := ⟨_, rfl⟩
      rw [hB] at e1 e3 e4
      have HB := hid (And.intro hB e4)
      clear h1 h2 hk hB
      go_wp2_with fail
      refine bodyPost_ret (results_cell1 rfl row_Block _ rfl (cellsAt_full (putCells_at H.out.1 (by rw [HB.out.2]; rfl)) HB.out.2)) rfl ⟨by rw [HB.out.1], ?_⟩
      exact keeps_put0 H.out.2.2 (fun h => absurd h (Nat.lt_irrefl _)) _
end Go.Rv

/- Frames: a sector's frame. -/
namespace Go.Rv
open Go Go.RowKit Go.Proofs
attribute [local irreducible] wpQuiet tab0 tabV
attribute [local go_sem ↓] ld_Table st_Table al_Table ld_Sector st_Sector al_Sector ld_Frame st_Frame al_Frame bd_Frame0
attribute [local go_sem] cellsAt_new0 cellsAt_lt cellsAt_drew size_bytesV cellsFree_new0 size_z_Frame

set_option maxHeartbeats 600000 in
set_option maxRecDepth 100000 in
theorem decode_bad (T : Nat → Int) (S : List UInt8) (hS : S.length = 64) (hno : ¬ sumOk T S 60) (w : World) : Calls Tryz.prog 154 #[.agg (tabV T), .agg (bytesV S)] w fun e w' => e = .returned (.tuple #[.agg (frmC FrmS.zero), .int .i64 11]) ∧ Keeps (fun _ => False) w w' := by
  have hTs := size_tabV T
  obtain ⟨TT, hTT⟩ : ∃ TT, tabV T = TT := ⟨_, rfl⟩
  rw [hTT] at hTs ⊢
  have e6 : (bytesV S).size = 64 := by simp [bytesV, hS]
  have h0 := heap_old _ (.cells z_Frame 120) (heap_old _ (.cells (bytesV S) 103) (heap_new w (.cells TT 72)))
  have h1 : (((w.alloc (.cells TT 72)).alloc (.cells (bytesV S) 103)).alloc (.cells z_Frame 120)).heap[w.heap.size + 1]? = some (.cells (bytesV S) 103 (0, 0)) := heap_old _ _ (by have := heap_new (w.alloc (.cells TT 72)) (.cells (bytesV S) 103); rwa [World.size_alloc] at this)
  have h2 : (((w.alloc (.cells TT 72)).alloc (.cells (bytesV S) 103)).alloc (.cells z_Frame 120)).heap[w.heap.size + 2]? = some (.cells z_Frame 120 (0, 0)) := by
    have := heap_new ((w.alloc (.cells TT 72)).alloc (.cells (bytesV S) 103)) (.cells z_Frame 120)
    rwa [World.size_alloc, World.size_alloc] at this
  have hk0 : Keeps (fun _ => False) w (((w.alloc (.cells TT 72)).alloc (.cells (bytesV S) 103)).alloc (.cells z_Frame 120)) := (by repeat (first | exact Keeps.refl _ _ | refine Keeps.alloc ?_ _ | refine Keeps.drew ?_ | refine Keeps.drewN ?_ _ | refine Keeps.trans ?_ (by assumption)))
  obtain ⟨w0, hw0⟩ : ∃ w0, ((w.alloc (.cells TT 72)).alloc (.cells (bytesV S) 103)).alloc (.cells z_Frame 120) = w0 := ⟨_, rfl⟩
  rw [hw0] at h0 h1 h2 hk0
  have H := hid (And.intro h1 (And.intro h2 hk0))
  have hs5 : w0.rangeAt w.heap.size 0 TT.toList := fun j v hv => by
    rw [Nat.zero_add, cell_of h0 j]; simpa using hv
  have HO : Hid (∀ X, Keeps (fun _ => False) w0 X → Calls Tryz.prog 193 #[.agg TT, .slice (some ⟨w.heap.size + 1, 0, none⟩) 64 64] X fun e w' => e = .returned (.tuple #[.slice none 0 0, .int .i64 11]) ∧ Keeps (fun _ => False) X w') := hid fun X hX => by
    rw [← hTT]
    have hby : BytesAt X (w.heap.size + 1) 0 S := fun j hj => by
      rw [Nat.zero_add, cell_of (hX.heap H.out.1 id) j]
      simp [bytesV, hj]
    refine (topen_calls T (w.heap.size + 1) 0 64 64 60 S hS rfl X hby (by omega) (by omega) (by omega)).mono ?_
    rintro e w' (⟨h, -⟩ | ⟨-, h1, h2⟩)
    · exact absurd h hno
    · exact ⟨h1, h2⟩
  have hun := Tryz.underlying72
  have hts2 : TT.toList.toArray = TT := by simp
  have hts3 : TT.toList.length = 256 := by simp [hTs]
  have hin : (Tryz.prog.info? 72).map (·.size) = some TT.toList.length := by
    rw [Array.length_toList, hTs]; kernel_rfl
  have ZF := hid frmC_zero
  clear h0 h1 h2 hk0 hno hS hTT
  go_enter Tryz.func154, Tryz.ntmps154
  go_wp2_with fail
  clear hw0
  go_region_held3 (fun X => X.rangeAt w.heap.size 0 TT.toList) (repeat (first | assumption | refine World.rangeAt_alloc ?_ _ | (refine (World.rangeAt_drew _ _ _ _).2 ?_) | exact h5'))
    ((go_at_call 193; refine Calls.mono (HO.out _ ((Keeps.refl _ _).drew)) ?_; rintro r w1 ⟨rfl, hk1⟩; have hk1' : Keeps (fun _ => False) w0 w1 := Keeps.trans (by repeat (first | exact Keeps.refl _ _ | refine Keeps.alloc ?_ _ | refine Keeps.drew ?_ | refine Keeps.drewN ?_ _ | refine Keeps.trans ?_ (by assumption))) hk1; have h5' : w1.rangeAt w.heap.size 0 TT.toList := fun j v hv => (hk1'.cell (cell_lt (hs5 j v hv)) id).trans (hs5 j v hv)))
  have zr0 : (allOne z_Frame) = true := by rw [ZF.out]; exact frm_one _
  have fr := cellsFree_full (n := 49) (hk1'.heap H.out.2.1 id) size_z_Frame
  have H1 := hid (And.intro (hk1'.heap H.out.2.1 id) (H.out.2.2.trans hk1'))
  clear hk1 hk1' h5' hs5
  go_wp2_with fail
  refine bodyPost_ret (results_cell2 rfl row_Frame _ rfl (cellsAt_full (putCells_at H1.out.1 rfl) size_z_Frame)) rfl ⟨by rw [ZF.out]; rfl, ?_⟩
  exact keeps_put0 H1.out.2 (fun h => absurd h (by omega)) _
end Go.Rv

/- Frames: one is built of its kind alone. -/
namespace Go.Rv
open Go Go.RowKit Go.Proofs

theorem build_frm1 (k : Int) (w : World) : (Instr.build 120 #[(0, .int .i64 k)]).run Tryz.prog w = .ok (.agg (frmC ⟨k, 0, 0, 0, 0, zero44⟩)) w := by
  obtain ⟨i0, hi, hz0, hz1, hz2⟩ := info_parts info_Frame
  have hzv : (zeroValue 120).run Tryz.prog w = .ok (.agg z_Frame) w := by simp [zeroValue, typeInfo, hi, hz0]
  have hu := run_underlying Tryz.underlying120 w
  unfold Instr.build
  simp only [Sem.run_bind, hzv, hu, Result.andThen_ok]
  refine (congrArg (fun r => Result.andThen r _) (show _ = Result.ok #[(0, 1), (1, 1), (2, 1), (3, 1), (4, 1), (5, 44)] w from by kernel_rfl)).trans ?_
  have hz : (Value.agg z_Frame).cells = z_Frame := rfl
  have hf : Instr.fill (fun x => (#[(0, 1), (1, 1), (2, 1), (3, 1), (4, 1), (5, 44)] : Array (Nat × Nat))[x]?) z_Frame [(0, .int .i64 k)] = some (frmC ⟨k, 0, 0, 0, 0, zero44⟩) := by
    rw [fill_int _ _ 0 0 k _ rfl (by rw [size_z_Frame]; omega)]
    rw [frmC_zero]
    rfl
  simp only [Result.andThen_ok, hz, hf]
  rfl
theorem bd_Frame1 (f : Operand → Value) (x0 : Operand) (d : Option Tmp) (t : TypeId) (pos : String) (af : Array Edge) (g : Option (Nat × Bool)) (w : World) :
    (execOp f ⟨d, .build 120 #[(0, x0)], t, pos, af, g⟩).run Tryz.prog w = match f x0 with
      | .int .i64 k => .ok (.value (.agg (frmC ⟨k, 0, 0, 0, 0, zero44⟩))) w
      | _ => stuckOp Tryz.prog f ⟨d, .build 120 #[(0, x0)], t, pos, af, g⟩ w := by
  split
  · rename_i k h0
    have := build_frm1 k w
    simp [execOp, h0, this]
  · rfl
/-- the frame that 60 bytes say. -/
def decF (B : List UInt8) : FrmS := ⟨leV (B.take 1), leV ((B.drop 2).take 2), leV ((B.drop 4).take 2), leV ((B.drop 6).take 4), leV ((B.drop 10).take 6), B.drop 16⟩
end Go.Rv

/- Frames: what is written is what is read: plain. -/
namespace Go.Rv
open Go Go.RowKit Go.Proofs

theorem leV_leB : ∀ (n v : Nat), leV (leB n (v : Int)) = v % 256 ^ n
  | 0, v => by simp [leB, leV]; omega
  | n + 1, v => by
    have h1 : (byteOf (v : Int)).toNat = v % 256 := by
      have := byteV_of (v : Int)
      unfold byteV at this
      have h2 : ((byteOf (v : Int)).toNat : Int) = (v : Int) % 256 := by simpa using this
      omega
    have h3 : (v : Int) / 256 = ((v / 256 : Nat) : Int) := by omega
    simp only [leB, leV]
    rw [h3, leV_leB n (v / 256), h1, Nat.pow_succ, Nat.mul_comm (256 ^ n) 256, Nat.mod_mul]
theorem leV_leB_in {n : Nat} {v : Int} (h0 : 0 ≤ v) (h1 : v < 256 ^ n) : (leV (leB n v) : Int) = v := by
  obtain ⟨k, rfl⟩ : ∃ k : Nat, v = k := ⟨v.toNat, by omega⟩
  have e : ((256 ^ n : Nat) : Int) = (256 : Int) ^ n := Int.natCast_pow 256 n
  rw [leV_leB, Nat.mod_eq_of_lt (by omega)]
theorem take_len {l m : List UInt8} {n : Nat} (h : l.length = n) : (l ++ m).take n = l ∧ (l ++ m).drop n = m := by
  subst h; exact ⟨List.take_left .., List.drop_left ..⟩
theorem decF_head (F : FrmS) (hb : F.body.length = 44) (hr : F.right = true) : decF (frmHead F) = F ∧ leV (((frmHead F).drop 1).take 1) = 1 := by
  have hbd : (1 ≤ F.kind ∧ F.kind ≤ 5) ∧ (0 ≤ F.zone ∧ F.zone ≤ 65535) ∧ (0 ≤ F.off ∧ F.off ≤ 65535) ∧ (1 ≤ F.epoch ∧ F.epoch ≤ 4294967295) ∧ (0 ≤ F.seq ∧ F.seq ≤ 281474976710655) := by
    simp [FrmS.right, inB] at hr; omega
  have e : frmHead F = leB 1 F.kind ++ (leB 1 1 ++ (leB 2 F.zone ++ (leB 2 F.off ++ (leB 4 F.epoch ++ (leB 6 F.seq ++ F.body))))) := by
    unfold frmHead; simp only [List.append_assoc]
  obtain ⟨a1, a2⟩ := take_len (l := leB 1 F.kind) (m := leB 1 1 ++ (leB 2 F.zone ++ (leB 2 F.off ++ (leB 4 F.epoch ++ (leB 6 F.seq ++ F.body))))) (n := 1) (leB_len _ _)
  obtain ⟨b1, b2⟩ := take_len (l := leB 1 1) (m := leB 2 F.zone ++ (leB 2 F.off ++ (leB 4 F.epoch ++ (leB 6 F.seq ++ F.body)))) (n := 1) (leB_len _ _)
  obtain ⟨c1, c2⟩ := take_len (l := leB 2 F.zone) (m := leB 2 F.off ++ (leB 4 F.epoch ++ (leB 6 F.seq ++ F.body))) (n := 2) (leB_len _ _)
  obtain ⟨d1, d2⟩ := take_len (l := leB 2 F.off) (m := leB 4 F.epoch ++ (leB 6 F.seq ++ F.body)) (n := 2) (leB_len _ _)
  obtain ⟨f1, f2⟩ := take_len (l := leB 4 F.epoch) (m := leB 6 F.seq ++ F.body) (n := 4) (leB_len _ _)
  obtain ⟨g1, g2⟩ := take_len (l := leB 6 F.seq) (m := F.body) (n := 6) (leB_len _ _)
  have x2 : (frmHead F).drop 2 = leB 2 F.zone ++ (leB 2 F.off ++ (leB 4 F.epoch ++ (leB 6 F.seq ++ F.body))) := by
    rw [show 2 = 1 + 1 from rfl, ← List.drop_drop, e, a2, b2]
  have x4 : (frmHead F).drop 4 = leB 2 F.off ++ (leB 4 F.epoch ++ (leB 6 F.seq ++ F.body)) := by
    rw [show 4 = 2 + 2 from rfl, ← List.drop_drop, x2, c2]
  have x6 : (frmHead F).drop 6 = leB 4 F.epoch ++ (leB 6 F.seq ++ F.body) := by
    rw [show 6 = 4 + 2 from rfl, ← List.drop_drop, x4, d2]
  have x10 : (frmHead F).drop 10 = leB 6 F.seq ++ F.body := by
    rw [show 10 = 6 + 4 from rfl, ← List.drop_drop, x6, f2]
  have x16 : (frmHead F).drop 16 = F.body := by
    rw [show 16 = 10 + 6 from rfl, ← List.drop_drop, x10, g2]
  constructor
  · unfold decF
    rw [x2, x4, x6, x10, x16, c1, d1, f1, g1, e, a1]
    rw [leV_leB_in (by omega) (by omega), leV_leB_in (by omega) (by omega), leV_leB_in (by omega) (by omega), leV_leB_in (by omega) (by omega), leV_leB_in (by omega) (by omega)]
  · rw [e, a2, b1]; rfl
theorem sealed_ok (T : Nat → Int) (F : FrmS) (hb : F.body.length = 44) : sumOk T (frmSec T F) 60 ∧ (frmSec T F).take 60 = frmHead F := by
  have hl := frmHead_len F hb
  unfold frmSec sealB
  obtain ⟨a1, a2⟩ := take_len (l := frmHead F) (m := leB 4 (crcSum T (frmHead F))) (n := 60) hl
  exact ⟨by unfold sumOk; rw [a1, a2], a1⟩
end Go.Rv

/- Frames: a sector that says a frame. -/
namespace Go.Rv
open Go Go.RowKit Go.Proofs
attribute [local irreducible] wpQuiet tab0 tabV
attribute [local go_sem ↓] ld_Table st_Table al_Table ld_Sector st_Sector al_Sector ld_Frame st_Frame al_Frame bd_Frame0 bd_Frame1
attribute [local go_sem] cellsAt_new0 cellsAt_lt cellsAt_drew size_bytesV cellsFree_new0 size_z_Frame

/-- decoding, behind the sum: the result's block, the frame's, the reader. -/
structure DecAt (w : World) (F : FrmS) (rs fb rb : Nat) (l : List UInt8) (X : World) : Prop where
  keeps : Keeps (fun _ => False) w X
  res : X.heap[rs]? = some (.cells z_Frame 120 (0, 0))
  frm : X.heap[fb]? = some (.cells (frmC F) 120 (0, 0))
  rd : RdAt X rb l
  far : w.heap.size + 2 = rs ∧ rs < rb ∧ rb < fb
theorem DecAt.turn {w : World} {F : FrmS} {rs fb rb : Nat} {l l' : List UInt8} {X Y : World} (h : DecAt w F rs fb rb l X) (hk : Keeps (fun k => k = rb) X Y) (hr : RdAt Y rb l') : DecAt w F rs fb rb l' Y :=
  ⟨h.keeps.trans' hk fun i hi e => by have := h.far; omega, hk.heap h.res (by have := h.far; omega), hk.heap h.frm (by have := h.far; omega), hr, h.far⟩
theorem DecAt.num {w : World} {F : FrmS} {rs fb rb : Nat} {l : List UInt8} {X : World} (h : DecAt w F rs fb rb l X) (n : Nat) (m : Int) (hm : m = n) (hn : n ≤ l.length) (h0 : 0 < n) (h7 : n ≤ 7) : Calls Tryz.prog 195 #[.pointer (some ⟨rb, 0, none⟩), .int .i64 m] X fun e w' =>
    e = .returned (.int .i64 (leV (l.take n) : Nat)) ∧ DecAt w F rs fb rb (l.drop n) w' := by
  subst hm
  exact (rnum_calls rb l n X h.rd hn h0 h7).mono fun e w' ⟨h1, h2, h3⟩ => ⟨h1, h.turn h3 h2⟩

set_option maxHeartbeats 600000 in
set_option maxRecDepth 100000 in
theorem decode_good (T : Nat → Int) (S : List UInt8) (hS : S.length = 64) (hok : sumOk T S 60) (w : World) : Calls Tryz.prog 154 #[.agg (tabV T), .agg (bytesV S)] w fun e w' => e = .returned (.tuple (if leV (((S.take 60).drop 1).take 1) = 1 ∧ (decF (S.take 60)).right = true then #[.agg (frmC (decF (S.take 60))), .int .i64 0] else #[.agg (frmC FrmS.zero), .int .i64 10])) ∧ Keeps (fun _ => False) w w' := by
  have hTs := size_tabV T
  obtain ⟨TT, hTT⟩ : ∃ TT, tabV T = TT := ⟨_, rfl⟩
  rw [hTT] at hTs ⊢
  obtain ⟨B, hB⟩ : ∃ B, S.take 60 = B := ⟨_, rfl⟩
  have hBl : B.length = 60 := by rw [← hB, List.length_take, hS]; rfl
  rw [hB]
  obtain ⟨RV, hRV⟩ : ∃ RV, (if leV ((B.drop 1).take 1) = 1 ∧ (decF B).right = true then #[.agg (frmC (decF B)), .int .i64 0] else #[.agg (frmC FrmS.zero), .int .i64 10] : Array Value) = RV := ⟨_, rfl⟩
  rw [hRV]
  have HR := hid (And.intro hRV hBl)
  have e6 : (bytesV S).size = 64 := by simp [bytesV, hS]
  have h0 := heap_old _ (.cells z_Frame 120) (heap_old _ (.cells (bytesV S) 103) (heap_new w (.cells TT 72)))
  have h1 : (((w.alloc (.cells TT 72)).alloc (.cells (bytesV S) 103)).alloc (.cells z_Frame 120)).heap[w.heap.size + 1]? = some (.cells (bytesV S) 103 (0, 0)) := heap_old _ _ (by have := heap_new (w.alloc (.cells TT 72)) (.cells (bytesV S) 103); rwa [World.size_alloc] at this)
  have h2 : (((w.alloc (.cells TT 72)).alloc (.cells (bytesV S) 103)).alloc (.cells z_Frame 120)).heap[w.heap.size + 2]? = some (.cells z_Frame 120 (0, 0)) := by
    have := heap_new ((w.alloc (.cells TT 72)).alloc (.cells (bytesV S) 103)) (.cells z_Frame 120)
    rwa [World.size_alloc, World.size_alloc] at this
  have hk0 : Keeps (fun _ => False) w (((w.alloc (.cells TT 72)).alloc (.cells (bytesV S) 103)).alloc (.cells z_Frame 120)) := (by repeat (first | exact Keeps.refl _ _ | refine Keeps.alloc ?_ _ | refine Keeps.drew ?_ | refine Keeps.drewN ?_ _ | refine Keeps.trans ?_ (by assumption)))
  obtain ⟨w0, hw0⟩ : ∃ w0, ((w.alloc (.cells TT 72)).alloc (.cells (bytesV S) 103)).alloc (.cells z_Frame 120) = w0 := ⟨_, rfl⟩
  rw [hw0] at h0 h1 h2 hk0
  have H := hid (And.intro h1 (And.intro h2 hk0))
  have hs5 : w0.rangeAt w.heap.size 0 TT.toList := fun j v hv => by
    rw [Nat.zero_add, cell_of h0 j]; simpa using hv
  have HO : Hid (∀ X, Keeps (fun _ => False) w0 X → Calls Tryz.prog 193 #[.agg TT, .slice (some ⟨w.heap.size + 1, 0, none⟩) 64 64] X fun e w' => ∃ g cap', e = .returned (.tuple #[.slice (some ⟨g, 0, none⟩) 60 cap', .int .i64 0]) ∧ BytesAt w' g 0 B ∧ Keeps (fun _ => False) X w') := hid fun X hX => by
    rw [← hTT]
    have hby : BytesAt X (w.heap.size + 1) 0 S := fun j hj => by
      rw [Nat.zero_add, cell_of (hX.heap H.out.1 id) j]
      simp [bytesV, hj]
    refine (topen_calls T (w.heap.size + 1) 0 64 64 60 S hS rfl X hby (by omega) (by omega) (by omega)).mono ?_
    rintro e w' (⟨-, ⟨g, cap', h1, -, h2⟩, h3⟩ | ⟨h, -⟩)
    · exact ⟨g, cap', h1, by rw [← hB]; exact h2, h3⟩
    · exact absurd hok h
  have hun := Tryz.underlying72
  have hts2 : TT.toList.toArray = TT := by simp
  have hts3 : TT.toList.length = 256 := by simp [hTs]
  have hin : (Tryz.prog.info? 72).map (·.size) = some TT.toList.length := by
    rw [Array.length_toList, hTs]; kernel_rfl
  have ZF := hid frmC_zero
  clear h0 h1 h2 hk0 hok hS hTT hB hBl hRV
  go_enter Tryz.func154, Tryz.ntmps154
  go_wp2_with fail
  clear hw0
  go_region_held3 (fun X => X.rangeAt w.heap.size 0 TT.toList) (repeat (first | assumption | refine World.rangeAt_alloc ?_ _ | (refine (World.rangeAt_drew _ _ _ _).2 ?_) | exact h5'))
    ((go_at_call 193; refine Calls.mono (HO.out _ ((Keeps.refl _ _).drew)) ?_; rintro r w1 ⟨g, cap', rfl, hby, hk1⟩; have hk1' : Keeps (fun _ => False) w0 w1 := Keeps.trans (by repeat (first | exact Keeps.refl _ _ | refine Keeps.alloc ?_ _ | refine Keeps.drew ?_ | refine Keeps.drewN ?_ _ | refine Keeps.trans ?_ (by assumption))) hk1; have h5' : w1.rangeAt w.heap.size 0 TT.toList := fun j v hv => (hk1'.cell (cell_lt (hs5 j v hv)) id).trans (hs5 j v hv)))
  have H1 := hid (And.intro (hk1'.heap H.out.2.1 id) (And.intro (H.out.2.2.trans hk1') hby))
  clear hk1 hk1' h5' hs5 hby
  go_wp2_with fail
  refine Calls.mono (rnew_calls g 0 cap' 60 B HR.out.2 w1 H1.out.2.2 (by omega) (by omega)) ?_
  rintro r w2 ⟨rb, rfl, hrb, hrd, hk2⟩
  have H2 := hid (And.intro (hk2.heap H1.out.1 id) (And.intro (H1.out.2.1.trans hk2) (And.intro hrd hrb)))
  clear hk2 hrd hrb
  go_wp2_with fail
  refine Calls.mono (rnum_calls rb B 1 w2 H2.out.2.2.1 (by rw [HR.out.2]; omega) (by omega) (by omega)) ?_
  rintro r w3 ⟨rfl, hrd, hk3⟩
  have hlt2 := lt_of H1.out.1
  have hsz1 : w1.heap.size ≤ rb := H2.out.2.2.2
  obtain ⟨ra, rc, hrh, -⟩ := hrd.ex
  have hrlt := lt_of hrh
  have fz := (frm_facts ⟨(leV (B.take 1) : Nat), 0, 0, 0, 0, zero44⟩ rfl).1
  have fo := frm_one ⟨(leV (B.take 1) : Nat), 0, 0, 0, 0, zero44⟩
  have D4 : Hid (DecAt w ⟨(leV (B.take 1) : Nat), 0, 0, 0, 0, zero44⟩ (w.heap.size + 2) w3.heap.size rb (B.drop 1) (putCells (w3.alloc (.cells z_Frame 120)) ⟨w3.heap.size, 0, none⟩ (frmC ⟨(leV (B.take 1) : Nat), 0, 0, 0, 0, zero44⟩))) := hid (by
    have hk4 : Keeps (fun _ => False) w3 (putCells (w3.alloc (.cells z_Frame 120)) ⟨w3.heap.size, 0, none⟩ (frmC ⟨(leV (B.take 1) : Nat), 0, 0, 0, 0, zero44⟩)) := keeps_put0 (by repeat (first | exact Keeps.refl _ _ | refine Keeps.alloc ?_ _ | refine Keeps.drew ?_ | refine Keeps.drewN ?_ _ | refine Keeps.trans ?_ (by assumption))) (fun h => absurd h (Nat.lt_irrefl _)) _
    exact ⟨(H2.out.2.1.trans' hk3 fun i hi e => by have := H1.out.2.1.size; omega).trans hk4, hk4.heap (hk3.heap H2.out.1 (by omega)) id, putCells_at (heap_new _ _) (by rw [size_z_Frame, fz]), hrd.still hk4, rfl, by omega, hrlt⟩)
  clear hlt2 hsz1 hrh hrlt hrd hk3
  generalize hk0 : ((leV (B.take 1) : Nat) : Int) = k0 at *
  obtain ⟨w4, hw4⟩ : ∃ w4, putCells (w3.alloc (.cells z_Frame 120)) ⟨w3.heap.size, 0, none⟩ (frmC ⟨k0, 0, 0, 0, 0, zero44⟩) = w4 := ⟨_, rfl⟩
  rw [hw4] at D4
  go_wp2_with fail
  clear hw4
  obtain ⟨fb, hfb⟩ : ∃ fb, w3.heap.size = fb := ⟨_, rfl⟩
  rw [hfb] at D4 ⊢
  have HBL := hid HR.out.2
  refine Calls.mono (D4.out.num 1 1 rfl (by rw [List.length_drop, HBL.out]; omega) (by omega) (by omega)) ?_
  rintro r w5 ⟨rfl, hd⟩
  have D5 := hid hd
  clear hd
  go_wp2_with fail
  refine Calls.mono (D5.out.num 2 2 rfl (by simp only [List.length_drop, HBL.out]; omega) (by omega) (by omega)) ?_
  rintro r w6 ⟨rfl, hd⟩
  have D6 := hid hd
  clear hd
  go_wp2_with fail
  refine Calls.mono (D6.out.num 2 2 rfl (by simp only [List.length_drop, HBL.out]; omega) (by omega) (by omega)) ?_
  rintro r w7 ⟨rfl, hd⟩
  have D7 := hid hd
  clear hd
  go_wp2_with fail
  refine Calls.mono (D7.out.num 4 4 rfl (by simp only [List.length_drop, HBL.out]; omega) (by omega) (by omega)) ?_
  rintro r w8 ⟨rfl, hd⟩
  have D8 := hid hd
  clear hd
  go_wp2_with fail
  refine Calls.mono (D8.out.num 6 6 rfl (by simp only [List.length_drop, HBL.out]; omega) (by omega) (by omega)) ?_
  rintro r w9 ⟨rfl, hd⟩
  obtain ⟨q, q0, q1, q2, q3, q4⟩ := frm_facts ⟨k0, 0, 0, 0, 0, zero44⟩ rfl
  have c1 := (cell_of hd.frm 1).trans q1
  have c2 := (cell_of hd.frm 2).trans q2
  have c3 := (cell_of hd.frm 3).trans q3
  have c4 := (cell_of hd.frm 4).trans q4
  have f1 := free_of hd.frm 1
  have f2 := free_of hd.frm 2
  have f3' := free_of hd.frm 3
  have f4' := free_of hd.frm 4
  have D9 := hid hd
  clear hd q q0 q1 q2 q3 q4
  go_wp2_with fail
  obtain ⟨F9, hF9⟩ : ∃ F9 : FrmS, (⟨k0, (leV ((B.drop 2).take 2) : Nat), (leV ((B.drop 4).take 2) : Nat), (leV ((B.drop 6).take 4) : Nat), (leV ((B.drop 10).take 6) : Nat), zero44⟩ : FrmS) = F9 := ⟨_, rfl⟩
  have D10 : Hid (DecAt w F9 (w.heap.size + 2) fb rb (B.drop 16) ((((w9.setCell ⟨fb, 1, none⟩ (.int .i64 (leV ((B.drop 2).take 2) : Nat))).setCell ⟨fb, 2, none⟩ (.int .i64 (leV ((B.drop 4).take 2) : Nat))).setCell ⟨fb, 3, none⟩ (.int .i64 (leV ((B.drop 6).take 4) : Nat))).setCell ⟨fb, 4, none⟩ (.int .i64 (leV ((B.drop 10).take 6) : Nat)))) := hid (by
    have hd := D9.out
    have hk := keeps_set (keeps_set (keeps_set (keeps_set (Keeps.refl (fun k => k = fb) w9) 1 (.int .i64 (leV ((B.drop 2).take 2) : Nat))) 2 (.int .i64 (leV ((B.drop 4).take 2) : Nat))) 3 (.int .i64 (leV ((B.drop 6).take 4) : Nat))) 4 (.int .i64 (leV ((B.drop 10).take 6) : Nat))
    have hh := heap_set (heap_set (heap_set (heap_set hd.frm 1 (.int .i64 (leV ((B.drop 2).take 2) : Nat))) 2 (.int .i64 (leV ((B.drop 4).take 2) : Nat))) 3 (.int .i64 (leV ((B.drop 6).take 4) : Nat))) 4 (.int .i64 (leV ((B.drop 10).take 6) : Nat))
    have hs : ((((frmC ⟨k0, 0, 0, 0, 0, zero44⟩).setIfInBounds 1 (.int .i64 (leV ((B.drop 2).take 2) : Nat))).setIfInBounds 2 (.int .i64 (leV ((B.drop 4).take 2) : Nat))).setIfInBounds 3 (.int .i64 (leV ((B.drop 6).take 4) : Nat))).setIfInBounds 4 (.int .i64 (leV ((B.drop 10).take 6) : Nat)) = frmC F9 := by
      rw [← hF9]; simp [frmC]
    rw [hs] at hh
    have hf := hd.far
    have hrd := hd.rd
    have hdr : ((((((B.drop 1).drop 1).drop 2).drop 2).drop 4).drop 6) = B.drop 16 := by simp only [List.drop_drop]
    rw [hdr] at hrd
    refine ⟨hd.keeps.trans' hk fun i hi e => ?_, hk.heap hd.res (by omega), hh, ?_, hf⟩
    · have := hd.keeps.size
      have h2 := H2.out.2.2.2
      have h3 := H1.out.2.1.size
      omega
    · obtain ⟨a, c, h1, h2, h3⟩ := hrd.ex
      refine ⟨a, c, hk.heap h1 (by omega), h2, fun h0 => ?_⟩
      obtain ⟨b, o, h4, hlt, h5⟩ := h3 h0
      exact ⟨b, o, h4, hlt, h5.keeps hk fun e => by omega⟩)
  generalize (((w9.setCell ⟨fb, 1, none⟩ (.int .i64 (leV ((B.drop 2).take 2) : Nat))).setCell ⟨fb, 2, none⟩ (.int .i64 (leV ((B.drop 4).take 2) : Nat))).setCell ⟨fb, 3, none⟩ (.int .i64 (leV ((B.drop 6).take 4) : Nat))).setCell ⟨fb, 4, none⟩ (.int .i64 (leV ((B.drop 10).take 6) : Nat)) = WA at *
  have hinf : (Tryz.prog.info? 5).map (·.size) = some 1 := by kernel_rfl
  have hl16 : (B.drop 16).length = 44 := by rw [List.length_drop, HBL.out]
  have HL16 := hid hl16
  obtain ⟨cs, hcs⟩ : ∃ cs, cs = (B.drop 16).map byteV := ⟨_, rfl⟩
  have hcl : cs.length = 44 := by rw [hcs, List.length_map, hl16]
  have hc1 : ∀ v ∈ cs, v.oneCell' = true := by rw [hcs]; exact bytes_one _
  obtain ⟨cur, hcur⟩ : ∃ cur, cur = (frmC F9).toList := ⟨_, rfl⟩
  have hcurl : cur.length = 49 := by rw [hcur, Array.length_toList]; exact (frm_facts F9 (by rw [← hF9]; rfl)).1
  have HC := hid (And.intro hcs (And.intro hcl (And.intro hcur hcurl)))
  have hu8 := Tryz.underlying174
  clear hcs hcl hcur hcurl hl16 c1 c2 c3 c4 f1 f2 f3' f4'
  go_region_held3 (fun _ => True) (exact True.intro)
    (first | (go_at_call 196; refine Calls.mono (rbytes_calls rb (B.drop 16) 44 _ (D10.out.rd.still ((Keeps.refl _ _).drew)) (by rw [HL16.out]; omega) (by omega)) ?_; rintro r wB ⟨b9, o9, rfl, hne9, hby9, hrd9, hk9⟩)
           | (refine step_copy_splice rfl (.tmp 41) (.tmp 43) 174 174 rfl 5 hu8 hinf (some ⟨fb, 5, none⟩) (some ⟨b9, o9, none⟩) 44 44 44 44 rfl rfl fb 5 cur 120 (by rw [HC.out.2.2.1]; exact hk9.heap D10.out.frm (by have := D10.out.far; omega)) cs HC.out.2.1 (fun _ => ⟨rfl, _, rfl, fun j v hv => hby9.news j v (by rw [List.take_of_length_le (by rw [HL16.out]; exact Nat.le_refl _), ← HC.out.1]; exact hv)⟩) (by rw [HC.out.2.1, HC.out.2.2.2]; omega) hc1 fb wB (Below.refl _ _) (Nat.le_refl _) ?_; intro wC hgC hbC))
  obtain ⟨FD, hFD⟩ : ∃ FD, decF B = FD := ⟨_, rfl⟩
  have hsp : (Go.splice cur 5 cs).toArray = frmC FD := by
    rw [HC.out.2.2.1, HC.out.1, ← hF9, ← hFD, ← hk0]
    have := HBL.out
    simp [frmC, Go.splice, decF, zero44]
    omega
  have hfrC := hgC.out
  rw [hsp] at hfrC
  have hFl : FD.body.length = 44 := by rw [← hFD]; exact HL16.out
  have hkC := Keeps.of_below' hbC
  have hfar := D10.out.far
  have hresC := hkC.heap (hk9.heap D10.out.res (by omega)) (by omega)
  have hrdC : RdAt wC rb [] := by
    obtain ⟨a, c, h1, h2, h3⟩ := hrd9.ex
    have hz : (B.drop 16).drop 44 = [] := List.drop_eq_nil_of_le (by rw [HL16.out]; exact Nat.le_refl _)
    rw [hz] at h1 h2
    exact ⟨a, c, hkC.heap h1 (by omega), h2, fun h => by cases h⟩
  have hkW : Keeps (fun _ => False) w wC := (D10.out.keeps.drew.trans' hk9 fun i hi e => by have := H1.out.2.1.size; have := H2.out.2.2.2; omega).trans' hkC fun i hi e => by have := H1.out.2.1.size; have := H2.out.2.2.2; omega
  have e1 := cellsAt_full (n := 49) hfrC (frm_facts FD hFl).1
  have HE := hid (And.intro hresC (And.intro hrdC (And.intro hkW (And.intro hFl (And.intro hfrC hFD)))))
  clear hgC hbC hsp hfrC hFl hkC hfar hresC hrdC hkW hby9 hrd9 hk9 hne9
  have hR := HR.out.1
  rw [HE.out.2.2.2.2.2] at hR
  have fr := cellsFree_full (n := 49) HE.out.1 size_z_Frame
  have zr0 : (allOne z_Frame) = true := by rw [ZF.out]; exact frm_one _
  have fo2 := frm_one FD
  have fs2 := (frm_facts FD HE.out.2.2.2.1).1
  by_cases hv : leV ((B.drop 1).take 1) = 1
  · have hv' : ((leV (List.take 1 B.tail) : Nat) : Int) = 1 := by rw [List.drop_one] at hv; omega
    cases hRt : FD.right with
    | true =>
      rw [if_pos ⟨hv, hRt⟩] at hR
      have HRR := hid hR
      have HRT := hid hRt
      clear hR hv hRt
      go_wp2_with fail
      refine Calls.mono (frame_right_calls FD HE.out.2.2.2.1 _) ?_
      rintro r wD ⟨rfl, hkD⟩
      rw [HRT.out]
      have HD := hid hkD
      clear hkD
      go_wp2_with fail
      refine Calls.mono (rdone_calls rb _ (HE.out.2.1.still HD.out)) ?_
      rintro r wE ⟨rfl, rfl⟩
      have e1 := cellsAt_full (n := 49) (HD.out.heap HE.out.2.2.2.2.1 id) fs2
      have fr := cellsFree_full (n := 49) (HD.out.heap HE.out.1 id) size_z_Frame
      go_wp2_with fail
      refine bodyPost_ret (results_cell2 rfl row_Frame _ rfl (cellsAt_full (putCells_at (HD.out.heap HE.out.1 id) (by rw [size_z_Frame, fs2])) fs2)) rfl ⟨by rw [← HRR.out]; rfl, ?_⟩
      exact keeps_put0 (HE.out.2.2.1.trans HD.out) (fun h => absurd h (by omega)) _
    | false =>
      rw [if_neg (fun h => by rw [hRt] at h; exact absurd h.2 (by decide))] at hR
      have HRR := hid hR
      have HRT := hid hRt
      clear hR hv hRt
      go_wp2_with fail
      refine Calls.mono (frame_right_calls FD HE.out.2.2.2.1 _) ?_
      rintro r wD ⟨rfl, hkD⟩
      rw [HRT.out]
      have HD := hid hkD
      clear hkD
      have fr := cellsFree_full (n := 49) (HD.out.heap HE.out.1 id) size_z_Frame
      go_wp2_with fail
      refine bodyPost_ret (results_cell2 rfl row_Frame _ rfl (cellsAt_full (putCells_at (HD.out.heap HE.out.1 id) rfl) size_z_Frame)) rfl ⟨by rw [← HRR.out, ← ZF.out]; rfl, ?_⟩
      exact keeps_put0 (HE.out.2.2.1.trans HD.out) (fun h => absurd h (by omega)) _
  · rw [if_neg (fun h => hv h.1)] at hR
    have HRR := hid hR
    have hv' : (((leV (List.take 1 B.tail) : Nat) : Int) != 1) = true := by rw [List.drop_one] at hv; simp; omega
    clear hR hv
    go_wp2_with fail
    refine bodyPost_ret (results_cell2 rfl row_Frame _ rfl (cellsAt_full (putCells_at HE.out.1 rfl) size_z_Frame)) rfl ⟨by rw [← HRR.out, ← ZF.out]; rfl, ?_⟩
    exact keeps_put0 HE.out.2.2.1 (fun h => absurd h (by omega)) _
end Go.Rv

/- Frames: a sector's frame at its place. -/
namespace Go.Rv
open Go Go.RowKit Go.Proofs

/-- what a sector's decoding gives. -/
def decR (T : Nat → Int) (S : List UInt8) : FrmS × Int :=
  if S.drop 60 = leB 4 (crcSum T (S.take 60)) then (if leV (((S.take 60).drop 1).take 1) = 1 ∧ (decF (S.take 60)).right = true then (decF (S.take 60), 0) else (FrmS.zero, 10)) else (FrmS.zero, 11)
theorem decode_calls (T : Nat → Int) (S : List UInt8) (hS : S.length = 64) (w : World) : Calls Tryz.prog 154 #[.agg (tabV T), .agg (bytesV S)] w fun e w' => e = .returned (.tuple #[.agg (frmC (decR T S).1), .int .i64 (decR T S).2]) ∧ Keeps (fun _ => False) w w' := by
  unfold decR
  by_cases h : S.drop 60 = leB 4 (crcSum T (S.take 60))
  · rw [if_pos h]
    refine (decode_good T S hS h w).mono ?_
    rintro e w' ⟨rfl, hk⟩
    refine ⟨?_, hk⟩
    split <;> rfl
  · rw [if_neg h]
    exact decode_bad T S hS h w
theorem decR_sec (T : Nat → Int) (F : FrmS) (hb : F.body.length = 44) (hr : F.right = true) : decR T (frmSec T F) = (F, 0) := by
  obtain ⟨h1, h2⟩ := sealed_ok T F hb
  obtain ⟨h3, h4⟩ := decF_head F hb hr
  unfold decR
  unfold sumOk at h1
  rw [if_pos h1, h2, h3, if_pos ⟨h4, hr⟩]
end Go.Rv

/- Frames: the frame of a place's sector. -/
namespace Go.Rv
open Go Go.RowKit Go.Proofs
attribute [local irreducible] wpQuiet tab0 tabV
attribute [local go_sem ↓] ld_Table st_Table al_Table ld_Sector st_Sector al_Sector ld_Frame st_Frame al_Frame bd_Frame0
attribute [local go_sem] cellsAt_new0 cellsAt_lt cellsAt_drew size_bytesV cellsFree_new0 size_z_Frame

def atR (T : Nat → Int) (S : List UInt8) (zone off : Int) : FrmS × Int :=
  if (decR T S).2 ≠ 0 then (FrmS.zero, (decR T S).2) else if (decR T S).1.zone = zone ∧ (decR T S).1.off = off then ((decR T S).1, 0) else (FrmS.zero, 12)
theorem decR_body (T : Nat → Int) (S : List UInt8) (hS : S.length = 64) : (decR T S).1.body.length = 44 := by
  unfold decR
  split
  · split
    · simp [decF, hS]
    · rfl
  · rfl

set_option maxHeartbeats 600000 in
set_option maxRecDepth 100000 in
theorem at_calls (T : Nat → Int) (S : List UInt8) (hS : S.length = 64) (zone off : Int) (w : World) : Calls Tryz.prog 108 #[.agg (tabV T), .agg (bytesV S), .int .i64 zone, .int .i64 off] w fun e w' => e = .returned (.tuple #[.agg (frmC (atR T S zone off).1), .int .i64 (atR T S zone off).2]) ∧ Keeps (fun _ => False) w w' := by
  have hTs := size_tabV T
  have hdc := fun X => decode_calls T S hS X
  have hbd := decR_body T S hS
  obtain ⟨R, hR⟩ : ∃ R, atR T S zone off = R := ⟨_, rfl⟩
  rw [hR]
  unfold atR at hR
  obtain ⟨D, hD⟩ : ∃ D, decR T S = D := ⟨_, rfl⟩
  rw [hD] at hR hdc hbd
  obtain ⟨TT, hTT⟩ : ∃ TT, tabV T = TT := ⟨_, rfl⟩
  rw [hTT] at hTs hdc ⊢
  have e6 : (bytesV S).size = 64 := by simp [bytesV, hS]
  have HDC := hid hdc
  have HR := hid (And.intro hR hbd)
  have f3 := frm_one D.1
  have f4 := (frm_facts D.1 hbd).1
  have h0 := heap_old _ (.cells z_Frame 120) (heap_old _ (.cells (bytesV S) 103) (heap_new w (.cells TT 72)))
  have c0 := cellsAt_full (n := 256) h0 hTs
  have h1 : (((w.alloc (.cells TT 72)).alloc (.cells (bytesV S) 103)).alloc (.cells z_Frame 120)).heap[w.heap.size + 1]? = some (.cells (bytesV S) 103 (0, 0)) := heap_old _ _ (by have := heap_new (w.alloc (.cells TT 72)) (.cells (bytesV S) 103); rwa [World.size_alloc] at this)
  have h2 : (((w.alloc (.cells TT 72)).alloc (.cells (bytesV S) 103)).alloc (.cells z_Frame 120)).heap[w.heap.size + 2]? = some (.cells z_Frame 120 (0, 0)) := by
    have := heap_new ((w.alloc (.cells TT 72)).alloc (.cells (bytesV S) 103)) (.cells z_Frame 120)
    rwa [World.size_alloc, World.size_alloc] at this
  have c1 := cellsAt_full (n := 64) h1 e6
  have hk0 : Keeps (fun _ => False) w (((w.alloc (.cells TT 72)).alloc (.cells (bytesV S) 103)).alloc (.cells z_Frame 120)) := (by repeat (first | exact Keeps.refl _ _ | refine Keeps.alloc ?_ _ | refine Keeps.drew ?_ | refine Keeps.drewN ?_ _ | refine Keeps.trans ?_ (by assumption)))
  have H := hid (And.intro h2 hk0)
  have ZF := hid frmC_zero
  have zr0 : (allOne z_Frame) = true := by rw [ZF.out]; exact frm_one _
  clear hdc hR hbd hS hD hTT h0 h1 h2 hk0
  go_enter Tryz.func108, Tryz.ntmps108
  go_wp2_with fail
  refine Calls.mono (HDC.out _) ?_
  rintro r w1 ⟨rfl, hk1⟩
  obtain ⟨w2, hw2⟩ : ∃ w2, putCells (w1.alloc (.cells z_Frame 120)) ⟨w1.heap.size, 0, none⟩ (frmC D.1) = w2 := ⟨_, rfl⟩
  have hk2 : Keeps (fun _ => False) w1 w2 := by rw [← hw2]; exact keeps_put0 (by repeat (first | exact Keeps.refl _ _ | refine Keeps.alloc ?_ _ | refine Keeps.drew ?_ | refine Keeps.drewN ?_ _ | refine Keeps.trans ?_ (by assumption))) (fun h => absurd h (Nat.lt_irrefl _)) _
  have hf2 : w2.heap[w1.heap.size]? = some (.cells (frmC D.1) 120 (0, 0)) := by rw [← hw2]; exact putCells_at (heap_new _ _) (by rw [size_z_Frame, f4])
  have hr2 := (hk1.trans hk2).heap H.out.1 id
  have fr := cellsFree_full (n := 49) hr2 size_z_Frame
  have cf := cellsAt_full (n := 49) hf2 f4
  obtain ⟨-, -, q1, q2, -⟩ := frm_facts D.1 HR.out.2
  have z1 := (cell_of hf2 1).trans q1
  have z2 := (cell_of hf2 2).trans q2
  have HX := hid (And.intro hr2 (H.out.2.trans (hk1.trans hk2)))
  have hR := HR.out.1
  clear hk1 hk2 hf2 hr2 q1 q2
  by_cases k : D.2 = 0
  · rw [if_neg (by simp [k])] at hR
    rw [k]
    by_cases k1 : D.1.zone = zone
    · by_cases k2 : D.1.off = off
      · rw [if_pos ⟨k1, k2⟩] at hR
        have HRR := hid hR
        have b1 : (D.1.zone != zone) = false := by simpa using k1
        have b2 : (D.1.off != off) = false := by simpa using k2
        clear k hR k1 k2
        go_wp2_with fail
        refine bodyPost_ret (results_cell2 rfl row_Frame _ rfl (cellsAt_full (putCells_at HX.out.1 (by rw [size_z_Frame, f4])) f4)) rfl ⟨by rw [← HRR.out]; rfl, ?_⟩
        exact keeps_put0 HX.out.2 (fun h => absurd h (by omega)) _
      · rw [if_neg (fun h => k2 h.2)] at hR
        have HRR := hid hR
        have b1 : (D.1.zone != zone) = false := by simpa using k1
        have b2 : (D.1.off != off) = true := by simpa using k2
        clear k hR k1 k2
        go_wp2_with fail
        refine bodyPost_ret (results_cell2 rfl row_Frame _ rfl (cellsAt_full (putCells_at HX.out.1 rfl) size_z_Frame)) rfl ⟨by rw [← HRR.out, ← ZF.out]; rfl, ?_⟩
        exact keeps_put0 HX.out.2 (fun h => absurd h (by omega)) _
    · rw [if_neg (fun h => k1 h.1)] at hR
      have HRR := hid hR
      have b1 : (D.1.zone != zone) = true := by simpa using k1
      clear k hR k1
      go_wp2_with fail
      refine bodyPost_ret (results_cell2 rfl row_Frame _ rfl (cellsAt_full (putCells_at HX.out.1 rfl) size_z_Frame)) rfl ⟨by rw [← HRR.out, ← ZF.out]; rfl, ?_⟩
      exact keeps_put0 HX.out.2 (fun h => absurd h (by omega)) _
  · rw [if_pos k] at hR
    have HRR := hid hR
    have kk : (D.2 != 0) = true := by simpa using k
    clear k hR
    go_wp2_with fail
    refine bodyPost_ret (results_cell2 rfl row_Frame _ rfl (cellsAt_full (putCells_at HX.out.1 rfl) size_z_Frame)) rfl ⟨by rw [← HRR.out, ← ZF.out]; rfl, ?_⟩
    exact keeps_put0 HX.out.2 (fun h => absurd h (by omega)) _
end Go.Rv

/- Entries: one is built of its numbers. -/
namespace Go.Rv
open Go Go.RowKit Go.Proofs

def EnS.zero : EnS := ⟨0, 0, 0, 0, 0, 0, zero32⟩
theorem enC_zero : z_Entry = enC EnS.zero := by kernel_rfl
theorem bd_Entry0 (f : Operand → Value) (d : Option Tmp) (t : TypeId) (pos : String) (af : Array Edge) (g : Option (Nat × Bool)) (w : World) :
    (execOp f ⟨d, .build 89 #[], t, pos, af, g⟩).run Tryz.prog w = .ok (.value (.agg z_Entry)) w := by
  have h : (Instr.build 89 #[]).run Tryz.prog w = .ok (.agg z_Entry) w := by kernel_rfl
  simp [execOp, h]
theorem build_en6 (k a b c m n : Int) (w : World) : (Instr.build 89 #[(0, .int .i64 k), (1, .int .i64 a), (2, .int .i64 b), (3, .int .i64 c), (4, .int .i64 m), (5, .int .i64 n)]).run Tryz.prog w = .ok (.agg (enC ⟨k, a, b, c, m, n, zero32⟩)) w := by
  obtain ⟨i0, hi, hz0, hz1, hz2⟩ := info_parts info_Entry
  have hzv : (zeroValue 89).run Tryz.prog w = .ok (.agg z_Entry) w := by simp [zeroValue, typeInfo, hi, hz0]
  have hu := run_underlying Tryz.underlying89 w
  unfold Instr.build
  simp only [Sem.run_bind, hzv, hu, Result.andThen_ok]
  refine (congrArg (fun r => Result.andThen r _) (show _ = Result.ok #[(0, 1), (1, 1), (2, 1), (3, 1), (4, 1), (5, 1), (6, 32)] w from by kernel_rfl)).trans ?_
  have hz : (Value.agg z_Entry).cells = z_Entry := rfl
  have hf : Instr.fill (fun x => (#[(0, 1), (1, 1), (2, 1), (3, 1), (4, 1), (5, 1), (6, 32)] : Array (Nat × Nat))[x]?) z_Entry [(0, .int .i64 k), (1, .int .i64 a), (2, .int .i64 b), (3, .int .i64 c), (4, .int .i64 m), (5, .int .i64 n)] = some (enC ⟨k, a, b, c, m, n, zero32⟩) := by
    rw [fill_int _ _ 0 0 k _ rfl (by rw [size_z_Entry]; omega), fill_int _ _ 1 1 a _ rfl (by simp [size_z_Entry]), fill_int _ _ 2 2 b _ rfl (by simp [size_z_Entry]), fill_int _ _ 3 3 c _ rfl (by simp [size_z_Entry]), fill_int _ _ 4 4 m _ rfl (by simp [size_z_Entry]), fill_int _ _ 5 5 n _ rfl (by simp [size_z_Entry])]
    rw [enC_zero]
    rfl
  simp only [Result.andThen_ok, hz, hf]
  rfl
theorem bd_Entry6 (f : Operand → Value) (x0 x1 x2 x3 x4 x5 : Operand) (d : Option Tmp) (t : TypeId) (pos : String) (af : Array Edge) (g : Option (Nat × Bool)) (w : World) :
    (execOp f ⟨d, .build 89 #[(0, x0), (1, x1), (2, x2), (3, x3), (4, x4), (5, x5)], t, pos, af, g⟩).run Tryz.prog w = match f x0, f x1, f x2, f x3, f x4, f x5 with
      | .int .i64 k, .int .i64 a, .int .i64 b, .int .i64 c, .int .i64 m, .int .i64 n => .ok (.value (.agg (enC ⟨k, a, b, c, m, n, zero32⟩))) w
      | _, _, _, _, _, _ => stuckOp Tryz.prog f ⟨d, .build 89 #[(0, x0), (1, x1), (2, x2), (3, x3), (4, x4), (5, x5)], t, pos, af, g⟩ w := by
  split
  · rename_i k a b c m n h0 h1 h2 h3 h4 h5
    have := build_en6 k a b c m n w
    simp [execOp, h0, h1, h2, h3, h4, h5, this]
  · rfl
end Go.Rv

/- Entries: what a body says. -/
namespace Go.Rv
open Go Go.RowKit Go.Proofs
attribute [local irreducible] wpQuiet tab0 tabV
attribute [local go_sem ↓] ld_Body st_Body al_Body ld_Entry st_Entry al_Entry bd_Entry0 bd_Entry6
attribute [local go_sem] cellsAt_new0 cellsAt_lt cellsAt_drew size_bytesV cellsFree_new0 size_z_Entry size_z_Body

/-- the entry that 44 bytes say. -/
def ofE (kind : Int) (B : List UInt8) : EnS := ⟨kind, leV (B.take 6), leV ((B.drop 6).take 1), leV ((B.drop 7).take 1), leV ((B.drop 8).take 2), leV ((B.drop 10).take 2), B.drop 12⟩
theorem ofE_len (kind : Int) (B : List UInt8) (hB : B.length = 44) : (ofE kind B).bytes.length = 32 := by simp [ofE, hB]
def ofR (kind : Int) (B : List UInt8) : EnS × Int := if (ofE kind B).right = true ∧ (ofE kind B).body = B then (ofE kind B, 0) else (EnS.zero, 10)
/-- what is written is what is read. -/
theorem ofE_body (e : EnS) (h : e.bytes.length = 32) (hr : e.right = true) : ofE e.kind e.body = e := by
  have hbd := EnS.right_bd hr
  have x : e.body = leB 6 e.first ++ (leB 1 e.count ++ (leB 1 e.block ++ (leB 2 e.many ++ (leB 2 e.mate ++ e.bytes)))) := by
    unfold EnS.body; simp only [List.append_assoc]
  obtain ⟨a1, a2⟩ := take_len (l := leB 6 e.first) (m := leB 1 e.count ++ (leB 1 e.block ++ (leB 2 e.many ++ (leB 2 e.mate ++ e.bytes)))) (n := 6) (leB_len _ _)
  obtain ⟨b1, b2⟩ := take_len (l := leB 1 e.count) (m := leB 1 e.block ++ (leB 2 e.many ++ (leB 2 e.mate ++ e.bytes))) (n := 1) (leB_len _ _)
  obtain ⟨c1, c2⟩ := take_len (l := leB 1 e.block) (m := leB 2 e.many ++ (leB 2 e.mate ++ e.bytes)) (n := 1) (leB_len _ _)
  obtain ⟨d1, d2⟩ := take_len (l := leB 2 e.many) (m := leB 2 e.mate ++ e.bytes) (n := 2) (leB_len _ _)
  obtain ⟨f1, f2⟩ := take_len (l := leB 2 e.mate) (m := e.bytes) (n := 2) (leB_len _ _)
  have x6 : e.body.drop 6 = leB 1 e.count ++ (leB 1 e.block ++ (leB 2 e.many ++ (leB 2 e.mate ++ e.bytes))) := by rw [x, a2]
  have x7 : e.body.drop 7 = leB 1 e.block ++ (leB 2 e.many ++ (leB 2 e.mate ++ e.bytes)) := by rw [show 7 = 6 + 1 from rfl, ← List.drop_drop, x6, b2]
  have x8 : e.body.drop 8 = leB 2 e.many ++ (leB 2 e.mate ++ e.bytes) := by rw [show 8 = 7 + 1 from rfl, ← List.drop_drop, x7, c2]
  have x10 : e.body.drop 10 = leB 2 e.mate ++ e.bytes := by rw [show 10 = 8 + 2 from rfl, ← List.drop_drop, x8, d2]
  have x12 : e.body.drop 12 = e.bytes := by rw [show 12 = 10 + 2 from rfl, ← List.drop_drop, x10, f2]
  unfold ofE
  rw [x6, x7, x8, x10, x12, b1, c1, d1, f1, x, a1]
  rw [leV_leB_in (by omega) (by omega), leV_leB_in (by omega) (by omega), leV_leB_in (by omega) (by omega), leV_leB_in (by omega) (by omega), leV_leB_in (by omega) (by omega)]
theorem ofR_body (e : EnS) (h : e.bytes.length = 32) (hr : e.right = true) : ofR e.kind e.body = (e, 0) := by
  unfold ofR
  rw [ofE_body e h hr, if_pos ⟨hr, rfl⟩]
end Go.Rv

/- Entries: a body is read. -/
namespace Go.Rv
open Go Go.RowKit Go.Proofs
attribute [local irreducible] wpQuiet tab0 tabV
attribute [local go_sem ↓] ld_Body st_Body al_Body ld_Entry st_Entry al_Entry bd_Entry0 bd_Entry6
attribute [local go_sem] cellsAt_new0 cellsAt_lt cellsAt_drew size_bytesV cellsFree_new0 size_z_Entry size_z_Body

theorem en_one (e : EnS) : allOne (enC e) = true := by
  simp only [allOne, enC, List.all_cons, one1, Bool.true_and]
  rw [List.all_eq_true]
  intro v hv
  obtain ⟨b, _, rfl⟩ := List.mem_map.1 hv
  rfl
/-- reading a body: the body's block, the result's, the reader. -/
structure OfAt (w : World) (B : List UInt8) (rb : Nat) (l : List UInt8) (X : World) : Prop where
  keeps : Keeps (fun _ => False) w X
  body : X.heap[w.heap.size]? = some (.cells (bytesV B) 118 (0, 0))
  res : X.heap[w.heap.size + 1]? = some (.cells z_Entry 89 (0, 0))
  rd : RdAt X rb l
  far : w.heap.size + 1 < rb
theorem OfAt.turn {w : World} {B : List UInt8} {rb : Nat} {l l' : List UInt8} {X Y : World} (h : OfAt w B rb l X) (hk : Keeps (fun k => k = rb) X Y) (hr : RdAt Y rb l') : OfAt w B rb l' Y :=
  ⟨h.keeps.trans' hk fun i hi e => by have := h.far; omega, hk.heap h.body (by have := h.far; omega), hk.heap h.res (by have := h.far; omega), hr, h.far⟩
theorem OfAt.still {w : World} {B : List UInt8} {rb : Nat} {l : List UInt8} {X Y : World} (h : OfAt w B rb l X) (hk : Keeps (fun _ => False) X Y) : OfAt w B rb l Y :=
  ⟨h.keeps.trans hk, hk.heap h.body id, hk.heap h.res id, h.rd.still hk, h.far⟩
theorem OfAt.num {w : World} {B : List UInt8} {rb : Nat} {l : List UInt8} {X : World} (h : OfAt w B rb l X) (n : Nat) (m : Int) (hm : m = n) (hn : n ≤ l.length) (h0 : 0 < n) (h7 : n ≤ 7) : Calls Tryz.prog 195 #[.pointer (some ⟨rb, 0, none⟩), .int .i64 m] X fun e w' =>
    e = .returned (.int .i64 (leV (l.take n) : Nat)) ∧ OfAt w B rb (l.drop n) w' := by
  subst hm
  exact (rnum_calls rb l n X h.rd hn h0 h7).mono fun e w' ⟨h1, h2, h3⟩ => ⟨h1, h.turn h3 h2⟩

set_option maxHeartbeats 600000 in
set_option maxRecDepth 100000 in
theorem of_calls (kind : Int) (B : List UInt8) (hB : B.length = 44) (w : World) : Calls Tryz.prog 181 #[.int .i64 kind, .agg (bytesV B)] w fun e w' => e = .returned (.tuple #[.agg (enC (ofR kind B).1), .int .i64 (ofR kind B).2]) ∧ Keeps (fun _ => False) w w' := by
  obtain ⟨R, hR⟩ : ∃ R, ofR kind B = R := ⟨_, rfl⟩
  rw [hR]
  have HR := hid (And.intro hR hB)
  have e4 : (bytesV B).size = 44 := by simp [bytesV, hB]
  have h0 := heap_old _ (.cells z_Entry 89) (heap_new w (.cells (bytesV B) 118))
  have h1 : ((w.alloc (.cells (bytesV B) 118)).alloc (.cells z_Entry 89)).heap[w.heap.size + 1]? = some (.cells z_Entry 89 (0, 0)) := by
    have := heap_new (w.alloc (.cells (bytesV B) 118)) (.cells z_Entry 89)
    rwa [World.size_alloc] at this
  have hk0 : Keeps (fun _ => False) w ((w.alloc (.cells (bytesV B) 118)).alloc (.cells z_Entry 89)) := (by repeat (first | exact Keeps.refl _ _ | refine Keeps.alloc ?_ _ | refine Keeps.drew ?_ | refine Keeps.drewN ?_ _ | refine Keeps.trans ?_ (by assumption)))
  obtain ⟨w0, hw0⟩ : ∃ w0, (w.alloc (.cells (bytesV B) 118)).alloc (.cells z_Entry 89) = w0 := ⟨_, rfl⟩
  rw [hw0] at h0 h1 hk0
  have H := hid (And.intro h0 (And.intro h1 hk0))
  have hby : BytesAt w0 w.heap.size 0 B := fun j hj => by
    rw [Nat.zero_add, cell_of h0 j]
    simp [bytesV, hj]
  have HBY := hid hby
  clear hR hB h0 h1 hk0 hby
  go_enter Tryz.func181, Tryz.ntmps181
  go_wp2_with fail
  clear hw0
  refine Calls.mono (rnew_calls w.heap.size 0 44 44 B HR.out.2 w0 HBY.out (by omega) (by omega)) ?_
  rintro r w2 ⟨rb, rfl, hrb, hrd, hk2⟩
  have O2 : Hid (OfAt w B rb B w2) := hid ⟨H.out.2.2.trans hk2, hk2.heap H.out.1 id, hk2.heap H.out.2.1 id, hrd, by have := lt_of H.out.2.1; omega⟩
  clear hrb hrd hk2
  have HBL := hid HR.out.2
  go_wp2_with fail
  refine Calls.mono (O2.out.num 6 6 rfl (by rw [HBL.out]; omega) (by omega) (by omega)) ?_
  rintro r w3 ⟨rfl, hd⟩
  have O3 := hid hd
  clear hd
  go_wp2_with fail
  refine Calls.mono (O3.out.num 1 1 rfl (by simp only [List.length_drop, HBL.out]; omega) (by omega) (by omega)) ?_
  rintro r w4 ⟨rfl, hd⟩
  have O4 := hid hd
  clear hd
  go_wp2_with fail
  refine Calls.mono (O4.out.num 1 1 rfl (by simp only [List.length_drop, HBL.out]; omega) (by omega) (by omega)) ?_
  rintro r w5 ⟨rfl, hd⟩
  have O5 := hid hd
  clear hd
  go_wp2_with fail
  refine Calls.mono (O5.out.num 2 2 rfl (by simp only [List.length_drop, HBL.out]; omega) (by omega) (by omega)) ?_
  rintro r w6 ⟨rfl, hd⟩
  have O6 := hid hd
  clear hd
  go_wp2_with fail
  refine Calls.mono (O6.out.num 2 2 rfl (by simp only [List.length_drop, HBL.out]; omega) (by omega) (by omega)) ?_
  rintro r w7 ⟨rfl, hd⟩
  have hdr : (((((B.drop 6).drop 1).drop 1).drop 2).drop 2) = B.drop 12 := by simp only [List.drop_drop]
  rw [hdr] at hd
  have O7 := hid hd
  clear hd hdr
  obtain ⟨E0, hE0⟩ : ∃ E0 : EnS, (⟨kind, (leV (B.take 6) : Nat), (leV ((B.drop 6).take 1) : Nat), (leV ((B.drop 7).take 1) : Nat), (leV ((B.drop 8).take 2) : Nat), (leV ((B.drop 10).take 2) : Nat), zero32⟩ : EnS) = E0 := ⟨_, rfl⟩
  have fo := en_one E0
  have hl0 : E0.bytes.length = 32 := by rw [← hE0]; rfl
  have fz := (en_facts E0 hl0).1
  have hE0x : enC ⟨kind, (leV (B.take 6) : Nat), (leV ((B.drop 6).take 1) : Nat), (leV ((B.drop 7).take 1) : Nat), (leV ((B.drop 8).take 2) : Nat), (leV ((B.drop 10).take 2) : Nat), zero32⟩ = enC E0 := by rw [hE0]
  obtain ⟨w8, hw8⟩ : ∃ w8, putCells (w7.alloc (.cells z_Entry 89)) ⟨w7.heap.size, 0, none⟩ (enC E0) = w8 := ⟨_, rfl⟩
  have hk8 : Keeps (fun _ => False) w7 w8 := by rw [← hw8]; exact keeps_put0 (by repeat (first | exact Keeps.refl _ _ | refine Keeps.alloc ?_ _ | refine Keeps.drew ?_ | refine Keeps.drewN ?_ _ | refine Keeps.trans ?_ (by assumption))) (fun h => absurd h (Nat.lt_irrefl _)) _
  have hf8 : w8.heap[w7.heap.size]? = some (.cells (enC E0) 89 (0, 0)) := by rw [← hw8]; exact putCells_at (heap_new _ _) (by rw [size_z_Entry, fz])
  obtain ⟨ra, rc, hrh, -⟩ := O7.out.rd.ex
  have hrlt := lt_of hrh
  have O8 := hid (And.intro (O7.out.still hk8) (And.intro hf8 hrlt))
  have HE0 := hid (And.intro hE0 hl0)
  clear hk8 hf8 hrh hrlt hE0
  go_wp2_with fail
  clear hw8 hE0x
  have hinf : (Tryz.prog.info? 5).map (·.size) = some 1 := by kernel_rfl
  have hl12 : (B.drop 12).length = 32 := by rw [List.length_drop, HBL.out]
  have HL12 := hid hl12
  obtain ⟨fb, hfb⟩ : ∃ fb, w7.heap.size = fb := ⟨_, rfl⟩
  rw [hfb] at O8 ⊢
  obtain ⟨cs, hcs⟩ : ∃ cs, cs = (B.drop 12).map byteV := ⟨_, rfl⟩
  have hcl : cs.length = 32 := by rw [hcs, List.length_map, hl12]
  have hc1 : ∀ v ∈ cs, v.oneCell' = true := by rw [hcs]; exact bytes_one _
  obtain ⟨cur, hcur⟩ : ∃ cur, cur = (enC E0).toList := ⟨_, rfl⟩
  have hcurl : cur.length = 38 := by rw [hcur, Array.length_toList]; exact (en_facts E0 HE0.out.2).1
  have HC := hid (And.intro hcs (And.intro hcl (And.intro hcur hcurl)))
  have hu8 := Tryz.underlying174
  clear hcs hcl hcur hcurl hl12 hfb
  go_region_held3 (fun _ => True) (exact True.intro)
    (first | (go_at_call 196; refine Calls.mono (rbytes_calls rb (B.drop 12) 32 _ (O8.out.1.rd.still ((Keeps.refl _ _).drew)) (by rw [HL12.out]; omega) (by omega)) ?_; rintro r wB ⟨b9, o9, rfl, hne9, hby9, hrd9, hk9⟩)
           | (refine step_copy_splice rfl (.tmp 25) (.tmp 27) 174 174 rfl 5 hu8 hinf (some ⟨fb, 6, none⟩) (some ⟨b9, o9, none⟩) 32 32 32 32 rfl rfl fb 6 cur 89 (by rw [HC.out.2.2.1]; exact hk9.heap O8.out.2.1 (by have := O8.out.2.2; omega)) cs HC.out.2.1 (fun _ => ⟨rfl, _, rfl, fun j v hv => hby9.news j v (by rw [List.take_of_length_le (by rw [HL12.out]; exact Nat.le_refl _), ← HC.out.1]; exact hv)⟩) (by rw [HC.out.2.1, HC.out.2.2.2]; omega) hc1 fb wB (Below.refl _ _) (Nat.le_refl _) ?_; intro wC hgC hbC))
  obtain ⟨ED, hED⟩ : ∃ ED, ofE kind B = ED := ⟨_, rfl⟩
  have hsp : (Go.splice cur 6 cs).toArray = enC ED := by
    rw [HC.out.2.2.1, HC.out.1, ← HE0.out.1, ← hED]
    have := HBL.out
    simp [enC, Go.splice, ofE, zero32]
    omega
  have hfrC := hgC.out
  rw [hsp] at hfrC
  have hFl : ED.bytes.length = 32 := by rw [← hED]; exact HL12.out
  have hkC := Keeps.of_below' hbC
  have hfar := O8.out.1.far
  have hlt := O8.out.2.2
  have hresC := hkC.heap (hk9.heap O8.out.1.res (by omega)) (by omega)
  have hbodC := hkC.heap (hk9.heap O8.out.1.body (by omega)) (by omega)
  have hkW : Keeps (fun _ => False) w wC := (O8.out.1.keeps.drew.trans' hk9 fun i hi e => by omega).trans' hkC fun i hi e => by omega
  have e1 := cellsAt_full (n := 38) hfrC (en_facts ED hFl).1
  have HE := hid (And.intro hresC (And.intro hbodC (And.intro hkW (And.intro hFl (And.intro hfrC hED)))))
  clear hgC hbC hsp hfrC hFl hkC hfar hlt hresC hbodC hkW hby9 hrd9 hk9 hne9 hED
  have hR := HR.out.1
  unfold ofR at hR
  rw [HE.out.2.2.2.2.2] at hR
  have ZE := hid enC_zero
  have zr0 : (allOne z_Entry) = true := by rw [ZE.out]; exact en_one _
  have fo2 := en_one ED
  have fs2 := (en_facts ED HE.out.2.2.2.1).1
  cases hRt : ED.right with
  | false =>
    rw [if_neg (fun h => by rw [hRt] at h; exact absurd h.1 (by decide))] at hR
    have HRR := hid (And.intro hR hRt)
    clear hR hRt
    go_wp2_with fail
    refine Calls.mono (ebody_bad ED HE.out.2.2.2.1 HRR.out.2 _) ?_
    rintro r wD ⟨rfl, hkD⟩
    have e5 : (bytesV zero44).size = 44 := rfl
    have e6 := allOne_bytes zero44
    obtain ⟨wE, hwE⟩ : ∃ wE, putCells (wD.alloc (.cells z_Body 118)) ⟨wD.heap.size, 0, none⟩ (bytesV zero44) = wE := ⟨_, rfl⟩
    have hkE : Keeps (fun _ => False) wD wE := by rw [← hwE]; exact keeps_put0 (by repeat (first | exact Keeps.refl _ _ | refine Keeps.alloc ?_ _ | refine Keeps.drew ?_ | refine Keeps.drewN ?_ _ | refine Keeps.trans ?_ (by assumption))) (fun h => absurd h (Nat.lt_irrefl _)) _
    have hrE := (hkD.trans hkE).heap HE.out.1 id
    have fr := cellsFree_full (n := 38) hrE size_z_Entry
    have HX := hid (And.intro hrE (HE.out.2.2.1.trans (hkD.trans hkE)))
    clear hkD hkE hrE
    go_wp2_with fail
    refine bodyPost_ret (results_cell2 rfl row_Entry _ rfl (cellsAt_full (putCells_at HX.out.1 rfl) size_z_Entry)) rfl ⟨by rw [← HRR.out.1, ← ZE.out]; rfl, ?_⟩
    exact keeps_put0 HX.out.2 (fun h => absurd h (by omega)) _
  | true =>
    have hbl := ED.body_len HE.out.2.2.2.1
    have heq : ∀ w, (Op.equalIn 10000 118 (.agg (bytesV ED.body)) (.agg (bytesV B))).run Tryz.prog w = .ok (ED.body == B) w := fun w => run_equalIn_bytes w 9998 118 5 44 Tryz.underlying118 Tryz.underlying5 (fun w => by go_simp) ED.body B hbl HBL.out
    have HRT := hid hRt
    have e5 : (bytesV ED.body).size = 44 := by simp [bytesV, hbl]
    have e6 := allOne_bytes ED.body
    clear hRt hbl
    go_wp2_with fail
    refine Calls.mono (ebody_good ED HE.out.2.2.2.1 HRT.out _) ?_
    rintro r wD ⟨rfl, hkD⟩
    obtain ⟨wE, hwE⟩ : ∃ wE, putCells (wD.alloc (.cells z_Body 118)) ⟨wD.heap.size, 0, none⟩ (bytesV ED.body) = wE := ⟨_, rfl⟩
    have hkE : Keeps (fun _ => False) wD wE := by rw [← hwE]; exact keeps_put0 (by repeat (first | exact Keeps.refl _ _ | refine Keeps.alloc ?_ _ | refine Keeps.drew ?_ | refine Keeps.drewN ?_ _ | refine Keeps.trans ?_ (by assumption))) (fun h => absurd h (Nat.lt_irrefl _)) _
    have hbE : wE.heap[wD.heap.size]? = some (.cells (bytesV ED.body) 118 (0, 0)) := by rw [← hwE]; exact putCells_at (heap_new _ _) (by rw [size_z_Body, e5])
    have hrE := (hkD.trans hkE).heap HE.out.1 id
    have fr := cellsFree_full (n := 38) hrE size_z_Entry
    have ca := cellsAt_full (n := 44) hbE e5
    have cb := cellsAt_full (n := 44) ((hkD.trans hkE).heap HE.out.2.1 id) e4
    have cd := cellsAt_full (n := 38) ((hkD.trans hkE).heap HE.out.2.2.2.2.1 id) fs2
    have HX := hid (And.intro hrE (HE.out.2.2.1.trans (hkD.trans hkE)))
    clear hkD hkE hrE hbE
    by_cases k : ED.body = B
    · rw [if_pos ⟨HRT.out, k⟩] at hR
      have HRR := hid hR
      have kb : (ED.body == B) = true := by simpa using k
      clear hR k
      go_wp2_with fail
      refine bodyPost_ret (results_cell2 rfl row_Entry _ rfl (cellsAt_full (putCells_at HX.out.1 (by rw [size_z_Entry, fs2])) fs2)) rfl ⟨by rw [← HRR.out]; rfl, ?_⟩
      exact keeps_put0 HX.out.2 (fun h => absurd h (by omega)) _
    · rw [if_neg (fun h => k h.2)] at hR
      have HRR := hid hR
      have kb : (ED.body == B) = false := by simpa using k
      clear hR k
      go_wp2_with fail
      refine bodyPost_ret (results_cell2 rfl row_Entry _ rfl (cellsAt_full (putCells_at HX.out.1 rfl) size_z_Entry)) rfl ⟨by rw [← HRR.out, ← ZE.out]; rfl, ?_⟩
      exact keeps_put0 HX.out.2 (fun h => absurd h (by omega)) _
end Go.Rv

/- Entries: a frame's entry. -/
namespace Go.Rv
open Go Go.RowKit Go.Proofs
attribute [local irreducible] wpQuiet tab0 tabV
attribute [local go_sem ↓] ld_Body st_Body al_Body ld_Entry st_Entry al_Entry bd_Entry0 ld_Frame st_Frame al_Frame
attribute [local go_sem] cellsAt_new0 cellsAt_lt cellsAt_drew size_bytesV cellsFree_new0 size_z_Entry size_z_Body size_z_Frame

def readR (F : FrmS) : EnS × Int :=
  if (ofR F.kind F.body).2 ≠ 0 then (EnS.zero, (ofR F.kind F.body).2)
  else if ((ofR F.kind F.body).1.frameR F.zone F.off F.epoch F.seq).2 ≠ 0 then (EnS.zero, ((ofR F.kind F.body).1.frameR F.zone F.off F.epoch F.seq).2)
  else ((ofR F.kind F.body).1, 0)
theorem ofR_len (kind : Int) (B : List UInt8) (hB : B.length = 44) : (ofR kind B).1.bytes.length = 32 := by
  unfold ofR; split
  · exact ofE_len kind B hB
  · rfl

set_option maxHeartbeats 600000 in
set_option maxRecDepth 100000 in
theorem eread_calls (F : FrmS) (hb : F.body.length = 44) (w : World) : Calls Tryz.prog 135 #[.agg (frmC F)] w fun e w' => e = .returned (.tuple #[.agg (enC (readR F).1), .int .i64 (readR F).2]) ∧ Keeps (fun _ => False) w w' := by
  have hof := fun X => of_calls F.kind F.body hb X
  have hol := ofR_len F.kind F.body hb
  obtain ⟨R, hR⟩ : ∃ R, readR F = R := ⟨_, rfl⟩
  rw [hR]
  unfold readR at hR
  obtain ⟨O, hO⟩ : ∃ O, ofR F.kind F.body = O := ⟨_, rfl⟩
  rw [hO] at hof hol hR
  obtain ⟨q, q0, q1, q2, q3, q4⟩ := frm_facts F hb
  have hfc := fun X => eframe_calls O.1 hol F.zone F.off F.epoch F.seq X
  obtain ⟨G, hG⟩ : ∃ G, O.1.frameR F.zone F.off F.epoch F.seq = G := ⟨_, rfl⟩
  rw [hG] at hfc hR
  have HOF := hid hof
  have HFC := hid hfc
  have HR := hid hR
  have f3 := en_one O.1
  have f4 := (en_facts O.1 hol).1
  have h0 := heap_old _ (.cells z_Entry 89) (heap_new w (.cells (frmC F) 120))
  have h1 : ((w.alloc (.cells (frmC F) 120)).alloc (.cells z_Entry 89)).heap[w.heap.size + 1]? = some (.cells z_Entry 89 (0, 0)) := by
    have := heap_new (w.alloc (.cells (frmC F) 120)) (.cells z_Entry 89)
    rwa [World.size_alloc] at this
  have hk0 : Keeps (fun _ => False) w ((w.alloc (.cells (frmC F) 120)).alloc (.cells z_Entry 89)) := (by repeat (first | exact Keeps.refl _ _ | refine Keeps.alloc ?_ _ | refine Keeps.drew ?_ | refine Keeps.drewN ?_ _ | refine Keeps.trans ?_ (by assumption)))
  have c0 := (cell_of h0 0).trans q0
  have cB : cellsAt ((w.alloc (.cells (frmC F) 120)).alloc (.cells z_Entry 89)) ⟨w.heap.size, 5, none⟩ 44 = some (bytesV F.body) := by
    rw [cellsAt_row h0 5 44 (by omega)]
    have : (frmC F).extract 5 49 = bytesV F.body := by
      simp [frmC, bytesV]
      rw [List.take_of_length_le (by simp [hb])]
    exact congrArg some this
  have H := hid (And.intro h0 (And.intro h1 hk0))
  have HQ := hid (And.intro q1 (And.intro q2 (And.intro q3 q4)))
  have ZE := hid enC_zero
  have zr0 : (allOne z_Entry) = true := by rw [ZE.out]; exact en_one _
  clear hof hol hR hO hfc hG hb h0 h1 hk0 q0 q1 q2 q3 q4
  go_enter Tryz.func135, Tryz.ntmps135
  go_wp2_with fail
  refine Calls.mono (HOF.out _) ?_
  rintro r w1 ⟨rfl, hk1⟩
  obtain ⟨w2, hw2⟩ : ∃ w2, putCells (w1.alloc (.cells z_Entry 89)) ⟨w1.heap.size, 0, none⟩ (enC O.1) = w2 := ⟨_, rfl⟩
  have hk2 : Keeps (fun _ => False) w1 w2 := by rw [← hw2]; exact keeps_put0 (by repeat (first | exact Keeps.refl _ _ | refine Keeps.alloc ?_ _ | refine Keeps.drew ?_ | refine Keeps.drewN ?_ _ | refine Keeps.trans ?_ (by assumption))) (fun h => absurd h (Nat.lt_irrefl _)) _
  have hf2 : w2.heap[w1.heap.size]? = some (.cells (enC O.1) 89 (0, 0)) := by rw [← hw2]; exact putCells_at (heap_new _ _) (by rw [size_z_Entry, f4])
  have hr2 := (hk1.trans hk2).heap H.out.2.1 id
  have hb2 := (hk1.trans hk2).heap H.out.1 id
  have fr := cellsFree_full (n := 38) hr2 size_z_Entry
  have cf := cellsAt_full (n := 38) hf2 f4
  have z1 := (cell_of hb2 1).trans HQ.out.1
  have z2 := (cell_of hb2 2).trans HQ.out.2.1
  have z3 := (cell_of hb2 3).trans HQ.out.2.2.1
  have z4 := (cell_of hb2 4).trans HQ.out.2.2.2
  have HX := hid (And.intro hr2 (And.intro (H.out.2.2.trans (hk1.trans hk2)) hf2))
  have hR := HR.out
  clear hk1 hk2 hf2 hr2 hb2
  by_cases k : O.2 = 0
  · rw [if_neg (by simp [k])] at hR
    rw [k]
    have HR2 := hid hR
    clear k hR
    go_wp2_with fail
    refine Calls.mono (HFC.out _) ?_
    rintro r w3 ⟨rfl, hk3⟩
    have fr := cellsFree_full (n := 38) (hk3.heap HX.out.1 id) size_z_Entry
    have cf := cellsAt_full (n := 38) (hk3.heap HX.out.2.2 id) f4
    have HY := hid (And.intro (hk3.heap HX.out.1 id) (HX.out.2.1.trans hk3))
    clear hk3
    have hR := HR2.out
    by_cases k2 : G.2 = 0
    · rw [if_neg (by simp [k2])] at hR
      have HRR := hid hR
      rw [k2]
      clear k2 hR
      go_wp2_with fail
      refine bodyPost_ret (results_cell2 rfl row_Entry _ rfl (cellsAt_full (putCells_at HY.out.1 (by rw [size_z_Entry, f4])) f4)) rfl ⟨by rw [← HRR.out]; rfl, ?_⟩
      exact keeps_put0 HY.out.2 (fun h => absurd h (by omega)) _
    · rw [if_pos k2] at hR
      have HRR := hid hR
      have kk : (G.2 != 0) = true := by simpa using k2
      clear k2 hR
      go_wp2_with fail
      refine bodyPost_ret (results_cell2 rfl row_Entry _ rfl (cellsAt_full (putCells_at HY.out.1 rfl) size_z_Entry)) rfl ⟨by rw [← HRR.out, ← ZE.out]; rfl, ?_⟩
      exact keeps_put0 HY.out.2 (fun h => absurd h (by omega)) _
  · rw [if_pos k] at hR
    have HRR := hid hR
    have kk : (O.2 != 0) = true := by simpa using k
    clear k hR
    go_wp2_with fail
    refine bodyPost_ret (results_cell2 rfl row_Entry _ rfl (cellsAt_full (putCells_at HX.out.1 rfl) size_z_Entry)) rfl ⟨by rw [← HRR.out, ← ZE.out]; rfl, ?_⟩
    exact keeps_put0 HX.out.2.1 (fun h => absurd h (by omega)) _
end Go.Rv
