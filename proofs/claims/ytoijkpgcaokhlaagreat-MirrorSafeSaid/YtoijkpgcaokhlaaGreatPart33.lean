/- Zones: a row of sectors is cloned; a crash. -/
import Derived.Test.YtoijkpgcaokhlaaGreatPart03
import Derived.Test.YtoijkpgcaokhlaaGreatPart02
import Derived.ArgAppend
import Derived.IntWalk
import Derived.Lib.MinMax
import Derived.Test.YtoijkpgcaokhlaaGreatPart04
import Derived.Test.YtoijkpgcaokhlaaGreatPart09
import Derived.Test.YtoijkpgcaokhlaaGreatPart23
import Derived.Test.YtoijkpgcaokhlaaGreatPart10
set_option linter.unusedVariables false
set_option linter.unusedSimpArgs false
namespace Go.Rv
open Go Go.RowKit Go.Proofs
attribute [local go_sem ↓] ld_Sector st_Sector al_Sector bs_Sector
attribute [local go_sem] cellsAt_new0 cellsAt_lt cellsAt_drew size_bytesV

theorem cell_in {w : World} {p : Addr} {v : Value} (h : w.cell? p = some v) : p.block < w.heap.size := by
  refine Decidable.byContradiction fun c => ?_
  have : w.heap[p.block]? = none := Array.getElem?_eq_none (by omega)
  simp [World.cell?, this] at h
/-- the row that a slice shows, wherever it lies. -/
def SecsAt (w : World) (o : Option Addr) (l : List (List UInt8)) : Prop := ∀ a, o = some a → ∀ j u, (cellsOf l)[j]? = some u → w.cell? (a.add j) = some u
theorem cellsOf_len : ∀ (l : List (List UInt8)), (∀ s, s ∈ l → s.length = 64) → (cellsOf l).length = l.length * 64
  | [], _ => rfl
  | s :: l, h => by
    have ih := cellsOf_len l (fun x hx => h x (by simp [hx]))
    have h1 := h s (by simp)
    have e : cellsOf (s :: l) = s.map byteV ++ cellsOf l := by simp [cellsOf]
    rw [e, List.length_append, ih, List.length_map, h1, List.length_cons]
    omega
theorem cellsOf_one (l : List (List UInt8)) : ∀ u ∈ cellsOf l, u.oneCell' = true := by
  intro u hu
  simp only [cellsOf, List.mem_flatMap] at hu
  obtain ⟨s, -, hu⟩ := hu
  exact byte_one s u hu
theorem cellsOf_take (l : List (List UInt8)) (h : ∀ s, s ∈ l → s.length = 64) (n : Nat) (hn : n ≤ l.length) : cellsOf (l.take n) = (cellsOf l).take (n * 64) := by
  have e : cellsOf l = cellsOf (l.take n) ++ cellsOf (l.drop n) := by
    unfold cellsOf
    rw [← List.flatMap_append, List.take_append_drop]
  have hl := cellsOf_len (l.take n) (fun s hs => h s (List.mem_of_mem_take hs))
  rw [List.length_take, Nat.min_eq_left hn] at hl
  have h2 : (cellsOf l).take (n * 64) = cellsOf (l.take n) := by
    rw [e, List.take_append_of_le_length (by omega), List.take_of_length_le (l := cellsOf (l.take n)) (by omega)]
  exact h2.symm
theorem secs_nil (w : World) : (binOp .eql 129 (.slice none 0 0) (.slice none 0 0)).run Tryz.prog w = .ok (.bool true) w := by kernel_rfl
theorem secs_some (a : Addr) (n c : Nat) (w : World) : (binOp .eql 129 (.slice (some a) n c) (.slice none 0 0)).run Tryz.prog w = .ok (.bool false) w := by kernel_rfl
attribute [local go_sem] secs_nil secs_some

set_option maxHeartbeats 1000000 in
set_option maxRecDepth 100000 in
theorem clone_calls (o : Option Addr) (n cap : Nat) (l : List (List UInt8)) (w : World) (h64 : ∀ s, s ∈ l → s.length = 64) (hn : n = l.length) (hl : l.length ≤ 64) (hno : o = none → n = 0 ∧ cap = 0) (hs : SecsAt w o l) :
   Calls Tryz.prog 182 #[.slice o n cap] w fun e w' => ∃ v, e = .returned v ∧ RowAt w' (fun k => w.heap.size ≤ k) 103 64 v n (cellsOf l) ∧ Keeps (fun _ => False) w w' := by
  obtain ⟨i0, hi, hz0, hz1, hz2⟩ := info_parts info_Sector
  cases o with
  | none =>
    obtain ⟨rfl, rfl⟩ := hno rfl
    have hl0 : l = [] := List.eq_nil_of_length_eq_zero hn.symm
    subst hl0
    clear hno hs h64 hi hz0 hz1 hz2 hn hl
    go_enter Tryz.func182, Tryz.ntmps182
    go_wp2_with fail
    go_ret
    exact ⟨_, rfl, RowAt.nil _ _ _ _, Keeps.refl _ _⟩
  | some a =>
    have hc := hs a rfl
    have hlen := cellsOf_len l h64
    have hone := cellsOf_one l
    by_cases h0 : n = 0
    · subst h0
      have hl0 : l = [] := List.eq_nil_of_length_eq_zero hn.symm
      subst hl0
      have hap := fun (W : World) ty b => run_append_room_cells (P := Tryz.prog) (w := W) 129 ty 103 i0 Tryz.underlying129 hi b 0 0 0 a 0 cap [] (by simp) (by simp) (by simp) (by omega) (by simp) (by simp)
      simp only [Nat.zero_mul, Nat.add_zero, World.setCells] at hap
      have HAP := hid hap
      clear hno hs h64 hi hz0 hz1 hz2 hc hlen hone hap hn hl
      have hap := HAP.out
      go_enter Tryz.func182, Tryz.ntmps182
      go_wp2_with fail
      go_ret
      exact ⟨_, rfl, ⟨by simp [cellsOf], .inl ⟨_, rfl, rfl⟩⟩, (by repeat (first | exact Keeps.refl _ _ | refine Keeps.alloc ?_ _ | refine Keeps.drew ?_ | refine Keeps.drewN ?_ _ | refine Keeps.trans ?_ (by assumption)))⟩
    · have HC := hid (And.intro hc (And.intro hlen hone))
      have hnp : 0 < l.length := by omega
      subst hn
      have HN := hid (And.intro (rfl : l.length = l.length) hnp)
      have HI := hid (And.intro hi (And.intro hz0 (And.intro hz1 hz2)))
      clear hno hs h64 hi hz0 hz1 hz2 hc hlen hone h0
      go_enter Tryz.func182, Tryz.ntmps182
      obtain ⟨hi, hz0, hz1, hz2⟩ := HI.out
      go_wp2_with (at_builtin; refine wpList_append_tag rfl (.tmp 5) (.tmp 6) rfl Tryz.underlying129 hi hz0 hz1 hz2 size_z_Sector (by decide) rfl (Q := fun _ => False) (n := 0) (m := l.length) (xs := []) ?own rfl (news := cellsOf l) HC.out.2.1 ?c1 HC.out.2.2 ?c3 ?c4 HN.out.2 ?go)
      case own => exact ⟨by simp, .inl ⟨_, rfl, rfl⟩⟩
      case c1 =>
        intro j u hu
        have := HC.out.1 j u hu
        first | exact this | exact (((Keeps.refl (fun _ => False) w).alloc _).cell (cell_in this) id).trans this
      case c3 => unfold maxLen; omega
      case c4 => omega
      case go =>
        intro g cap' w3 hown hg hk3
        have hgp : w.heap.size ≤ g := by
          have : w.heap.size ≤ (w.alloc (.cells #[] 103)).heap.size := by simp
          first | omega | (simp at hg; omega)
        have hrow := (rowAt_of_owns hown hgp : RowAt w3 (fun k => w.heap.size ≤ k) _ _ _ _ _)
        have HY := hid (And.intro hrow hk3)
        clear hown hg hk3 hrow hgp hi hz0 hz1 hz2
        go_wp2_with fail
        go_ret
        have hr := HY.out.1
        try simp only [Nat.zero_add, List.nil_append] at hr
        exact ⟨_, rfl, hr, Keeps.trans (by repeat (first | exact Keeps.refl _ _ | refine Keeps.alloc ?_ _ | refine Keeps.drew ?_ | refine Keeps.drewN ?_ _ | refine Keeps.trans ?_ (by assumption))) HY.out.2⟩
end Go.Rv

/- Zones: a crash. -/
namespace Go.Rv
open Go Go.RowKit Go.Proofs
attribute [local irreducible] wpQuiet
attribute [local go_sem ↓] ld_Sector st_Sector al_Sector bs_Sector
attribute [local go_sem] cellsAt_new0 cellsAt_lt cellsAt_drew size_bytesV

/-- how many sectors a crash leaves. -/
def ZoneS.left (Z : ZoneS) (k : Int) : Nat := (Z.safe + min (max k 0) (Z.l.length - Z.safe)).toNat
def ZoneS.crash (size : Int) (Z : ZoneS) (k : Int) : ZoneS :=
  ⟨Z.l.take (Z.left k), Z.left k, if 3 ≤ Z.state then Z.state else if Z.fin = true ∨ (Z.left k : Int) = size then 2 else if Z.left k = 0 then 0 else 1, Z.fin⟩
theorem ZoneS.left_bd {Z : ZoneS} (h : 0 ≤ Z.safe ∧ Z.safe ≤ Z.l.length) (k : Int) : (Z.left k : Int) = Z.safe + min (max k 0) (Z.l.length - Z.safe) ∧ Z.left k ≤ Z.l.length := by
  unfold ZoneS.left; omega

theorem crash_fin {own : Nat → Nat} {t zb : Nat} {size : Int} {Z : ZoneS} {sv v : Value} {w w2 W : World} {l' : List (List UInt8)} {n : Nat} {safe' state' : Int} {fin' : Bool} (h : ZoneAt w own t zb size Z sv) (hset : Settled own w)
    (hk : Keeps (fun _ => False) w w2) (hr : RowAt w2 (fun k => w.heap.size ≤ k) 103 64 v n (cellsOf l')) (hn : n = l'.length) (hk2 : Keeps (fun k => k = zb) w2 W)
    (hz : W.heap[zb]? = some (.cells #[v, .int .i64 size, .int .i64 safe', .int .i64 state', .bool fin'] 240 (0, 0))) :
    ∃ own' sv', ZoneAt W own' t zb size ⟨l', safe', state', fin'⟩ sv' ∧ Step (fun x => x = t) w own W own' ∧ Settled own' W := by
  have hzw := lt_of h.heap
  have hK : Keeps (fun k => own k = t) w W := (hk.mono fun _ _ h => h.elim).trans' hk2 fun i _ hi => by subst hi; exact h.mine
  subst hn
  obtain ⟨r1, ⟨a, r2, r3⟩ | ⟨g, cap, cur, r2, r3, r4, r5⟩⟩ := hr
  · obtain ⟨s1, s2⟩ := Step.kept (A := fun x => x = t) hK hset
    exact ⟨own, v, ⟨h.mine, hz, ⟨r1, .inl ⟨a, r2, r3⟩⟩⟩, s1, s2⟩
  · have hgw : g < W.heap.size := Nat.lt_of_lt_of_le (lt_of r4) hk2.size
    obtain ⟨s1, s2⟩ := Step.tag (A := fun x => x = t) hK hset rfl (.inr r3) hgw
    exact ⟨tag own g t, v, ⟨tag_same h.mine, hz, ⟨r1, .inr ⟨g, cap, cur, r2, tag_self _ _ _, hk2.heap r4 (by omega), r5⟩⟩⟩, s1, s2⟩

set_option maxHeartbeats 1000000 in
set_option maxRecDepth 100000 in
theorem zcrash_calls (own : Nat → Nat) (t zb : Nat) (size : Int) (Z : ZoneS) (sv : Value) (k : Int) (w : World) (h : ZoneAt w own t zb size Z sv) (hset : Settled own w) (h64 : ∀ s, s ∈ Z.l → s.length = 64) (hs : 0 ≤ Z.safe ∧ Z.safe ≤ Z.l.length) (hl : Z.l.length ≤ 64) :
   Calls Tryz.prog 136 #[.pointer (some ⟨zb, 0, none⟩), .int .i64 k] w fun e w' => e = .returned (.tuple #[]) ∧ ∃ own' sv', ZoneAt w' own' t zb size (Z.crash size k) sv' ∧ Step (fun x => x = t) w own w' own' ∧ Settled own' w' := by
  obtain ⟨a, cap, rfl⟩ := h.row.slice
  have H := hid (And.intro h (And.intro hset (And.intro h64 hs)))
  obtain ⟨hn1, hn2⟩ := Z.left_bd hs k
  have HF : Hid (∀ W, Keeps (fun _ => False) w W → W.cell? ⟨zb, 0, none⟩ = some (.slice a Z.l.length cap) ∧ W.cell? ⟨zb, 2, none⟩ = some (.int .i64 Z.safe)) := hid fun W hW => by
    have g := H.out.1.keeps hW (fun _ _ => id)
    exact ⟨(zcells g).1, (zcells g).2.2.1⟩
  have w1 : IntKind.i64.wrap ((Z.l.length : Int) - Z.safe) = (Z.l.length : Int) - Z.safe := IntWalk.i64_in _ (by omega)
  have w2 : IntKind.i64.wrap (Z.safe + min (max k 0) ((Z.l.length : Int) - Z.safe)) = (Z.left k : Int) := by rw [hn1]; exact IntWalk.i64_in _ (by omega)
  have HN := hid (And.intro hn1 (And.intro hn2 hl))
  obtain ⟨RR, hRR⟩ : ∃ RR, Z.crash size k = RR := ⟨_, rfl⟩
  rw [hRR]
  unfold ZoneS.crash at hRR
  clear h hset h64 hs hn1 hn2 hl
  go_enter Tryz.func136, Tryz.ntmps136
  go_wp2_with fail
  refine wp_region_still (by kernel_rfl) (by kernel_rfl) ?_
  repeat (first | (refine still_pass ?_ ?_; (focus (first | (go_simp; done) | rfl)); try simp only [Act.put, List.setIfInBounds_toArray, List.set_cons_succ, List.set_cons_zero]) | (apply still_step; (focus (go_simp; done)); (focus (intro W hW; unfold Oper.quietAt; (obtain ⟨c0, c2⟩ := HF.out W hW); go_simp; first | done | with_reducible rfl | fail | exact ⟨rfl, rfl⟩)); try simp only [Act.put, List.setIfInBounds_toArray, List.set_cons_succ, List.set_cons_zero]))
  refine wpQuiet_nil ?_
  intro W hW
  obtain ⟨c0, c2⟩ := HF.out W hW
  have hg := H.out.1.keeps hW (fun _ _ => id)
  have hgs := H.out.2.1.keeps hW
  have hcap : Z.left k ≤ cap ∧ (a = none → Z.left k = 0 ∧ cap = 0) := by
    have hn := HN.out.2.1
    obtain ⟨r1, ⟨b, r2, r3⟩ | ⟨g, cp, cur, r2, -, -, r3, -⟩⟩ := hg.row
    · obtain ⟨-, e2, e3⟩ := Value.slice.inj r2
      exact ⟨by omega, fun _ => ⟨by omega, e3⟩⟩
    · obtain ⟨e1, e2, e3⟩ := Value.slice.inj r2
      exact ⟨by omega, fun h => by rw [e1] at h; cases h⟩
  have hsec : SecsAt W a (Z.l.take (Z.left k)) := by
    rintro a' rfl j u hu
    rw [cellsOf_take Z.l H.out.2.2.1 _ HN.out.2.1] at hu
    have hj : j < Z.left k * 64 := by
      have := (List.getElem?_eq_some_iff.1 hu).1
      rw [List.length_take] at this; omega
    rw [List.getElem?_take, if_pos hj] at hu
    have h0 : 0 < Z.l.length := by have := HN.out.2.1; omega
    obtain ⟨g, e1, -, -, -, hc⟩ := hg.row.cell rfl h0
    cases e1
    have := hc j u hu
    rwa [show (⟨g, 0, none⟩ : Addr).add j = ⟨g, j, none⟩ by unfold Addr.add; split <;> simp_all]
  have hcl := clone_calls a (Z.left k) cap (Z.l.take (Z.left k)) W (fun s hs => H.out.2.2.1 s (List.mem_of_mem_take hs)) (by rw [List.length_take, Nat.min_eq_left HN.out.2.1]) (by rw [List.length_take]; have := HN.out.2.2; omega) hcap.2 hsec
  have HCL := hid hcl
  have HG := hid (And.intro hg (And.intro hgs hW))
  have hc1 : (Z.left k : Int) ≤ cap := by have := hcap.1; omega
  have HCAP := hid hcap
  clear hcl hg hgs hW hcap hsec w1 w2
  go_wp2_with fail
  refine Calls.mono HCL.out ?_
  rintro e w2 ⟨v, rfl, hr2, hk2⟩
  obtain ⟨av, cv, rfl⟩ := hr2.slice
  have hz2 := HG.out.1.keeps hk2 (fun _ _ => id)
  obtain ⟨d0, d1, d2, d3, d4, f0, f2, f3, f4, -⟩ := zcells hz2
  have q0 := heap_set (heap_set hz2.heap 0 (.slice av (Z.left k) cv)) 2 (.int .i64 (Z.left k))
  have hkk : Keeps (fun _ => False) w w2 := HG.out.2.2.trans hk2
  have hrow : RowAt w2 (fun k => w.heap.size ≤ k) 103 64 (.slice av (Z.left k) cv) (Z.left k) (cellsOf (Z.l.take (Z.left k))) := hr2.imp fun k _ h => by have := HG.out.2.2.size; omega
  have H2 := hid (And.intro hkk (And.intro hrow q0))
  have hlt : (Z.left k) = (Z.l.take (Z.left k)).length := by rw [List.length_take, Nat.min_eq_left HN.out.2.1]
  have HLT := hid hlt
  obtain ⟨n, hn⟩ : ∃ n, Z.left k = n := ⟨_, rfl⟩
  rw [hn] at H2 HLT hRR ⊢
  clear hk2 hr2 hz2 q0 hkk hrow hlt c0 c2 hn hc1 HCL HCAP
  by_cases k1 : 3 ≤ Z.state
  · have b1 : decide (3 ≤ Z.state) = true := by simpa using k1
    rw [if_pos k1] at hRR
    have HRR := hid hRR
    clear k1 hRR
    go_wp2_with fail
    go_end0
    rw [← HRR.out]
    exact ⟨rfl, crash_fin H.out.1 H.out.2.1 H2.out.1 H2.out.2.1 HLT.out (keeps_set (keeps_set (Keeps.refl _ _) _ _) _ _) H2.out.2.2⟩
  · have b1 : decide (3 ≤ Z.state) = false := by simpa using k1
    rw [if_neg k1] at hRR
    by_cases k2 : Z.fin = true ∨ (n : Int) = size
    · rw [if_pos k2] at hRR
      have hq : Z.fin = true ∨ Z.fin = false ∧ ((n : Int) == size) = true := by
        cases hf : Z.fin with
        | true => exact .inl rfl
        | false => rw [hf] at k2; exact .inr ⟨rfl, by simpa using k2.resolve_left (by decide)⟩
      have HRR := hid hRR
      clear k1 k2 hRR
      rcases hq with b2 | ⟨b2, b3⟩
      all_goals
        rw [b2] at d4 H2 HRR
        clear b2
        go_wp2_with fail
        go_end0
        rw [← HRR.out]
        exact ⟨rfl, crash_fin H.out.1 H.out.2.1 H2.out.1 H2.out.2.1 HLT.out (keeps_set (keeps_set (keeps_set (Keeps.refl _ _) _ _) _ _) _ _) (heap_set H2.out.2.2 3 (.int .i64 2))⟩
    · rw [if_neg k2] at hRR
      have b2 : Z.fin = false := by
        cases hf : Z.fin with
        | true => exact absurd (.inl hf) k2
        | false => rfl
      have b3 : ((n : Int) == size) = false := by simpa using fun h => k2 (.inr h)
      rw [b2] at d4 H2 hRR
      by_cases k3 : n = 0
      · have b4 : ((n : Int) == 0) = true := by simpa using k3
        rw [if_pos k3] at hRR
        have HRR := hid hRR
        clear k1 k2 k3 hRR b2
        go_wp2_with fail
        go_end0
        rw [← HRR.out]
        exact ⟨rfl, crash_fin H.out.1 H.out.2.1 H2.out.1 H2.out.2.1 HLT.out (keeps_set (keeps_set (keeps_set (Keeps.refl _ _) _ _) _ _) _ _) (heap_set H2.out.2.2 3 (.int .i64 0))⟩
      · have b4 : ((n : Int) == 0) = false := by simpa using k3
        rw [if_neg k3] at hRR
        have HRR := hid hRR
        clear k1 k2 k3 hRR b2
        go_wp2_with fail
        go_end0
        rw [← HRR.out]
        exact ⟨rfl, crash_fin H.out.1 H.out.2.1 H2.out.1 H2.out.2.1 HLT.out (keeps_set (keeps_set (keeps_set (Keeps.refl _ _) _ _) _ _) _ _) (heap_set H2.out.2.2 3 (.int .i64 1))⟩
end Go.Rv

/- Devices: taken up again. -/
namespace Go.Rv
open Go Go.RowKit Go.Proofs
attribute [local irreducible] wpQuiet

def DevS.reviveTo (D : DevS) (keep : List Int) (d : Nat) : DevS := { D with z := fun i => if i < d then (D.z i).crash D.size (keep.getD i 0) else D.z i }
def DevS.revive (D : DevS) (keep : List Int) : DevS := if D.down = false then D else { D.reviveTo keep D.nz with down := false }
theorem DevS.reviveTo_zero (D : DevS) (keep : List Int) : D.reviveTo keep 0 = D := by simp [DevS.reviveTo]
theorem DevS.reviveTo_succ (D : DevS) (keep : List Int) (d : Nat) : (D.reviveTo keep d).setz d ((D.z d).crash D.size (keep.getD d 0)) = D.reviveTo keep (d + 1) := by
  unfold DevS.reviveTo DevS.setz
  simp only [DevS.mk.injEq, true_and]
  funext i
  by_cases e : i = d
  · subst e; simp
  · rw [if_neg e]
    by_cases h : i < d
    · rw [if_pos h, if_pos (by omega)]
    · rw [if_neg h, if_neg (by omega)]
/-- one zone has turned. -/
theorem zone_step {w w' : World} {own own' : Nat → Nat} {db : Nat} {D : DevS} {lb lc : Nat} {cur : Array Value} {zb : Nat → Nat} (h1 : DevHead w own db D lb lc cur zb) (h2 : ZsAt w own D zb) {i : Nat} {Z' : ZoneS} {sv' : Value}
    (hz : ZoneAt w' own' (1000 + i) (zb i) D.size Z' sv') (hs : Step (fun t => t = 1000 + i) w own w' own') : DevHead w' own' db (D.setz i Z') lb lc cur zb ∧ ZsAt w' own' (D.setz i Z') zb ∧ Step devTag w own w' own' := by
  refine ⟨⟨hs.own h1.heap h1.mine, hs.own h1.list h1.minel, hs.heap h1.heap (by rw [h1.mine]; omega), hs.heap h1.list (by rw [h1.minel]; omega), h1.elems⟩, fun j hj => ?_, hs.mono fun t e => .inr (by omega)⟩
  by_cases hji : j = i
  · subst hji; exact ⟨sv', by simpa [DevS.setz] using hz⟩
  · obtain ⟨sv, hzz⟩ := h2 j hj
    exact ⟨sv, by simpa [DevS.setz, hji] using hzz.kept hs (by omega)⟩

set_option maxHeartbeats 1000000 in
theorem drevive_calls (own : Nat → Nat) (db : Nat) (D : DevS) (o : Option Addr) (keep : List Int) (c : Nat) (w : World) (h : DevAt w own db D) (hset : Settled own w) (hg : D.Good) (hx : ∀ W own', Step devTag w own W own' → IntsAt W o keep) :
    Calls Tryz.prog 87 #[.pointer (some ⟨db, 0, none⟩), .slice o keep.length c] w fun e w' => e = .returned (.tuple #[]) ∧ ∃ own', DevAt w' own' db (D.revive keep) ∧ Step devTag w own w' own' ∧ Settled own' w' := by
  have H := hid (And.intro h (And.intro hset (And.intro hg hx)))
  obtain ⟨lb, lc, cur, zb, h1, h2⟩ := h
  obtain ⟨c0, c1, c2, c3, c4, f3, f4, hb, hl⟩ := h1.cells
  cases hd : D.down with
  | false =>
    have hr : D.revive keep = D := by unfold DevS.revive; rw [if_pos hd]
    rw [hr]
    rw [hd] at c4
    clear h1 h2 hset hg hx hd hr
    go_enter Tryz.func87, Tryz.ntmps87
    go_wp2_with fail
    ((try simp only [Exit.inBlock, Exit.then]); refine bodyPost_ret (results_none rfl _ _ _) rfl ?_)
    exact ⟨rfl, own, H.out.1, (Step.kept (A := devTag) (Keeps.refl _ _) H.out.2.1).1, H.out.2.1⟩
  | true =>
    have hr : D.revive keep = { D.reviveTo keep D.nz with down := false } := by unfold DevS.revive; rw [if_neg (by rw [hd]; decide)]
    rw [hr]
    rw [hd] at c4
    have hk := hg.ok.nz
    have HX := hid (And.intro h1 (And.intro h2 hd))
    clear h1 h2 hset hg hx hd hr
    go_enter Tryz.func87, Tryz.ntmps87
    go_wp2_with fail
    go_loopg [17] D.nz (fun (gk : Nat) (b : Value) (wr : World) => ∃ (d : Nat) (own5 : Nat → Nat), d + gk = D.nz ∧ b = .int .i64 d ∧ DevHead wr own5 db (D.reviveTo keep d) lb lc cur zb ∧ ZsAt wr own5 (D.reviveTo keep d) zb ∧ Step devTag w own wr own5 ∧ Settled own5 wr)
    case atStart => exact ⟨0, own, by omega, rfl, by rw [DevS.reviveTo_zero]; exact HX.out.1, by rw [DevS.reviveTo_zero]; exact HX.out.2.1, (Step.kept (A := devTag) (Keeps.refl _ _) H.out.2.1).1, H.out.2.1⟩
    case round =>
      obtain ⟨d, own5, hd, rfl, g1, g2, gs, gset⟩ := hrel
      by_cases c : d < D.nz
      · have dd : decide (d < D.nz) = true := by simpa using c
        have hc : wr.cell? ⟨lb, d, none⟩ = some (.pointer (some ⟨zb d, 0, none⟩)) := (cell_of g1.list d).trans (g1.elems d c)
        obtain ⟨sv, hz⟩ := g2 d c
        have hzd : (D.reviveTo keep d).z d = D.z d := by simp [DevS.reviveTo]
        have hzs : (D.reviveTo keep d).size = D.size := rfl
        rw [hzd, hzs] at hz
        have gz := H.out.2.2.1.zone c
        have hzl := gz.len
        have hsz := H.out.2.2.1.ok.size.2
        have hcr := fun k => zcrash_calls own5 (1000 + d) (zb d) D.size (D.z d) sv k wr hz gset gz.sec gz.safe (by omega)
        have HG := hid (And.intro g1 (And.intro g2 (And.intro gs gset)))
        have HCR := hid hcr
        have hxi := H.out.2.2.2 wr own5 gs
        clear g1 g2 gs gset hz hcr gz hzl hsz hzd hzs
        by_cases k : d < keep.length
        · have dk : decide (d < keep.length) = true := by simpa using k
          obtain ⟨b, off, rfl, hcc⟩ := hxi.get d keep[d] (List.getElem?_eq_getElem k)
          have hkd : keep.getD d 0 = keep[d] := by rw [List.getD_eq_getElem?_getD, List.getElem?_eq_getElem k]; rfl
          have HKD := hid hkd
          clear hxi hkd
          generalize keep[d] = kv at *
          go_wp2_with fail
          refine Calls.mono (HCR.out _) ?_
          rintro e w2 ⟨rfl, own6, sv', hz', hs', hset'⟩
          have r := zone_step HG.out.1 HG.out.2.1 hz' hs'
          have e1 : (D.reviveTo keep d).setz d ((D.z d).crash D.size kv) = D.reviveTo keep (d + 1) := by rw [← HKD.out]; exact DevS.reviveTo_succ D keep d
          rw [e1] at r
          have H2 := hid (And.intro r hset')
          clear hz' hs' hset' r e1
          go_wp2_with fail
          go_roundg (gk - 1)
          case measure => omega
          case rel => exact ⟨d + 1, own6, by omega, by go_num, H2.out.1.1, H2.out.1.2.1, HG.out.2.2.1.trans H2.out.1.2.2, H2.out.2⟩
        · have dk : decide (d < keep.length) = false := by simpa using k
          have hkd : keep.getD d 0 = 0 := by rw [List.getD_eq_getElem?_getD, List.getElem?_eq_none (by omega)]; rfl
          have HKD := hid hkd
          clear hxi hkd
          go_wp2_with fail
          refine Calls.mono (HCR.out _) ?_
          rintro e w2 ⟨rfl, own6, sv', hz', hs', hset'⟩
          have r := zone_step HG.out.1 HG.out.2.1 hz' hs'
          have e1 : (D.reviveTo keep d).setz d ((D.z d).crash D.size 0) = D.reviveTo keep (d + 1) := by rw [← HKD.out]; exact DevS.reviveTo_succ D keep d
          rw [e1] at r
          have H2 := hid (And.intro r hset')
          clear hz' hs' hset' r e1
          go_wp2_with fail
          go_roundg (gk - 1)
          case measure => omega
          case rel => exact ⟨d + 1, own6, by omega, by go_num, H2.out.1.1, H2.out.1.2.1, HG.out.2.2.1.trans H2.out.1.2.2, H2.out.2⟩
      · have dd : decide (d < D.nz) = false := by simpa using c
        have hdn : d = D.nz := by omega
        subst hdn
        obtain ⟨-, -, -, -, e3, -, e4, -, -⟩ := g1.cells
        have HG := hid (And.intro g1 (And.intro g2 (And.intro gs gset)))
        clear g1 g2 gs gset
        go_wp2_with fail
        go_end0
        have q := heap_set HG.out.1.heap 4 (.bool false)
        have hkk : Keeps (fun k => k = db) wr (wr.setCell ⟨db, 4, none⟩ (.bool false)) := keeps_set (Keeps.refl _ _) _ _
        have hs := Step.kept (A := devTag) (hkk.mono fun k _ e => by subst e; exact .inl HG.out.1.mine) HG.out.2.2.2
        have hne : lb ≠ db := by
          intro e
          have a1 := HG.out.1.heap
          have a2 := HG.out.1.list
          rw [e, a1] at a2
          simp only [Option.some.injEq, Obj.cells.injEq] at a2
          have := a2.2.1
          revert this
          decide
        refine ⟨rfl, own5, ⟨lb, lc, cur, zb, ⟨HG.out.1.mine, HG.out.1.minel, q, hkk.heap HG.out.1.list hne, HG.out.1.elems⟩, fun j hj => ?_⟩, HG.out.2.2.1.trans hs.1, hs.2⟩
        obtain ⟨sv, hz⟩ := HG.out.2.1 j hj
        exact ⟨sv, hz.keeps hkk fun k e hk => by subst hk; rw [HG.out.1.mine] at e; omega⟩
end Go.Rv

/- Drives: taken up again. -/
namespace Go.Rv
open Go Go.RowKit Go.Proofs
attribute [local irreducible] wpQuiet

def DriveS.revive (D : DriveS) (keep : List Int) : DriveS := { D with d := D.d.revive keep }
theorem ZoneS.Good.crash {size : Int} {Z : ZoneS} (h : Z.Good size) (_ : 1 ≤ size) (k : Int) : (Z.crash size k).Good size := by
  obtain ⟨h1, h2⟩ := Z.left_bd h.safe k
  have hl := h.len
  have hst := h.st
  have hl2 : (Z.crash size k).l.length = Z.left k := by
    show (Z.l.take (Z.left k)).length = _
    rw [List.length_take, Nat.min_eq_left h2]
  refine ⟨by rw [hl2]; omega, fun s hs => h.sec s (List.mem_of_mem_take hs), fun hr => ?_, ?_, ?_, fun he => ?_⟩
  · rw [hl2]
    unfold ZoneS.crash at hr
    simp only [] at hr
    split at hr
    · omega
    · split at hr
      · omega
      · rename_i c; have : ¬ (Z.left k : Int) = size := fun e => c (.inr e)
        omega
  · unfold ZoneS.crash
    simp only []
    split
    · exact hst
    · split
      · omega
      · split <;> omega
  · rw [hl2]
    show 0 ≤ (Z.left k : Int) ∧ (Z.left k : Int) ≤ (Z.left k : Nat)
    omega
  · unfold ZoneS.crash at he
    simp only [] at he
    split at he
    · omega
    · split at he
      · omega
      · split at he
        · rename_i c
          show Z.l.take (Z.left k) = []
          rw [c]; rfl
        · omega
theorem DevS.Good.revive {D : DevS} (h : D.Good) (keep : List Int) : (D.revive keep).Good := by
  unfold DevS.revive
  split
  · exact h
  · refine .mk' h.ok.nz h.ok.size h.ok.opn fun i hi => ?_
    simp only [DevS.reviveTo]
    rw [if_pos (show i < D.nz from hi)]
    exact (h.zone hi).crash h.ok.size.1 _

set_option maxHeartbeats 1000000 in
theorem previve_calls (own : Nat → Nat) (pb db : Nat) (D : DriveS) (o : Option Addr) (keep : List Int) (c : Nat) (w : World) (h : DriveAt w own pb db D) (hset : Settled own w) (hx : ∀ W own', Step devTag w own W own' → IntsAt W o keep) :
    Calls Tryz.prog 40 #[.pointer (some ⟨pb, 0, none⟩), .slice o keep.length c] w fun e w' => e = .returned (.tuple #[]) ∧ ∃ own', DriveAt w' own' pb db (D.revive keep) ∧ Step drvTag w own w' own' ∧ Settled own' w' := by
  have hgood := h.good
  obtain ⟨⟨mb, cc, h1⟩, h2⟩ := h
  obtain ⟨c0, -⟩ := h1.cells
  have hrv := drevive_calls own db D.d o keep c w h2 hset hgood hx
  have hg2 := hgood.revive keep
  have HX := hid (And.intro h1 (And.intro hset (And.intro hrv hg2)))
  clear h1 h2 hset hgood hrv hg2 hx
  go_enter Tryz.func40, Tryz.ntmps40
  go_wp2_with fail
  refine Calls.mono HX.out.2.2.1 ?_
  rintro e w2 ⟨rfl, own2, hd2, hs2, hset2⟩
  have hh2 : DriveHead w2 own2 pb db (D.revive keep) mb cc := HX.out.1.dev hs2 hd2 HX.out.2.2.2
  obtain ⟨c0, -⟩ := hh2.cells
  have H2 := hid (And.intro (show DriveAt w2 own2 pb db (D.revive keep) from ⟨⟨mb, cc, hh2⟩, hd2⟩) (And.intro hs2.drv hset2))
  clear hh2 hd2 hs2 hset2
  go_wp2_with fail
  refine Calls.mono (dzones_calls own2 db _ w2 H2.out.1.dev) ?_
  rintro e w3 ⟨rfl, rfl⟩
  have hnz : ((D.revive keep).d.nz : Int) ≤ 512 := by have := HX.out.2.2.2.ok.nz; show ((D.d.revive keep).nz : Int) ≤ 512; omega
  obtain ⟨nz, hz⟩ : ∃ nz, (D.revive keep).d.nz = nz := ⟨_, rfl⟩
  rw [hz] at hnz ⊢
  have HZ := hid hz
  clear hz c0
  go_wp2_with fail
  go_loopg [16] nz (fun (gk : Nat) (b : Value) (wr : World) => ∃ (d : Nat) (own5 : Nat → Nat), d + gk = nz ∧ b = .int .i64 d ∧ DriveAt wr own5 pb db (D.revive keep) ∧ Step drvTag w own wr own5 ∧ Settled own5 wr)
  case atStart => exact ⟨0, own2, by omega, rfl, H2.out⟩
  case round =>
    obtain ⟨d, own5, hd, rfl, gd, gs, gset⟩ := hrel
    obtain ⟨mb', cc', g1⟩ := gd.head
    obtain ⟨c0, -⟩ := g1.cells
    have HG := hid (And.intro gd (And.intro gs gset))
    clear g1 gd gs gset
    by_cases c : d < nz
    · have dd : decide (d < nz) = true := by simpa using c
      have hl : 0 ≤ (D.revive keep).d.len d ∧ (D.revive keep).d.len d ≤ 1000 := by
        unfold DevS.len
        split
        · have := HX.out.2.2.2.ok.len d (by show d < (D.d.revive keep).nz; have : (D.revive keep).d.nz = (D.d.revive keep).nz := rfl; have := HZ.out; omega)
          have h64 := HX.out.2.2.2.ok.size.2
          simp only [Int.toNat_natCast]
          have e1 : (D.revive keep).d = D.d.revive keep := rfl
          rw [e1]; omega
        · omega
      have HL := hid hl
      clear hl
      go_wp2_with fail
      refine Calls.mono (dlen_calls own5 db _ d wr HG.out.1.dev) ?_
      rintro e w4 ⟨rfl, rfl⟩
      go_wp2_with fail
      refine Calls.mono (forget_calls own5 pb db (D.revive keep) d _ wr HG.out.1 HG.out.2.2 HL.out.1 HL.out.2) ?_
      rintro e w5 ⟨rfl, own6, hd6, hs6, hset6⟩
      have H6 := hid (And.intro hd6 (And.intro hs6 hset6))
      clear hd6 hs6 hset6
      go_wp2_with fail
      go_roundg (gk - 1)
      case measure => omega
      case rel => exact ⟨d + 1, own6, by omega, by go_num, H6.out.1, HG.out.2.1.trans H6.out.2.1, H6.out.2.2⟩
    · have dd : decide (d < nz) = false := by simpa using c
      go_wp2_with fail
      go_end0
      exact ⟨rfl, own5, HG.out⟩
end Go.Rv
