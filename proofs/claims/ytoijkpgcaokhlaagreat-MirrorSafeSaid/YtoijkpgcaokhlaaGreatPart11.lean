/- Pens. -/
import Derived.Test.YtoijkpgcaokhlaaGreatPart10
import Derived.Laws.Cover3
set_option linter.unusedVariables false
set_option linter.unusedSimpArgs false
namespace Go.Rv
open Go Go.RowKit Go.Proofs

def byteOf (v : Int) : UInt8 := UInt8.ofNat (v % 256).toNat
theorem byteV_of (v : Int) : byteV (byteOf v) = .int .u8 (v % 256) := by
  unfold byteV byteOf
  have : ((v % 256).toNat % 256 : Nat) = (v % 256).toNat := by omega
  simp [this]
  omega
/-- a number's bytes, the least first. -/
def leB : Nat → Int → List UInt8
  | 0, _ => []
  | n + 1, v => byteOf v :: leB n (v / 256)
theorem leB_len : ∀ n v, (leB n v).length = n
  | 0, _ => rfl
  | n + 1, v => by simp [leB, leB_len n]
theorem widP_div (v : Int) : ∀ d, widP (v / 256) d = widP v d / 256
  | 0 => rfl
  | d + 1 => by simp only [widP]; rw [widP_div v d]
theorem leB_snoc : ∀ (d : Nat) (v : Int), leB (d + 1) v = leB d v ++ [byteOf (widP v d)]
  | 0, v => rfl
  | d + 1, v => by
    have h := leB_snoc d (v / 256)
    rw [leB, h, widP_div]
    rfl

/-- a pen: the block pb; its row lies behind it. -/
structure PenAt (w : World) (pb : Nat) (l : List UInt8) (bad : Bool) : Prop where
  ex : ∃ sv, w.heap[pb]? = some (.cells #[sv, .bool bad] 278 (0, 0)) ∧ RowAt w (fun k => pb < k) 5 1 sv l.length (l.map byteV)

theorem PenAt.keeps {w w' : World} {pb : Nat} {l : List UInt8} {bad : Bool} {M : Nat → Prop} (h : PenAt w pb l bad) (hk : Keeps M w w') (hm : ∀ k, pb ≤ k → ¬ M k) : PenAt w' pb l bad := by
  obtain ⟨sv, h1, h2⟩ := h
  exact ⟨sv, hk.heap h1 (hm _ (Nat.le_refl _)), h2.keeps hk fun k hk => hm k (by omega)⟩
theorem PenAt.new (w : World) : PenAt (w.alloc (.cells #[.slice none 0 0, .bool false] 278)) w.heap.size [] false :=
  ⟨.slice none 0 0, heap_new _ _, RowAt.nil _ _ _ _⟩

/-- blocks that a pen may turn: its own, and its row's. -/
def penBlk (pb : Nat) (X : World) (k : Nat) : Prop := pb ≤ k ∧ ∃ c e, X.heap[k]? = some (.cells c e (0, 0)) ∧ (e = 5 ∨ e = 278)
def PenStep (pb : Nat) (X Y : World) : Prop := Keeps (penBlk pb X) X Y
theorem PenStep.refl (pb : Nat) (X : World) : PenStep pb X X := Keeps.refl _ _
theorem PenStep.trans {pb : Nat} {X Y Z : World} (h : PenStep pb X Y) (k : PenStep pb Y Z) : PenStep pb X Z := by
  refine Keeps.trans' h k fun i hi hn => ?_
  obtain ⟨h0, c, e, ho, he⟩ := hn
  by_cases hx : penBlk pb X i
  · exact hx
  · exact ⟨h0, c, e, (h.block i hi hx).symm.trans ho, he⟩
theorem PenStep.keeps {pb : Nat} {X Y : World} (h : PenStep pb X Y) : Keeps (fun k => pb ≤ k) X Y := h.mono fun _ _ h => h.1
theorem PenStep.still {pb : Nat} {X Y : World} (h : Keeps (fun _ => False) X Y) : PenStep pb X Y := h.mono fun _ _ h => h.elim
theorem PenStep.heap {pb : Nat} {X Y : World} (h : PenStep pb X Y) {k : Nat} {c : Array Value} {e : TypeId} {f : Nat × Nat} (ho : X.heap[k]? = some (.cells c e f)) (h1 : e ≠ 5) (h2 : e ≠ 278) : Y.heap[k]? = some (.cells c e f) :=
  Keeps.heap h ho fun ⟨_, c', e', ho', he⟩ => by rw [ho] at ho'; cases ho'; exact he.elim h1 h2
theorem PenStep.set {pb : Nat} {X : World} {l : List UInt8} {bad : Bool} {sv : Value} (h : X.heap[pb]? = some (.cells #[sv, .bool bad] 278 (0, 0))) (o : Nat) (v : Value) : PenStep pb X (X.setCell ⟨pb, o, none⟩ v) :=
  Keeps.setCell (Keeps.refl _ _) (fun _ => ⟨Nat.le_refl _, _, _, h, .inr rfl⟩) v
theorem RowAt.typed {w : World} {P : Nat → Prop} {e : TypeId} {size : Nat} {v : Value} {n : Nat} {xs : List Value} (h : RowAt w P e size v n xs) : RowAt w (fun k => P k ∧ ∃ c, w.heap[k]? = some (.cells c e (0, 0))) e size v n xs := by
  obtain ⟨h1, h2 | ⟨g, cap, cur, hv, hp, hh, h3⟩⟩ := h
  · exact ⟨h1, .inl h2⟩
  · exact ⟨h1, .inr ⟨g, cap, cur, hv, ⟨hp, cur, hh⟩, hh, h3⟩⟩

def penOk (width v : Int) : Bool := inB width 1 7 && decide (widF v ≤ width)
def penNum (l : List UInt8) (bad : Bool) (width v : Int) : List UInt8 × Bool := if penOk width v then (l ++ leB width.toNat v, bad) else (l, true)

theorem infoU8 : (Tryz.prog.info? 5).map (fun i => (i.zero, i.size, i.bytes)) = some (some (.int .u8 0), 1, 1) := by kernel_rfl

theorem pen_set {w : World} {pb : Nat} {l : List UInt8} {bad : Bool} {sv : Value} (h : w.heap[pb]? = some (.cells #[sv, .bool bad] 278 (0, 0))) : w.cell? ⟨pb, 0, none⟩ = some sv ∧ w.cell? ⟨pb, 1, none⟩ = some (.bool bad) ∧ w.frozen? ⟨pb, 0, none⟩ = false ∧ w.frozen? ⟨pb, 1, none⟩ = false :=
  ⟨cell_of h 0, cell_of h 1, free_of h 0, free_of h 1⟩

set_option maxHeartbeats 1000000 in
theorem pnum_bad (pb : Nat) (l : List UInt8) (bad : Bool) (width v : Int) (w : World) (h : PenAt w pb l bad) (hv : -9223372036854775808 ≤ v ∧ v ≤ 9223372036854775807) (hn : penOk width v = false) :
    Calls Tryz.prog 173 #[.pointer (some ⟨pb, 0, none⟩), .int .i64 width, .int .i64 v] w fun e w' => e = .returned (.tuple #[]) ∧ PenAt w' pb l true ∧ PenStep pb w w' := by
  obtain ⟨sv, h1, h2⟩ := h
  obtain ⟨c0, c1, f0, f1⟩ := pen_set (l := l) h1
  have hq := heap_set h1 1 (.bool true)
  have H := hid (And.intro h1 (And.intro h2 hq))
  clear h1 h2 hq
  have fin : PenAt (w.setCell ⟨pb, 1, none⟩ (.bool true)) pb l true ∧ PenStep pb w (w.setCell ⟨pb, 1, none⟩ (.bool true)) := by
    have hk := (Keeps.refl (fun k => k = pb) w).setCell (p := ⟨pb, 1, none⟩) (fun _ => rfl) (.bool true)
    exact ⟨⟨sv, H.out.2.2, H.out.2.1.keeps hk fun k h => by omega⟩, PenStep.set (l := l) H.out.1 _ _⟩
  have FIN := hid fin
  clear fin
  cases hw : inB width 1 7 with
  | false =>
    have HW := hid hw
    clear hw hn
    go_enter Tryz.func173, Tryz.ntmps173
    go_wp2_with fail
    refine Calls.mono (cwithin_calls _ _) ?_
    rintro e w1 ⟨rfl, rfl⟩
    rw [HW.out]
    go_wp2_with fail
    ((try simp only [Exit.inBlock, Exit.then]); refine bodyPost_ret (results_none rfl _ _ _) rfl ?_)
    exact ⟨rfl, FIN.out⟩
  | true =>
    have hd : decide (width < widF v) = true := by
      simp [penOk, hw] at hn ⊢; omega
    have HW := hid hw
    clear hw hn
    go_enter Tryz.func173, Tryz.ntmps173
    go_wp2_with fail
    refine Calls.mono (cwithin_calls _ _) ?_
    rintro e w1 ⟨rfl, rfl⟩
    rw [HW.out]
    go_wp2_with fail
    refine Calls.mono (width_calls v _ hv.1 hv.2) ?_
    rintro e w1 ⟨rfl, rfl⟩
    go_wp2_with fail
    ((try simp only [Exit.inBlock, Exit.then]); refine bodyPost_ret (results_none rfl _ _ _) rfl ?_)
    exact ⟨rfl, FIN.out⟩

set_option maxHeartbeats 1000000 in
theorem pnum_good (pb : Nat) (l : List UInt8) (bad : Bool) (width : Nat) (v : Int) (w : World) (h : PenAt w pb l bad) (hv : -9223372036854775808 ≤ v ∧ v ≤ 9223372036854775807) (hl : l.length ≤ 1000) (hn : penOk width v = true) :
    Calls Tryz.prog 173 #[.pointer (some ⟨pb, 0, none⟩), .int .i64 width, .int .i64 v] w fun e w' => e = .returned (.tuple #[]) ∧ PenAt w' pb (l ++ leB width v) bad ∧ PenStep pb w w' := by
  have H := hid h
  clear h
  have hw : inB width 1 7 = true := by
    cases hw : inB width 1 7 with
    | true => rfl
    | false => simp [penOk, hw] at hn
  have hd : decide ((width : Int) < widF v) = false := by
    simp [penOk, hw] at hn ⊢; omega
  have hb : 1 ≤ width ∧ width ≤ 7 := by simp [inB] at hw; omega
  have HW := hid hw
  obtain ⟨i0, hi, hz0, hz1, hz2⟩ := info_parts infoU8
  have HI := hid (And.intro hi (And.intro hz0 (And.intro hz1 hz2)))
  clear hw hn hi hz0 hz1 hz2
  go_enter Tryz.func173, Tryz.ntmps173
  go_wp2_with fail
  refine Calls.mono (cwithin_calls _ _) ?_
  rintro e w1 ⟨rfl, rfl⟩
  rw [HW.out]
  go_wp2_with fail
  refine Calls.mono (width_calls v _ hv.1 hv.2) ?_
  rintro e w1 ⟨rfl, rfl⟩
  go_wp2_with fail
  go_loopg [2, 19] width (fun (gk : Nat) (x i : Value) (wr : World) => ∃ d : Nat, d + gk = width ∧ i = .int .i64 d ∧ x = .int .i64 (widP v d) ∧ PenAt wr pb (l ++ leB d v) bad ∧ PenStep pb w wr)
  case atStart => exact ⟨0, by omega, rfl, rfl, by simpa [leB] using H.out, PenStep.refl _ _⟩
  case round =>
    obtain ⟨d, hd, rfl, rfl, hp, hk⟩ := hrel
    by_cases c : d < width
    · have dd : decide (d < width) = true := by simpa using c
      obtain ⟨sv, h1, h2⟩ := hp
      obtain ⟨c0, c1, f0, f1⟩ := pen_set (l := l) h1
      have HP := hid (And.intro h1 (And.intro h2 hk))
      have hpb := lt_of h1
      have hlen : (l ++ leB d v).length ≤ 1010 := by simp [leB_len]; omega
      have HL := hid (leB_snoc d v)
      have HB := hid (byteV_of (widP v d))
      have HD := hid (show widP v (d + 1) = widP v d / 256 from rfl)
      clear h1 h2 hk
      generalize hxx : l ++ leB d v = ll at *
      have HXX := hid hxx
      clear hxx
      generalize widP v d = x at *
      obtain ⟨hi, hz0, hz1, hz2⟩ := HI.out
      go_wp2_with (at_builtin; refine wpList_append_tag rfl (.tmp 25) (.tmp 28) rfl Tryz.underlying174 hi hz0 hz1 hz2 rfl (by decide) rfl (Q := fun k => pb < k ∧ ∃ c, wr.heap[k]? = some (.cells c 5 (0, 0))) (n := ll.length) (m := 1) (xs := ll.map byteV) ?own rfl (news := [.int .u8 (x % 256)]) rfl ?c1 ?c2 ?c3 ?c4 (by decide) ?go)
      case own => exact HP.out.2.1.typed.keeps (M := fun _ => False) (by repeat (first | exact Keeps.refl _ _ | refine Keeps.alloc ?_ _ | refine Keeps.drew ?_ | refine Keeps.drewN ?_ _ | refine Keeps.trans ?_ (by assumption))) (fun _ _ => id)
      case c1 => intro j u hj; match j, hj with | 0, hj => simp at hj; subst hj; simp [Addr.add]
      case c2 => intro u hu; simp at hu; subst hu; rfl
      case c3 => unfold maxLen; omega
      case c4 => omega
      case go =>
        intro g cap w3 hown hg hk3
        have hk3' : Keeps (fun k => pb < k ∧ ∃ c, wr.heap[k]? = some (.cells c 5 (0, 0))) wr w3 := ((Keeps.refl _ _).alloc _).trans' hk3 (fun _ _ h => h)
        have h1' := hk3'.heap HP.out.1 (fun h => Nat.lt_irrefl _ h.1)
        obtain ⟨c0', c1', f0', f1'⟩ := pen_set (l := l) h1'
        have hgp : pb < g := by
          rcases hg with hg | hg
          · exact hg.1
          · omega
        have hq := heap_set h1' 0 (.slice (some ⟨g, 0, none⟩) (ll.length + 1) cap)
        have hrow := (rowAt_of_owns hown hgp : RowAt w3 (fun k => pb < k) _ _ _ _ _)
        have HY := hid (And.intro hq (And.intro hrow (And.intro hk3' h1')))
        clear hown hg hk3 hk3' h1' hq hrow c0 c1 f0 f1 hi hz0 hz1 hz2
        have hsh : 0 ≤ (8 : Int) := by decide
        go_wp2_with fail
        go_roundg (gk - 1)
        case measure => omega
        case rel =>
          have hs := (Keeps.refl (fun k => k = pb) w3).setCell (p := ⟨pb, 0, none⟩) (fun _ => rfl) (.slice (some ⟨g, 0, none⟩) (ll.length + 1) cap)
          have e : l ++ leB (d + 1) v = ll ++ [byteOf x] := by rw [HL.out, ← HXX.out, List.append_assoc]
          refine ⟨d + 1, by omega, by go_num, by rw [HD.out], ?_, ?_⟩
          · rw [e]
            refine ⟨_, HY.out.1, ?_⟩
            have := HY.out.2.1.keeps hs fun k h => by omega
            simpa [HB.out] using this
          · have a1 : PenStep pb wr w3 := HY.out.2.2.1.mono fun k _ h => ⟨Nat.le_of_lt h.1, h.2.choose, _, h.2.choose_spec, .inl rfl⟩
            exact (HP.out.2.2.trans a1).trans (PenStep.set (l := l) HY.out.2.2.2 _ _)
    · have dd : decide (d < width) = false := by simpa using c
      have hdn : d = width := by omega
      subst hdn
      have HP := hid (And.intro hp hk)
      clear hp hk
      go_wp2_with fail
      go_end0
      exact ⟨rfl, HP.out⟩
end Go.Rv

/- Pens: bytes, and all that was written. -/
namespace Go.Rv
open Go Go.RowKit Go.Proofs

theorem add_off (b o j : Nat) : (⟨b, o, none⟩ : Addr).add j = ⟨b, o + j, none⟩ := by unfold Addr.add; split <;> simp_all
theorem BytesAt.news {w : World} {b o : Nat} {l : List UInt8} (h : BytesAt w b o l) : ∀ j u, (l.map byteV)[j]? = some u → w.cell? ((⟨b, o, none⟩ : Addr).add j) = some u := by
  intro j u hu
  rw [add_off]
  rw [List.getElem?_map] at hu
  cases hj : l[j]? with
  | none => simp [hj] at hu
  | some c =>
    simp [hj] at hu
    subst hu
    obtain ⟨hlt, e⟩ := List.getElem?_eq_some_iff.1 hj
    rw [h j hlt, e]
/-- the bytes of a row. -/
theorem RowAt.bytes {w : World} {P : Nat → Prop} {e : TypeId} {g n cap : Nat} {l : List UInt8} (h : RowAt w P e 1 (.slice (some ⟨g, 0, none⟩) n cap) n (l.map byteV)) (hn : 0 < n) : BytesAt w g 0 l ∧ P g := by
  obtain ⟨g', e1, e2, hp, hl, hc⟩ := h.cell rfl hn
  cases e1
  refine ⟨fun j hj => ?_, hp⟩
  have := hc j (byteV l[j]) (by simp [hj])
  simpa using this

set_option maxHeartbeats 1000000 in
theorem pbytes_calls (pb : Nat) (l : List UInt8) (bad : Bool) (b o cap : Nat) (m : List UInt8) (w : World) (h : PenAt w pb l bad) (hb : BytesAt w b o m) (hm : 0 < m.length) (hl : l.length + m.length ≤ 1000) :
    Calls Tryz.prog 174 #[.pointer (some ⟨pb, 0, none⟩), .slice (some ⟨b, o, none⟩) m.length cap] w fun e w' => e = .returned (.tuple #[]) ∧ PenAt w' pb (l ++ m) bad ∧ PenStep pb w w' := by
  obtain ⟨sv, h1, h2⟩ := h
  obtain ⟨c0, c1, f0, f1⟩ := pen_set (l := l) h1
  have hpb := lt_of h1
  have HP := hid (And.intro h1 (And.intro h2 hb))
  obtain ⟨i0, hi, hz0, hz1, hz2⟩ := info_parts infoU8
  have HI := hid (And.intro hi (And.intro hz0 (And.intro hz1 hz2)))
  clear h1 h2 hb hi hz0 hz1 hz2
  go_enter Tryz.func174, Tryz.ntmps174
  obtain ⟨hi, hz0, hz1, hz2⟩ := HI.out
  go_wp2_with (at_builtin; refine wpList_append_tag rfl (.tmp 8) (.tmp 9) rfl Tryz.underlying174 hi hz0 hz1 hz2 rfl (by decide) rfl (Q := fun k => pb < k ∧ ∃ c, w.heap[k]? = some (.cells c 5 (0, 0))) (n := l.length) (m := m.length) (xs := l.map byteV) ?own rfl (news := m.map byteV) ?c0 ?c1 ?c2 ?c3 ?c4 hm ?go)
  case own => exact HP.out.2.1.typed
  case c0 => simp
  case c1 => exact HP.out.2.2.news
  case c2 => exact fun u hu => by obtain ⟨c, _, rfl⟩ := List.mem_map.1 hu; rfl
  case c3 => unfold maxLen; omega
  case c4 => omega
  case go =>
    intro g cap' w3 hown hg hk3
    have h1' := hk3.heap HP.out.1 (fun h => Nat.lt_irrefl _ h.1)
    obtain ⟨c0', c1', f0', f1'⟩ := pen_set (l := l) h1'
    have hgp : pb < g := by
      rcases hg with hg | hg
      · exact hg.1
      · omega
    have hq := heap_set h1' 0 (.slice (some ⟨g, 0, none⟩) (l.length + m.length) cap')
    have hrow := (rowAt_of_owns hown hgp : RowAt w3 (fun k => pb < k) _ _ _ _ _)
    have HY := hid (And.intro hq (And.intro hrow (And.intro hk3 h1')))
    clear hown hg hk3 h1' hq hrow c0 c1 f0 f1 hi hz0 hz1 hz2
    go_wp2_with fail
    go_end0
    have hs := (Keeps.refl (fun k => k = pb) w3).setCell (p := ⟨pb, 0, none⟩) (fun _ => rfl) (.slice (some ⟨g, 0, none⟩) (l.length + m.length) cap')
    refine ⟨rfl, ⟨_, HY.out.1, ?_⟩, ?_⟩
    · have := HY.out.2.1.keeps hs fun k h => by omega
      simpa using this
    · have a1 : PenStep pb w w3 := HY.out.2.2.1.mono fun k _ h => ⟨Nat.le_of_lt h.1, h.2.choose, _, h.2.choose_spec, .inl rfl⟩
      exact a1.trans (PenStep.set (l := l) HY.out.2.2.2 _ _)

set_option maxHeartbeats 1000000 in
theorem pout_bad (pb : Nat) (l : List UInt8) (w : World) (h : PenAt w pb l true) :
    Calls Tryz.prog 175 #[.pointer (some ⟨pb, 0, none⟩)] w fun e w' => e = .returned (.tuple #[.slice none 0 0, .int .i64 13]) ∧ w = w' := by
  obtain ⟨sv, h1, h2⟩ := h
  obtain ⟨c0, c1, f0, f1⟩ := pen_set (l := l) h1
  clear h1 h2
  go_enter Tryz.func175, Tryz.ntmps175
  go_wp2_with fail
  go_ret2
  exact ⟨rfl, rfl⟩

set_option maxHeartbeats 1000000 in
set_option maxRecDepth 100000 in
theorem pout_good (pb : Nat) (l : List UInt8) (w : World) (h : PenAt w pb l false) (h0 : 0 < l.length) (hl : l.length ≤ 1000) :
    Calls Tryz.prog 175 #[.pointer (some ⟨pb, 0, none⟩)] w fun e w' => ∃ g cap, e = .returned (.tuple #[.slice (some ⟨g, 0, none⟩) l.length cap, .int .i64 0]) ∧ w.heap.size ≤ g ∧ BytesAt w' g 0 l ∧ Keeps (fun _ => False) w w' := by
  obtain ⟨sv, h1, h2⟩ := h
  obtain ⟨c0, c1, f0, f1⟩ := pen_set (l := l) h1
  obtain ⟨a, cap, hsv⟩ := h2.slice
  obtain ⟨g1, e1, e2, hp1, hg1, hc1⟩ := h2.cell hsv h0
  subst e1 hsv
  have hrow := h2.bytes h0
  have hpb := lt_of h1
  have HP := hid (And.intro h1 (And.intro h2 hrow.1))
  obtain ⟨i0, hi, hz0, hz1, hz2⟩ := info_parts infoU8
  have HI := hid (And.intro hi (And.intro hz0 (And.intro hz1 hz2)))
  clear h1 h2 hrow hi hz0 hz1 hz2 hc1 f0 f1
  go_enter Tryz.func175, Tryz.ntmps175
  obtain ⟨hi, hz0, hz1, hz2⟩ := HI.out
  go_wp2_with (at_builtin; refine wpList_append_tag rfl (.tmp 8) (.tmp 12) rfl Tryz.underlying174 hi hz0 hz1 hz2 rfl (by decide) rfl (Q := fun _ => False) (n := 0) (m := l.length) (xs := []) ?own rfl (news := l.map byteV) (by simp) ?c1 ?c2 ?c3 ?c4 h0 ?go)
  case own => exact ⟨by simp, .inl ⟨_, rfl, rfl⟩⟩
  case c1 =>
    intro j a ha
    obtain ⟨hlt, e⟩ := List.getElem?_eq_some_iff.1 ha
    have := HP.out.2.2 j hlt
    simpa [e] using this
  case c2 => exact fun u _ => rfl
  case c3 => unfold maxLen; omega
  case c4 => omega
  case go =>
    intro g cap' w3 hown hg hk3
    have hgp : w.heap.size ≤ g := by
      omega
    have hrow := (rowAt_of_owns hown hgp : RowAt w3 (fun k => w.heap.size ≤ k) _ _ _ _ _)
    have HY := hid (And.intro hrow (And.intro hk3 hgp))
    clear hown hg hk3 hrow hgp hi hz0 hz1 hz2
    go_wp2_with fail
    go_ret2
    have hr := HY.out.1
    try simp only [Nat.zero_add, List.nil_append] at hr
    refine ⟨g, cap', by simp, HY.out.2.2, (hr.bytes h0).1, ((Keeps.refl _ _).alloc _).trans HY.out.2.1⟩
end Go.Rv

/- Bytes behind which their sum stands. -/
namespace Go.Rv
open Go Go.RowKit Go.Proofs
attribute [local irreducible] wpQuiet
attribute [local go_sem ↓] ld_Table st_Table al_Table
attribute [local go_sem] cellsAt_new0 cellsAt_lt cellsAt_drew size_bytesV

theorem RowAt.cellsAt {w : World} {P : Nat → Prop} {e : TypeId} {g n cap : Nat} {xs : List Value} (h : RowAt w P e 1 (.slice (some ⟨g, 0, none⟩) n cap) n xs) (hn : 0 < n) : cellsAt w ⟨g, 0, none⟩ n = some xs.toArray ∧ P g := by
  obtain ⟨h1, ⟨_, h2, _⟩ | ⟨g', cap', cur, hv, hp, hh, h3, h4, h5, h6⟩⟩ := h
  · cases h2; omega
  · cases hv
    refine ⟨?_, hp⟩
    unfold Rv.cellsAt
    simp only [hh]
    rw [if_neg (by simp), if_pos (by omega)]
    congr 1
    rw [← h6]
    apply Array.ext'
    simp

def sealB (T : Nat → Int) (l : List UInt8) : List UInt8 := l ++ leB 4 (crcSum T l)
theorem sealB_len (T : Nat → Int) (l : List UInt8) : (sealB T l).length = l.length + 4 := by simp [sealB, leB_len]

set_option maxHeartbeats 1000000 in
set_option maxRecDepth 100000 in
theorem seal_calls (T : Nat → Int) (b o cap : Nat) (l : List UInt8) (w : World) (hb : BytesAt w b o l) (h0 : 0 < l.length) (hl : l.length ≤ 1000) :
    Calls Tryz.prog 211 #[.agg (tabV T), .slice (some ⟨b, o, none⟩) l.length cap] w fun e w' => ∃ g cap', e = .returned (.slice (some ⟨g, 0, none⟩) (l.length + 4) cap') ∧ RowAt w' (fun k => w.heap.size ≤ k) 5 1 (.slice (some ⟨g, 0, none⟩) (l.length + 4) cap') (l.length + 4) ((sealB T l).map byteV) ∧ Keeps (fun _ => False) w w' := by
  have HB := hid hb
  obtain ⟨i0, hi, hz0, hz1, hz2⟩ := info_parts infoU8
  have HI := hid (And.intro hi (And.intro hz0 (And.intro hz1 hz2)))
  have hsz := size_tabV T
  clear hb hi hz0 hz1 hz2
  go_enter Tryz.func211, Tryz.ntmps211
  go_wp2_with fail
  obtain ⟨w0, hw0⟩ : ∃ w0, w.alloc (.cells (tabV T) 72) = w0 := ⟨_, rfl⟩
  rw [hw0]
  have hk0 : Keeps (fun _ => False) w w0 := by rw [← hw0]; exact (by repeat (first | exact Keeps.refl _ _ | refine Keeps.alloc ?_ _ | refine Keeps.drew ?_ | refine Keeps.drewN ?_ _ | refine Keeps.trans ?_ (by assumption)))
  have H0 := hid hk0
  clear hk0 hw0
  refine Calls.mono (sum_calls T b o cap l _ (HB.out.keeps H0.out id) (by omega)) ?_
  rintro e w1 ⟨rfl, hk1⟩
  have H1 := hid (H0.out.trans hk1)
  have hbd := crcSum_bd T l
  have HS := hid (show leB 4 (crcSum T l) = [byteOf (crcSum T l), byteOf (crcSum T l / 256), byteOf (crcSum T l / 65536), byteOf (crcSum T l / 16777216)] by
    simp only [leB]
    rw [show crcSum T l / 256 / 256 = crcSum T l / 65536 by omega, show crcSum T l / 65536 / 256 = crcSum T l / 16777216 by omega])
  clear hk1
  have HQ := hid (show sealB T l = l ++ leB 4 (crcSum T l) from rfl)
  rw [HS.out] at HQ
  clear HS
  generalize crcSum T l = s at *
  obtain ⟨hs0, hs1⟩ := hbd
  obtain ⟨hi, hz0, hz1, hz2⟩ := HI.out
  go_wp2_with (at_builtin; refine wpList_append_tag rfl (.tmp 9) (.tmp 10) rfl Tryz.underlying174 hi hz0 hz1 hz2 rfl (by decide) rfl (Q := fun _ => False) (n := 0) (m := l.length) (xs := []) ?own rfl (news := l.map byteV) (by simp) ?c1 ?c2 ?c3 ?c4 h0 ?go)
  case own => exact ⟨by simp, .inl ⟨_, rfl, rfl⟩⟩
  case c1 =>
    exact ((HB.out.keeps H1.out id).keeps (M := fun _ => False) (by repeat (first | exact Keeps.refl _ _ | refine Keeps.alloc ?_ _ | refine Keeps.drew ?_ | refine Keeps.drewN ?_ _ | refine Keeps.trans ?_ (by assumption))) id).news
  case c2 => exact fun u hu => by obtain ⟨c, _, rfl⟩ := List.mem_map.1 hu; rfl
  case c3 => unfold maxLen; omega
  case c4 => omega
  case go =>
    intro g cap' w3 hown hg hk3
    have hgp : w1.heap.size ≤ g := by omega
    have hrow := (rowAt_of_owns hown hgp : RowAt w3 (fun k => w1.heap.size ≤ k) _ _ _ _ _)
    have HY := hid (And.intro hrow (And.intro hk3 hgp))
    clear hown hg hk3 hrow hgp
    go_wp2_with (at_builtin; refine wpList_append_tag rfl (.tmp 11) (.tmp 23) rfl Tryz.underlying174 hi hz0 hz1 hz2 rfl (by decide) rfl (Q := fun k => w1.heap.size ≤ k) (n := 0 + l.length) (m := 4) (xs := [] ++ l.map byteV) ?own rfl (news := [.int .u8 (s % 256), .int .u8 (s / 256 % 256), .int .u8 (s / 65536 % 256), .int .u8 (s / 16777216)]) rfl ?d1 ?d2 ?d3 ?d4 (by decide) ?go)
    case own =>
      rw [Nat.zero_add]
      exact HY.out.1.keeps ((Keeps.refl (fun _ => False) w3).alloc _) (fun _ _ => id)
    case d1 =>
      intro j u hj
      match j, hj with
      | 0, hj => simp at hj; subst hj; simp [Addr.add]
      | 1, hj => simp at hj; subst hj; simp [Addr.add]
      | 2, hj => simp at hj; subst hj; simp [Addr.add]
      | 3, hj => simp at hj; subst hj; simp [Addr.add]
      | n + 4, hj => simp at hj
    case d2 =>
      intro u hu
      simp at hu
      rcases hu with rfl | rfl | rfl | rfl <;> rfl
    case d3 => unfold maxLen; omega
    case d4 => omega
    case go =>
      intro g2 cap2 w4 hown2 hg2 hk4
      have hgp : w.heap.size ≤ g2 := by
        have := H1.out.size
        have := HY.out.2.1.size
        simp at this
        omega
      have hrow := (rowAt_of_owns hown2 hgp : RowAt w4 (fun k => w.heap.size ≤ k) _ _ _ _ _)
      have hkk : Keeps (fun _ => False) w w4 := by
        have a1 : Keeps (fun _ => False) w1 w3 := ((Keeps.refl _ _).alloc _).trans HY.out.2.1
        have a2 : Keeps (fun k => w1.heap.size ≤ k) w1 w4 := ((a1.mono fun _ _ h => h.elim).alloc _).trans hk4
        exact H1.out.trans (a2.mono fun k hk h => by omega)
      have HZ := hid (And.intro hrow hkk)
      clear hown2 hg2 hk4 hrow hkk hi hz0 hz1 hz2
      go_wp2_with fail
      go_ret
      refine ⟨g2, cap2, rfl, ?_, HZ.out.2⟩
      rw [HQ.out]
      have e : (l ++ [byteOf s, byteOf (s / 256), byteOf (s / 65536), byteOf (s / 16777216)]).map byteV = l.map byteV ++ [.int .u8 (s % 256), .int .u8 (s / 256 % 256), .int .u8 (s / 65536 % 256), .int .u8 (s / 16777216)] := by
        simp only [List.map_append, List.map_cons, List.map_nil, byteV_of]
        rw [show s / 16777216 % 256 = s / 16777216 by omega]
      rw [e]
      have := HZ.out.1
      simpa using this
end Go.Rv

/- Frames: which may be, and their sectors. -/
namespace Go.Rv
open Go Go.RowKit Go.Proofs
attribute [local irreducible] wpQuiet
attribute [local go_sem ↓] ld_Table st_Table al_Table ld_Frame st_Frame al_Frame ld_Sector st_Sector al_Sector
attribute [local go_sem] cellsAt_new0 cellsAt_lt cellsAt_drew size_bytesV

structure FrmS where
  kind : Int
  zone : Int
  off : Int
  epoch : Int
  seq : Int
  body : List UInt8
def frmC (F : FrmS) : Array Value := (.int .i64 F.kind :: .int .i64 F.zone :: .int .i64 F.off :: .int .i64 F.epoch :: .int .i64 F.seq :: F.body.map byteV).toArray
theorem frm_facts (F : FrmS) (h : F.body.length = 44) : (frmC F).size = 49 ∧ (frmC F)[0]? = some (.int .i64 F.kind) ∧ (frmC F)[1]? = some (.int .i64 F.zone) ∧ (frmC F)[2]? = some (.int .i64 F.off) ∧ (frmC F)[3]? = some (.int .i64 F.epoch) ∧ (frmC F)[4]? = some (.int .i64 F.seq) := by
  simp [frmC, h]
theorem frm_body (F : FrmS) (j : Nat) (hj : j < F.body.length) : (frmC F)[5 + j]? = some (byteV F.body[j]) := by
  rw [Nat.add_comm]
  simp [frmC, hj]
def FrmS.right (F : FrmS) : Bool := inB F.kind 1 5 && inB F.zone 0 65535 && inB F.off 0 65535 && inB F.epoch 1 4294967295 && inB F.seq 0 281474976710655

theorem fwithin_calls (n lo hi : Int) (w : World) : Calls Tryz.prog 176 #[.int .i64 n, .int .i64 lo, .int .i64 hi] w fun e w' => e = .returned (.bool (inB n lo hi)) ∧ w = w' := by
  by_cases h1 : lo ≤ n
  · have b1 : decide (lo ≤ n) = true := by simpa using h1
    go_enter Tryz.func176, Tryz.ntmps176
    go_wp2
    go_ret
    exact ⟨by simp [inB]; omega, rfl⟩
  · have b1 : decide (lo ≤ n) = false := by simpa using h1
    go_enter Tryz.func176, Tryz.ntmps176
    go_wp2
    go_ret
    exact ⟨by simp [inB]; omega, rfl⟩

set_option maxHeartbeats 1000000 in
set_option maxRecDepth 100000 in
theorem frame_right_calls (F : FrmS) (hb : F.body.length = 44) (w : World) : Calls Tryz.prog 129 #[.agg (frmC F)] w fun e w' => e = .returned (.bool F.right) ∧ Keeps (fun _ => False) w w' := by
  obtain ⟨q, q0, q1, q2, q3, q4⟩ := frm_facts F hb
  unfold FrmS.right
  clear hb
  cases h1 : inB F.kind 1 5
  rotate_left
  cases h2 : inB F.zone 0 65535
  rotate_left
  cases h3 : inB F.off 0 65535
  rotate_left
  cases h4 : inB F.epoch 1 4294967295
  rotate_left
  cases h5 : inB F.seq 0 281474976710655
  rotate_left
  all_goals
    go_enter Tryz.func129, Tryz.ntmps129
    go_wp2_with (go_at_call 176; refine (fwithin_calls _ _ _ _).mono ?_; rintro e w' ⟨rfl, rfl⟩; simp only [*])
    go_ret
    exact ⟨rfl, (by repeat (first | exact Keeps.refl _ _ | refine Keeps.alloc ?_ _ | refine Keeps.drew ?_ | refine Keeps.drewN ?_ _ | refine Keeps.trans ?_ (by assumption)))⟩
end Go.Rv

/- Frames: their sectors. -/
namespace Go.Rv
open Go Go.RowKit Go.Proofs
attribute [local irreducible] wpQuiet
attribute [local go_sem ↓] ld_Table st_Table al_Table ld_Frame st_Frame al_Frame ld_Sector st_Sector al_Sector
attribute [local go_sem] cellsAt_new0 cellsAt_lt cellsAt_drew size_bytesV

theorem penOk1 (v : Int) (h0 : 0 ≤ v) (h1 : v ≤ 255) : penOk 1 v = true := by
  have : widF v = 1 := by unfold widF; rw [if_neg (by omega), if_pos (by omega)]
  simp [penOk, inB, this]
theorem penOk2 (v : Int) (h0 : 0 ≤ v) (h1 : v ≤ 65535) : penOk 2 v = true := by
  have : widF v ≤ 2 := by unfold widF; omega
  simp [penOk, inB, this]
theorem penOk4 (v : Int) (h0 : 0 ≤ v) (h1 : v ≤ 4294967295) : penOk 4 v = true := by
  have : widF v ≤ 4 := by unfold widF; omega
  simp [penOk, inB, this]
theorem penOk6 (v : Int) (h0 : 0 ≤ v) (h1 : v ≤ 281474976710655) : penOk 6 v = true := by
  have : widF v ≤ 6 := by unfold widF; omega
  simp [penOk, inB, this]

def frmHead (F : FrmS) : List UInt8 := leB 1 F.kind ++ leB 1 1 ++ leB 2 F.zone ++ leB 2 F.off ++ leB 4 F.epoch ++ leB 6 F.seq ++ F.body
theorem frmHead_len (F : FrmS) (h : F.body.length = 44) : (frmHead F).length = 60 := by simp [frmHead, leB_len, h]
/-- a frame's sector. -/
def frmSec (T : Nat → Int) (F : FrmS) : List UInt8 := sealB T (frmHead F)
theorem frmSec_len (T : Nat → Int) (F : FrmS) (h : F.body.length = 44) : (frmSec T F).length = 64 := by simp [frmSec, sealB_len, frmHead_len F h]

structure EncAt (w0 : World) (T : Nat → Int) (F : FrmS) (pb : Nat) (l : List UInt8) (w : World) : Prop where
  pen : PenAt w pb l false
  lt : w0.heap.size + 3 ≤ pb
  tab : w.heap[w0.heap.size]? = some (.cells (tabV T) 72 (0, 0))
  frm : w.heap[w0.heap.size + 1]? = some (.cells (frmC F) 120 (0, 0))
  sec : w.heap[w0.heap.size + 2]? = some (.cells z_Sector 103 (0, 0))
  keeps : Keeps (fun _ => False) w0 w
theorem EncAt.step {w0 : World} {T : Nat → Int} {F : FrmS} {pb : Nat} {l l' : List UInt8} {w w' : World} (h : EncAt w0 T F pb l w) (hp : PenAt w' pb l' false) (hk : Keeps (fun k => pb ≤ k) w w') : EncAt w0 T F pb l' w' := by
  have := h.lt
  exact ⟨hp, h.lt, hk.heap h.tab (by omega), hk.heap h.frm (by omega), hk.heap h.sec (by omega), h.keeps.trans' hk fun i hi hp => by omega⟩
theorem EncAt.cells {w0 : World} {T : Nat → Int} {F : FrmS} {pb : Nat} {l : List UInt8} {w : World} (h : EncAt w0 T F pb l w) (hb : F.body.length = 44) : w.cell? ⟨w0.heap.size + 1, 0, none⟩ = some (.int .i64 F.kind) ∧ w.cell? ⟨w0.heap.size + 1, 1, none⟩ = some (.int .i64 F.zone) ∧ w.cell? ⟨w0.heap.size + 1, 2, none⟩ = some (.int .i64 F.off) ∧ w.cell? ⟨w0.heap.size + 1, 3, none⟩ = some (.int .i64 F.epoch) ∧ w.cell? ⟨w0.heap.size + 1, 4, none⟩ = some (.int .i64 F.seq) ∧ BytesAt w (w0.heap.size + 1) 5 F.body := by
  obtain ⟨q, q0, q1, q2, q3, q4⟩ := frm_facts F hb
  exact ⟨(cell_of h.frm 0).trans q0, (cell_of h.frm 1).trans q1, (cell_of h.frm 2).trans q2, (cell_of h.frm 3).trans q3, (cell_of h.frm 4).trans q4, fun j hj => (cell_of h.frm (5 + j)).trans (frm_body F j hj)⟩
theorem EncAt.num {w0 : World} {T : Nat → Int} {F : FrmS} {pb : Nat} {l : List UInt8} {w : World} (h : EncAt w0 T F pb l w) (n : Nat) (wd v : Int) (hwd : wd = n) (hv : -9223372036854775808 ≤ v ∧ v ≤ 9223372036854775807) (hl : l.length ≤ 1000) (hn : penOk wd v = true) :
    Calls Tryz.prog 173 #[.pointer (some ⟨pb, 0, none⟩), .int .i64 wd, .int .i64 v] w fun e w' => e = .returned (.tuple #[]) ∧ EncAt w0 T F pb (l ++ leB n v) w' := by
  subst hwd
  refine (pnum_good pb l false n v w h.pen hv hl hn).mono ?_
  rintro e w' ⟨rfl, hp, hk⟩
  exact ⟨rfl, h.step hp hk.keeps⟩

theorem pbytes_n (pb : Nat) (l : List UInt8) (bad : Bool) (b o cap n : Nat) (m : List UInt8) (hn : m.length = n) (w : World) (h : PenAt w pb l bad) (hb : BytesAt w b o m) (hm : 0 < n) (hl : l.length + n ≤ 1000) :
    Calls Tryz.prog 174 #[.pointer (some ⟨pb, 0, none⟩), .slice (some ⟨b, o, none⟩) n cap] w fun e w' => e = .returned (.tuple #[]) ∧ PenAt w' pb (l ++ m) bad ∧ PenStep pb w w' := by
  subst hn
  exact pbytes_calls pb l bad b o cap m w h hb hm hl
theorem pout_n (pb n : Nat) (l : List UInt8) (hn : l.length = n) (w : World) (h : PenAt w pb l false) (h0 : 0 < n) (hl : n ≤ 1000) :
    Calls Tryz.prog 175 #[.pointer (some ⟨pb, 0, none⟩)] w fun e w' => ∃ g cap, e = .returned (.tuple #[.slice (some ⟨g, 0, none⟩) n cap, .int .i64 0]) ∧ w.heap.size ≤ g ∧ BytesAt w' g 0 l ∧ Keeps (fun _ => False) w w' := by
  subst hn
  exact pout_good pb l w h h0 hl
theorem seal_n (T : Nat → Int) (b o cap n : Nat) (l : List UInt8) (hn : l.length = n) (w : World) (hb : BytesAt w b o l) (h0 : 0 < n) (hl : n ≤ 1000) :
    Calls Tryz.prog 211 #[.agg (tabV T), .slice (some ⟨b, o, none⟩) n cap] w fun e w' => ∃ g cap', e = .returned (.slice (some ⟨g, 0, none⟩) (n + 4) cap') ∧ RowAt w' (fun k => w.heap.size ≤ k) 5 1 (.slice (some ⟨g, 0, none⟩) (n + 4) cap') (n + 4) ((sealB T l).map byteV) ∧ Keeps (fun _ => False) w w' := by
  subst hn
  exact seal_calls T b o cap l w hb h0 hl
theorem EncAt.bytes {w0 : World} {T : Nat → Int} {F : FrmS} {pb : Nat} {l : List UInt8} {w : World} (h : EncAt w0 T F pb l w) (hb : F.body.length = 44) (cap : Nat) (hl : l.length + 44 ≤ 1000) :
    Calls Tryz.prog 174 #[.pointer (some ⟨pb, 0, none⟩), .slice (some ⟨w0.heap.size + 1, 5, none⟩) 44 cap] w fun e w' => e = .returned (.tuple #[]) ∧ EncAt w0 T F pb (l ++ F.body) w' := by
  refine (pbytes_n pb l false _ _ cap 44 F.body hb w h.pen (h.cells hb).2.2.2.2.2 (by omega) hl).mono ?_
  rintro e w' ⟨rfl, hp, hk⟩
  exact ⟨rfl, h.step hp hk.keeps⟩
theorem EncAt.still {w0 : World} {T : Nat → Int} {F : FrmS} {pb : Nat} {l : List UInt8} {w w' : World} (h : EncAt w0 T F pb l w) (hk : Keeps (fun _ => False) w w') : EncAt w0 T F pb l w' :=
  h.step (h.pen.keeps hk fun _ _ => id) (hk.mono fun _ _ h => h.elim)

set_option maxHeartbeats 1000000 in
set_option maxRecDepth 100000 in
theorem encode_good (T : Nat → Int) (F : FrmS) (hb : F.body.length = 44) (hr : F.right = true) (w : World) : Calls Tryz.prog 177 #[.agg (tabV T), .agg (frmC F)] w fun e w' => e = .returned (.tuple #[secV (frmSec T F), .int .i64 0]) ∧ Keeps (fun _ => False) w w' := by
  have hbd : (1 ≤ F.kind ∧ F.kind ≤ 5) ∧ (0 ≤ F.zone ∧ F.zone ≤ 65535) ∧ (0 ≤ F.off ∧ F.off ≤ 65535) ∧ (1 ≤ F.epoch ∧ F.epoch ≤ 4294967295) ∧ (0 ≤ F.seq ∧ F.seq ≤ 281474976710655) := by
    simp [FrmS.right, inB] at hr; omega
  obtain ⟨q, q0, q1, q2, q3, q4⟩ := frm_facts F hb
  unfold secV
  obtain ⟨S, hS⟩ : ∃ S, bytesV (frmSec T F) = S := ⟨_, rfl⟩
  rw [hS]
  have HS := hid hS
  have HBD := hid hbd
  have HR := hid hr
  have HB := hid hb
  clear hS hbd hr hb q0 q1 q2 q3 q4
  have g2 : (((w.alloc (.cells (tabV T) 72)).alloc (.cells (frmC F) 120)).alloc (.cells z_Sector 103)).heap[w.heap.size + 1]? = some (.cells (frmC F) 120 (0, 0)) := heap_old _ _ (by have := heap_new (w.alloc (.cells (tabV T) 72)) (.cells (frmC F) 120); simpa using this)
  have g3 := cellsAt_full (n := 49) g2 q
  clear g2
  go_enter Tryz.func177, Tryz.ntmps177
  go_wp2_with fail
  refine Calls.mono (frame_right_calls F HB.out _) ?_
  rintro e w1 ⟨rfl, hk1⟩
  rw [HR.out]
  have h1 : w1.heap[w.heap.size]? = some (.cells (tabV T) 72 (0, 0)) := hk1.heap (heap_old _ _ (heap_old _ _ (heap_new _ _))) id
  have h2 : w1.heap[w.heap.size + 1]? = some (.cells (frmC F) 120 (0, 0)) := hk1.heap (heap_old _ _ (by have := heap_new (w.alloc (.cells (tabV T) 72)) (.cells (frmC F) 120); simpa using this)) id
  have h3 : w1.heap[w.heap.size + 2]? = some (.cells z_Sector 103 (0, 0)) := hk1.heap (by have := heap_new ((w.alloc (.cells (tabV T) 72)).alloc (.cells (frmC F) 120)) (.cells z_Sector 103); simpa using this) id
  have hkk : Keeps (fun _ => False) w w1 := Keeps.trans (by repeat (first | exact Keeps.refl _ _ | refine Keeps.alloc ?_ _)) hk1
  have hlt := lt_of h3
  have henc : EncAt w T F w1.heap.size [] (w1.alloc (.cells #[.slice none 0 0, .bool false] 278)) := ⟨PenAt.new w1, by omega, heap_old _ _ h1, heap_old _ _ h2, heap_old _ _ h3, hkk.alloc _⟩
  have HE := hid henc
  clear hk1 h1 h2 h3 hkk henc
  obtain ⟨w2, hw2⟩ : ∃ w2, w1.alloc (.cells #[.slice none 0 0, .bool false] 278) = w2 := ⟨_, rfl⟩
  rw [hw2] at HE
  obtain ⟨c0, -⟩ := HE.out.cells HB.out
  go_wp2_with fail
  clear hw2 c0
  refine Calls.mono (HE.out.num 1 1 F.kind rfl (by have := HBD.out; omega) (by simp) (penOk1 _ (by have := HBD.out; omega) (by have := HBD.out; omega))) ?_
  rintro e w3 ⟨rfl, he⟩
  have HE3 := hid he
  clear he
  go_wp2_with fail
  refine Calls.mono (HE3.out.num 1 1 1 rfl (by omega) (by simp [leB_len]) (penOk1 _ (by omega) (by omega))) ?_
  rintro e w4 ⟨rfl, he⟩
  have HE4 := hid he
  obtain ⟨c0, c1, c2, c3, c4, c5⟩ := he.cells HB.out
  clear he c0 c2 c3 c4 c5
  go_wp2_with fail
  refine Calls.mono (HE4.out.num 2 2 F.zone rfl (by have := HBD.out; omega) (by simp [leB_len]) (penOk2 _ (by have := HBD.out; omega) (by have := HBD.out; omega))) ?_
  rintro e w5 ⟨rfl, he⟩
  have HE5 := hid he
  obtain ⟨c0, c1, c2, c3, c4, c5⟩ := he.cells HB.out
  clear he c0 c1 c3 c4 c5
  go_wp2_with fail
  refine Calls.mono (HE5.out.num 2 2 F.off rfl (by have := HBD.out; omega) (by simp [leB_len]) (penOk2 _ (by have := HBD.out; omega) (by have := HBD.out; omega))) ?_
  rintro e w6 ⟨rfl, he⟩
  have HE6 := hid he
  obtain ⟨c0, c1, c2, c3, c4, c5⟩ := he.cells HB.out
  clear he c0 c1 c2 c4 c5
  go_wp2_with fail
  refine Calls.mono (HE6.out.num 4 4 F.epoch rfl (by have := HBD.out; omega) (by simp [leB_len]) (penOk4 _ (by have := HBD.out; omega) (by have := HBD.out; omega))) ?_
  rintro e w7 ⟨rfl, he⟩
  have HE7 := hid he
  obtain ⟨c0, c1, c2, c3, c4, c5⟩ := he.cells HB.out
  clear he c0 c1 c2 c3 c5
  go_wp2_with fail
  refine Calls.mono (HE7.out.num 6 6 F.seq rfl (by have := HBD.out; omega) (by simp [leB_len]) (penOk6 _ (by have := HBD.out; omega) (by have := HBD.out; omega))) ?_
  rintro e w8 ⟨rfl, he⟩
  have HE8 := hid he
  clear he
  go_wp2_with fail
  refine Calls.mono (HE8.out.bytes HB.out 44 (by simp [leB_len])) ?_
  rintro e w9 ⟨rfl, he⟩
  have HE9 : Hid (EncAt w T F w1.heap.size (frmHead F) w9) := hid he
  clear he HE HE3 HE4 HE5 HE6 HE7 HE8
  go_wp2_with fail
  refine Calls.mono (pout_n _ 60 (frmHead F) (frmHead_len F HB.out) _ HE9.out.pen (by omega) (by omega)) ?_
  rintro e w10 ⟨g, cap, rfl, hg, hby, hk⟩
  have HE10 := hid (And.intro (HE9.out.still hk) hby)
  have e1 := cellsAt_full (HE10.out.1.tab) (size_tabV T)
  clear hg hby hk
  go_wp2_with fail
  refine Calls.mono (seal_n T g 0 cap 60 (frmHead F) (frmHead_len F HB.out) _ HE10.out.2 (by omega) (by omega)) ?_
  rintro e w11 ⟨g2, cap2, rfl, hrow, hk⟩
  have HE11 := hid (HE10.out.1.still hk)
  have e2 := hrow.cellsAt (by omega)
  have e3 : (List.map byteV (sealB T (frmHead F))).toArray = bytesV (frmSec T F) := rfl
  rw [e3] at e2
  obtain ⟨e2, -⟩ := e2
  have e4 : cellsFree w11 ⟨w.heap.size + 2, 0, none⟩ 64 = true := cellsFree_full HE11.out.sec rfl
  have e5 : (bytesV (frmSec T F)).size = 64 := by simp [bytesV, frmSec_len T F HB.out]
  have e6 := allOne_bytes (frmSec T F)
  clear hrow hk e1 e3
  rw [HS.out] at e2 e5 e6
  go_wp2_with fail
  rw [run_arrayAt _ 103 5 64 _ _ _ Tryz.underlying103 (by decide)]
  go_wp2_with fail
  refine bodyPost_ret (results_cell2 rfl row_Sector _ rfl (cellsAt_full (putCells_at HE11.out.sec (by rw [e5]; rfl)) e5)) rfl ⟨rfl, ?_⟩
  exact keeps_put0 HE11.out.keeps (fun h => absurd h (by omega)) _
end Go.Rv
