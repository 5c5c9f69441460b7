/- Areas: their zones, handed over one by one. -/
import Derived.Test.YtoijkpgcaokhlaaGreatPart16
import Derived.Test.YtoijkpgcaokhlaaGreatPart12
import Derived.Test.YtoijkpgcaokhlaaGreatPart17
import Derived.Test.YtoijkpgcaokhlaaGreatPart18
set_option linter.unusedVariables false
set_option linter.unusedSimpArgs false
namespace Go.Rv
open Go Go.RowKit Go.Proofs
attribute [local irreducible] wpQuiet tab0 tabV
attribute [local go_sem] cellsAt_new0 cellsAt_lt cellsAt_drew size_bytesV Oper.semAt_some

def aL (cur old : Nat → Int) : List Int := [cur 0, old 0, cur 1, old 1, cur 2, old 2]
def aZ (cur old : Nat → Int) : List Int := (aL cur old).filter (· != -1)
def aRows (cur old : Nat → Int) : List (Array Value) := (aZ cur old).map fun x => #[.int .i64 x]
/-- how many were handed over ahead of place p. -/
def kOf (l : List Int) (p : Nat) : Nat := ((l.take p).filter (· != -1)).length
theorem kOf_skip {l : List Int} {p : Nat} {x : Int} (h : l[p]? = some x) (hx : x = -1) : kOf l (p + 1) = kOf l p := by
  obtain ⟨hp, he⟩ := List.getElem?_eq_some_iff.1 h
  unfold kOf
  rw [List.take_succ_eq_append_getElem hp, List.filter_append, he, hx]
  simp
theorem kOf_take {l : List Int} {p : Nat} {x : Int} (h : l[p]? = some x) (hx : x ≠ -1) : kOf l (p + 1) = kOf l p + 1 ∧ (l.filter (· != -1))[kOf l p]? = some x := by
  obtain ⟨hp, he⟩ := List.getElem?_eq_some_iff.1 h
  have hb : (x != -1) = true := by simpa using hx
  constructor
  · unfold kOf
    rw [List.take_succ_eq_append_getElem hp, List.filter_append, he]
    simp [hb]
  · have e : l = l.take p ++ x :: l.drop (p + 1) := by rw [← he, List.getElem_cons_drop hp, List.take_append_drop]
    unfold kOf
    conv => lhs; rw [e]
    rw [List.filter_append, List.take_append_of_le_length (by simp; omega), List.take_take, Nat.min_self]
    rw [List.getElem?_append_right (Nat.le_refl _), Nat.sub_self, List.filter_cons, if_pos hb]
    rfl

theorem aAll_calls (ab : Nat) (w : World) : Calls Tryz.prog 68 #[.pointer (some ⟨ab, 0, none⟩)] w fun e w' => e = .returned (.func (.func 120) #[] #[.pointer (some ⟨w.heap.size, 0, none⟩)]) ∧ w' = w.alloc (.cells #[.pointer (some ⟨ab, 0, none⟩)] 30) := by
  go_enter Tryz.func68, Tryz.ntmps68
  go_wp2
  go_ret
  exact ⟨rfl, rfl⟩

structure AIter (l : List Int) (J : Inv) (w : World) (p : Nat) (wr : World) : Prop where
  ex : ∃ D : Nat → Prop, J (kOf l p) D wr ∧ w.heap.size ≤ wr.heap.size

set_option maxHeartbeats 300000 in
set_option maxRecDepth 100000 in
theorem aAll_iter (own : Nat → Nat) (bx ab mb : Nat) (cur old : Nat → Int) (Bd : Nat → Prop) (w : World) (h : AreHead w own ab mb cur old) (hbx : w.cell? ⟨bx, 0, none⟩ = some (.pointer (some ⟨ab, 0, none⟩))) :
    Iter Tryz.prog 120 #[.pointer (some ⟨bx, 0, none⟩)] (aRows cur old) (fun _ => False) Bd (fun _ => True) w := by
  intro lp J Jx hJ hJx hJD hY hrec h0
  obtain ⟨m0, c0, o0, c1, o1, c2, o2⟩ := h.cells
  have HE := hid h0
  clear h h0
  refine callsIn_of_wp Tryz.func120 rfl trivial ?_ rfl
  simp only [Tryz.ntmps120, List.size_toArray, List.length_cons, List.length_nil, Nat.reduceAdd, Nat.reduceSub, Array.replicate_succ, Array.replicate_zero, List.push_toArray, List.append_toArray, List.nil_append, List.cons_append]
  gi_wp2_with fail
  gi_loopw [11] (fun i wr => ∃ k : Nat, i = .int .i64 k ∧ k ≤ 3 ∧ AIter (aL cur old) J w (2 * k) wr) (fun i _ => 3 - (intOf i).toNat)
  case atStart => exact ⟨0, rfl, by omega, ⟨_, HE.out, Nat.le_refl _⟩⟩
  case round =>
    obtain ⟨k, rfl, hk, hj⟩ := hrel
    have HJ := hid hj
    clear hj
    by_cases c : k < 3
    case neg =>
      have hk3 : k = 3 := by omega
      subst hk3
      gi_wp2_with fail
      go_end0
      exact ⟨⟨_, rfl⟩, trivial, .inl (by obtain ⟨D, h1, h2⟩ := HJ.out.ex; exact ⟨D, by simpa [kOf, aRows, aZ, aL] using h1⟩)⟩
    have dd : decide ((k : Int) < 3) = true := by simp; omega
    have xk : ∀ w : World, (Instr.index 145 (.agg #[.int .i64 (cur 0), .int .i64 (old 0), .int .i64 (cur 1), .int .i64 (old 1), .int .i64 (cur 2), .int .i64 (old 2)]) (.int .i64 k)).run Tryz.prog w = .ok (.agg #[.int .i64 (cur k), .int .i64 (old k)]) w := by
      have hc : k = 0 ∨ k = 1 ∨ k = 2 := by omega
      rcases hc with rfl | rfl | rfl
      all_goals exact fun _ => by kernel_rfl
    have hx0 : (aL cur old)[2 * k]? = some (cur k) := by
      have hc : k = 0 ∨ k = 1 ∨ k = 2 := by omega
      rcases hc with rfl | rfl | rfl <;> rfl
    have hx1 : (aL cur old)[2 * k + 1]? = some (old k) := by
      have hc : k = 0 ∨ k = 1 ∨ k = 2 := by omega
      rcases hc with rfl | rfl | rfl <;> rfl
    have HX := hid (And.intro hx0 (And.intro hx1 c))
    clear hx0 hx1
    gi_wp2_with fail
    generalize cur k = xc at *
    generalize old k = xo at *
    clear xk dd
    obtain ⟨wo, hwo⟩ : ∃ wo, wo = wr := ⟨_, rfl⟩
    subst hwo
    gi_loopw [19] (fun i wq => ∃ j : Nat, i = .int .i64 j ∧ j ≤ 2 ∧ AIter (aL cur old) J w (2 * k + j) wq) (fun i _ => 2 - (intOf i).toNat)
    case atStart =>
      refine ⟨0, rfl, by omega, ?_⟩
      obtain ⟨D, h1, h2⟩ := HJ.out.ex
      refine ⟨D, hJ _ _ _ _ h1 (IterStep.of_keeps (M := fun _ => False) (by repeat (first | exact Keeps.refl _ _ | refine Keeps.alloc ?_ _ | refine Keeps.drew ?_ | refine Keeps.drewN ?_ _ | refine Keeps.trans ?_ (by assumption))) fun _ _ h => h), ?_⟩
      simp; omega
    case round =>
      obtain ⟨j, rfl, hj, hit⟩ := hrel
      have HI := hid hit
      clear hit
      by_cases cj : j < 2
      case neg =>
        have hj2 : j = 2 := by omega
        subst hj2
        gi_wp2_with fail
        go_roundw
        case rel => exact ⟨k + 1, by go_num, by omega, HI.out⟩
        case measure => simp [intOf]; omega
      have ddj : decide ((j : Int) < 2) = true := by simp; omega
      obtain ⟨x, hxj, hyj⟩ : ∃ x, (aL cur old)[2 * k + j]? = some x ∧ ∀ w : World, (Instr.index 176 (.agg #[.int .i64 xc, .int .i64 xo]) (.int .i64 j)).run Tryz.prog w = .ok (.int .i64 x) w := by
        have hc : j = 0 ∨ j = 1 := by omega
        rcases hc with rfl | rfl
        · exact ⟨xc, HX.out.1, fun _ => by kernel_rfl⟩
        · exact ⟨xo, HX.out.2.1, fun _ => by kernel_rfl⟩
      by_cases hx : x = -1
      · have HS := hid (kOf_skip hxj hx)
        clear hxj
        subst hx
        gi_wp2_with fail
        refine ⟨fun f h => (by cases h), ?_⟩
        gi_wp2_with fail
        go_roundw
        case rel =>
          refine ⟨j + 1, by go_num, by omega, ?_⟩
          obtain ⟨D, h1, h2⟩ := HI.out.ex
          exact ⟨D, by rw [show 2 * k + (j + 1) = 2 * k + j + 1 by omega, HS.out]; exact h1, h2⟩
        case measure => simp [intOf]; omega
      · obtain ⟨t1, t2⟩ := kOf_take hxj hx
        obtain ⟨D, h1, h2⟩ := HI.out.ex
        obtain ⟨fn, tmps, assign, body, hy, hR⟩ := hY _ D wr #[.int .i64 x] (by simp [aRows, aZ, t2]) h1 h2
        have HS := hid (And.intro t1 h2)
        clear hxj t1 t2 h1 h2
        gi_wp2_with fail
        refine hR.mono ?_
        rintro e W3 (⟨rfl, D', hJ3, hg3⟩ | ⟨rfl, hJx3, hk3⟩)
        · have R3 := hid (And.intro hJ3 (Nat.le_trans HS.out.2 hg3.keeps.size))
          clear hJ3 hg3
          gi_wp2
          go_roundw
          case rel => exact ⟨j + 1, by go_num, by omega, ⟨D', by rw [show 2 * k + (j + 1) = 2 * k + j + 1 by omega, HS.out.1]; exact R3.out.1, R3.out.2⟩⟩
          case measure => simp [intOf]; omega
        · have X3 := hid hJx3
          clear hJx3 hk3
          gi_wp2
          refine bodyPost_ret (results_none rfl _ _ _) rfl ?_
          exact ⟨⟨_, rfl⟩, trivial, .inr X3.out⟩
end Go.Rv

/- Areas: whether a zone is one of theirs. -/
namespace Go.Rv
open Go Go.RowKit Go.Proofs
attribute [local irreducible] wpQuiet tab0 tabV
attribute [local go_sem] cellsAt_new0 cellsAt_lt cellsAt_drew size_bytesV Oper.semAt_some

/-- between two rounds of Has. -/
structure AHas (w wi : World) (z : Int) (l : List Int) (k : Nat) (b : Bool) (X : World) : Prop where
  keeps : Keeps (fun _ => False) w X
  size : wi.heap.size ≤ X.heap.size
  zbox : X.heap[w.heap.size]? = some (.cells #[.int .i64 z] 3 (0, 0))
  rbox : X.heap[w.heap.size + 1]? = some (.cells #[.bool b] 4 (0, 0))
  none : z ∉ l.take k
theorem AHas.step {w wi : World} {z : Int} {l : List Int} {k : Nat} {b : Bool} {X Y : World} (h : AHas w wi z l k b X) (hst : IterStep (fun _ => False) wi.heap.size X Y) (hs : wi.heap.size = w.heap.size + 3) : AHas w wi z l k b Y := by
  have kp : ∀ {i : Nat} {o : Obj}, X.heap[i]? = some o → i < wi.heap.size → Y.heap[i]? = some o := fun ho h2 => Keeps.heap hst ho (fun h => h.elim id fun h => by omega)
  exact ⟨h.keeps.trans' hst fun i hi h => h.elim id fun h => by omega, Nat.le_trans h.size hst.size, kp h.zbox (by omega), kp h.rbox (by omega), h.none⟩
theorem aRows_int (cur old : Nat → Int) (k : Nat) (r : Array Value) (h : (aRows cur old)[k]? = some r) : ∃ x, r = #[.int .i64 x] ∧ (aZ cur old)[k]? = some x := by
  unfold aRows at h
  rw [List.getElem?_map, Option.map_eq_some_iff] at h
  obtain ⟨x, h1, h2⟩ := h
  exact ⟨x, h2.symm, h1⟩

set_option maxHeartbeats 500000 in
set_option maxRecDepth 100000 in
theorem aHas_calls (own : Nat → Nat) (ab mb : Nat) (cur old : Nat → Int) (z : Int) (w : World) (h : AreHead w own ab mb cur old) :
    Calls Tryz.prog 19 #[.pointer (some ⟨ab, 0, none⟩), .int .i64 z] w fun e w' => e = .returned (.bool (decide (z ∈ aZ cur old))) ∧ Keeps (fun _ => False) w w' := by
  refine (callsIn_wide (n := 3)).1 ?_
  have H := hid h
  have haw := lt_of h.heap
  clear h
  refine callsIn_of_wp_marks Tryz.func19 rfl trivial ?_ rfl
  simp only [Tryz.ntmps19, List.size_toArray, List.length_cons, List.length_nil, Nat.reduceAdd, Nat.reduceSub, Array.replicate_succ, Array.replicate_zero, List.push_toArray, List.append_toArray, List.nil_append, List.cons_append]
  gi_wp2_with fail
  refine ⟨trivial, CallsIn.mono (callsIn_wide.2 (aAll_calls ab _)) ?_⟩
  rintro e w1 ⟨rfl, rfl⟩
  gi_wp2_with fail
  obtain ⟨wi, hwi⟩ : ∃ wi, ((w.alloc (.cells #[.int .i64 z] 3)).alloc (.cells #[.bool false] 4)).alloc (.cells #[.pointer (some ⟨ab, 0, none⟩)] 30) = wi := ⟨_, rfl⟩
  rw [hwi]
  have hki : Keeps (fun _ => False) w wi := by rw [← hwi]; exact (((Keeps.refl _ _).alloc _).alloc _).alloc _
  have hsi : wi.heap.size = w.heap.size + 3 := by rw [← hwi]; simp
  have hb0 : wi.heap[w.heap.size]? = some (.cells #[.int .i64 z] 3 (0, 0)) := by rw [← hwi]; exact heap_old _ _ (heap_old _ _ (heap_new _ _))
  have hb1 : wi.heap[w.heap.size + 1]? = some (.cells #[.bool false] 4 (0, 0)) := by
    rw [← hwi]; have := heap_new (w.alloc (.cells #[.int .i64 z] 3)) (.cells #[.bool false] 4); rw [World.size_alloc] at this; exact heap_old _ _ this
  have hb2 : wi.heap[w.heap.size + 2]? = some (.cells #[.pointer (some ⟨ab, 0, none⟩)] 30 (0, 0)) := by
    rw [← hwi]; have := heap_new ((w.alloc (.cells #[.int .i64 z] 3)).alloc (.cells #[.bool false] 4)) (.cells #[.pointer (some ⟨ab, 0, none⟩)] 30); rwa [World.size_alloc, World.size_alloc] at this
  refine wpIn_any rfl (wpIn_range (gf := 120) (lb := #[.pointer (some ⟨w.heap.size + 2, 0, none⟩)]) rfl (enters_of Tryz.func120 (by kernel_rfl) rfl) (aRows cur old) (fun _ => False) (fun b => b = w.heap.size + 1)
    (fun _ => True) ?hps ?hA ?hB ?hit ?hFin
    (fun k D X => D = (fun _ => False) ∧ AHas w wi z (aZ cur old) k false X) (fun c X => c = .ret ∧ AHas w wi z (aZ cur old) 0 true X ∧ z ∈ aZ cur old) (fun k a' D X => (D = (fun _ => False) ∧ AHas w wi z (aZ cur old) k false X) ∧ ∃ x, (aRows cur old)[k]? = some #[.int .i64 x] ∧ a' = { tmps := #[.pointer (some ⟨ab, 0, none⟩), .int .i64 z, undef, .pointer (some ⟨w.heap.size, 0, none⟩), .pointer (some ⟨w.heap.size + 1, 0, none⟩), .int .i64 x, .pointer (some ⟨ab, 0, none⟩), .func (.func 120) #[] #[.pointer (some ⟨w.heap.size + 2, 0, none⟩)], .int .i64 x, undef, undef, undef], defers := [] })
    ?hI ?hIx ?hAx ?hD ?hDx ?h0 ?hassign ?hbody ?hdone ?hstop)
  case hps =>
    intro r hr
    obtain ⟨k, hk⟩ := List.getElem?_of_mem hr
    obtain ⟨x, rfl, -⟩ := aRows_int _ _ k r hk
    rfl
  case hA => exact fun b h => h.elim
  case hB => rintro b rfl; omega
  case hit =>
    intro W' hst hsz'
    have kp : ∀ {b : Nat} {o : Obj}, wi.heap[b]? = some o → W'.heap[b]? = some o := fun ho => Keeps.heap hst ho (fun h => h.elim id fun h => by have := lt_of ho; omega)
    exact aAll_iter own (w.heap.size + 2) ab mb cur old _ W' ⟨H.out.mine, kp (hki.heap H.out.heap fun h => h)⟩ (cell_of (kp hb2) 0)
  case hFin => exact fun _ _ _ _ => trivial
  case hI => rintro k D X Y ⟨h1, h2⟩ hst; exact ⟨h1, h2.step hst hsi⟩
  case hIx => rintro c X Y ⟨h1, h2, h3⟩ hst; exact ⟨h1, h2.step hst hsi, h3⟩
  case hAx => rintro k a' D X Y ⟨⟨h1, h2⟩, h3⟩ hst; exact ⟨⟨h1, h2.step hst hsi⟩, h3⟩
  case hD => rintro k D X ⟨h1, -⟩ b hb; rw [h1] at hb; exact hb.elim
  case hDx => rintro k a' D X ⟨⟨h1, -⟩, -⟩ b hb; rw [h1] at hb; exact hb.elim
  case h0 => exact ⟨rfl, hki, Nat.le_refl _, hb0, hb1, by simp⟩
  case hassign =>
    intro l k D r X K hr hsz2 hi hK
    obtain ⟨x, rfl, -⟩ := aRows_int _ _ k r hr
    have HK := hid hK
    have HII := hid hi
    have HR := hid hr
    clear hK hi hr
    gi_wp2
    exact HK.out _ D _ ⟨Keeps.refl _ _, fun b hb => .inl hb⟩ ⟨HII.out, x, HR.out, rfl⟩
  case hbody =>
    rintro l k a' D X hk hlw2 hsz2 hlr ⟨⟨hD, hp⟩, x, hr, rfl⟩
    obtain ⟨x', he, hx⟩ := aRows_int _ _ k _ hr
    have hxx : x' = x := by simpa using he.symm
    subst hxx
    have hcz := cell_of hp.zbox 0
    have hcr := cell_of hp.rbox 0
    have hfr := free_of hp.rbox 0
    simp at hcz hcr
    have HP := hid hp
    have HX := hid hx
    have HD := hid hD
    clear hp hx hD hr he
    by_cases hxz : x' = z
    · have hb : (x' == z) = true := by simpa using hxz
      gi_wp2
      refine ⟨fun _ => False, ⟨(Keeps.refl _ _).setCell (fun _ => .inl rfl) _, fun _ h => h.elim⟩, rfl, ⟨?_, ?_, ?_, ?_, by simp⟩, ?_⟩
      · exact HP.out.keeps.trans' (N := fun b => b = w.heap.size + 1) (Keeps.setCell (M := fun b => b = w.heap.size + 1) (Keeps.refl _ _) (fun _ => rfl) _) fun i hi h => by omega
      · have := HP.out.size; simp; omega
      · rw [heap_set_ne _ _ (by omega)]; exact HP.out.zbox
      · exact heap_set HP.out.rbox 0 (.bool true)
      · rw [← hxz]; exact List.mem_of_getElem? HX.out
    · have hb : (x' == z) = false := by simpa using hxz
      gi_wp2
      refine ⟨D, ⟨Keeps.refl _ _, fun _ h => .inl h⟩, HD.out, ⟨HP.out.keeps, HP.out.size, HP.out.zbox, HP.out.rbox, ?_⟩⟩
      intro hm
      obtain ⟨hk', hx'⟩ := List.getElem?_eq_some_iff.1 HX.out
      rw [List.take_succ_eq_append_getElem hk', List.mem_append] at hm
      rcases hm with hm | hm
      · exact HP.out.none hm
      · rw [List.mem_singleton, hx'] at hm; exact hxz hm.symm
  case hdone =>
    rintro D Y hfin ⟨-, hp⟩ hmark
    have hcr := cell_of hp.rbox 0
    have hfr := free_of hp.rbox 0
    simp at hcr
    have HP := hid hp
    have HM := hid hmark
    clear hp hfin hmark
    gi_wp2
    have hrb := heap_set HP.out.rbox 0 (.bool false)
    have hmk : (Y.setCell ⟨w.heap.size + 1, 0, none⟩ (.bool false)).heap[wi.heap.size]? = some (.deferred (some [])) := by rw [heap_set_ne _ _ (by omega)]; exact HM.out
    have hrc := cell_of (heap_put_ne (r := wi.heap.size) (o := .deferred none) hrb (by omega)) 0
    simp at hrc
    refine leaves_mark hmk (.bool false) (by simp [results, Tryz.results19, go_sem, hrc]) ⟨?_, ?_⟩
    · have hn := HP.out.none
      rw [List.take_of_length_le (by simp [aRows])] at hn
      simp [hn]
    · exact keeps_put (HP.out.keeps.trans' (N := fun b => b = w.heap.size + 1) (Keeps.setCell (M := fun b => b = w.heap.size + 1) (Keeps.refl _ _) (fun _ => rfl) _) fun i hi h => by omega) (by omega) _
  case hstop =>
    rintro c Y hfin ⟨rfl, hp, hz⟩ hmark
    have HP := hid hp
    have HM := hid hmark
    have HZ := hid hz
    clear hp hfin hmark hz
    gi_wp2
    have hrc := cell_of (heap_put_ne (r := wi.heap.size) (o := .deferred none) HP.out.rbox (by omega)) 0
    simp at hrc
    exact leaves_mark HM.out (.bool true) (by simp [results, Tryz.results19, go_sem, hrc]) ⟨by simp [HZ.out], keeps_put HP.out.keeps (by omega) _⟩
end Go.Rv

/- Mirrors: a zone that lies in no open segment is quarantined. -/
namespace Go.Rv
open Go Go.RowKit Go.Proofs
attribute [local irreducible] wpQuiet tab0 tabV
attribute [local go_sem ↓] ld_Geom st_Geom al_Geom ld_Table st_Table al_Table
attribute [local go_sem] cellsAt_new0 cellsAt_lt cellsAt_drew size_bytesV

def MirS.setBad (M : MirS) (i : Nat) : MirS := { M with bad := fun k => if k = i then true else M.bad k }
def MirS.mark (M : MirS) (z : Int) : MirS := { M.setBad z.toNat with p := (M.p.drop z).1 }
/-- .. where the zone lies in no open segment. -/
def MirS.quar (M : MirS) (z : Int) : MirS × Int := if M.g.domain z < 0 then (M, 13) else if M.isBad z then (M, 16) else (M.mark z, 0)

theorem MirAt.setBad {w : World} {own : Nat → Nat} {mb pb db plb : Nat} {M : MirS} {bb bc : Nat} {cur : Array Value} (h1 : MirHead w own mb pb plb M bb bc cur) (h : MirAt w own mb pb db plb M) (hset : Settled own w) {i : Nat} (hi : (i : Int) < M.g.all) :
    MirAt (w.setCell ⟨bb, i, none⟩ (.int .i64 1)) own mb pb db plb (M.setBad i) ∧ Step (fun t => t = 4) w own (w.setCell ⟨bb, i, none⟩ (.int .i64 1)) own ∧ Settled own (w.setCell ⟨bb, i, none⟩ (.int .i64 1)) := by
  have hk : Keeps (fun k => k = bb) w (w.setCell ⟨bb, i, none⟩ (.int .i64 1)) := keeps_set (Keeps.refl _ _) _ _
  have hk4 : Keeps (fun k => own k = 4) w (w.setCell ⟨bb, i, none⟩ (.int .i64 1)) := hk.mono fun k _ e => by rw [e]; exact h1.mineb
  obtain ⟨s1, s2⟩ := Step.kept (A := fun t => t = 4) hk4 hset
  obtain ⟨-, h2, h3, h4⟩ := h
  have hci := h1.elems i hi
  have hne : mb ≠ bb := by
    intro e
    have a1 := h1.heap
    have a2 := h1.list
    rw [e, a2] at a1
    simp only [Option.some.injEq, Obj.cells.injEq] at a1
    have := a1.2.1
    revert this
    decide
  refine ⟨⟨⟨bb, bc, cur.setIfInBounds i (.int .i64 1), ⟨h1.mine, h1.mineb, hk.heap h1.heap hne, heap_set h1.list i (.int .i64 1), fun k hk' => ?_⟩⟩, ?_, ?_, ⟨h4.right, h4.pool, h4.pg, h4.nz, h4.size⟩⟩, s1, s2⟩
  · have hb := (Array.getElem?_eq_some_iff.1 hci).1
    have hek := h1.elems k hk'
    unfold MirS.setBad
    by_cases e : k = i
    · subst e
      rw [Array.getElem?_setIfInBounds, if_pos rfl, if_pos hb]; simp
    · rw [Array.getElem?_setIfInBounds, if_neg (Ne.symm e), hek]; simp [e]
  · exact h2.kept s1 fun t ht e => by subst e; exact tags_apart.1 ht
  · exact h3.kept h4.pool.nd.2.1 s1 fun t ht e => by subst e; exact tags_apart.2.1 ht

set_option maxHeartbeats 500000 in
set_option maxRecDepth 100000 in
theorem quar_calls (own : Nat → Nat) (mb pb db plb : Nat) (M : MirS) (z : Int) (w : World) (h : MirAt w own mb pb db plb M) (hset : Settled own w) (hz : 0 ≤ M.g.domain z → z ≠ M.a ∧ z ≠ M.b) :
    Calls Tryz.prog 20 #[.pointer (some ⟨mb, 0, none⟩), .int .i64 z] w fun e w' => e = .returned (.int .i64 (M.quar z).2) ∧ MirAt w' own mb pb db plb (M.quar z).1 ∧ Step (fun t => t = 4 ∨ poolTag t) w own w' own ∧ Settled own w' := by
  have hh := h
  obtain ⟨⟨bb, bc, cur, h1⟩, -, -, hok⟩ := hh
  obtain ⟨-, c1, -, -, -, -⟩ := h1.cells
  have H := hid (And.intro h (And.intro hset (And.intro h1 hz)))
  have hsm := M.g.right_small hok.right
  have HSM := hid hsm
  have HOK := hid hok
  have HG : Hid (geomV M.g = .agg (geomC M.g)) := hid rfl
  have hal := M.g.all_bd hsm
  clear h h1 hok hsm hset
  unfold MirS.quar
  by_cases k1 : M.g.domain z < 0
  · have d1 : decide (M.g.domain z < 0) = true := by simpa using k1
    rw [if_pos k1]
    clear k1
    go_enter Tryz.func20, Tryz.ntmps20
    go_wp2_with fail
    rw [← HG.out]
    refine Calls.mono (domain_calls M.g HSM.out _ _) ?_
    rintro e w1 ⟨rfl, hk⟩
    have HK := hid hk
    clear hk
    go_wp2_with fail
    go_ret
    exact ⟨rfl, H.out.1.still HK.out, (Step.kept (A := fun t => t = 4 ∨ poolTag t) (HK.out.mono fun _ _ h => h.elim) H.out.2.1).1, H.out.2.1.keeps HK.out⟩
  · have d1 : decide (M.g.domain z < 0) = false := by simpa using k1
    rw [if_neg k1]
    obtain ⟨z0, z1⟩ := GeomS.domain_in (g := M.g) (z := z) (by omega)
    have HK1 := hid k1
    clear k1
    cases hb : M.isBad z with
    | true =>
      have HB := hid hb
      clear hb
      go_enter Tryz.func20, Tryz.ntmps20
      go_wp2_with fail
      rw [← HG.out]
      refine Calls.mono (domain_calls M.g HSM.out _ _) ?_
      rintro e w1 ⟨rfl, hk⟩
      have HK := hid hk
      clear hk
      go_wp2_with fail
      refine Calls.mono (mbad_calls own mb pb db plb M z _ (H.out.1.still HK.out)) ?_
      rintro e w2 ⟨rfl, hk⟩
      have HK2 := hid (HK.out.trans hk)
      clear hk
      rw [HB.out]
      go_wp2_with fail
      go_ret
      exact ⟨rfl, H.out.1.still HK2.out, (Step.kept (A := fun t => t = 4 ∨ poolTag t) (HK2.out.mono fun _ _ h => h.elim) H.out.2.1).1, H.out.2.1.keeps HK2.out⟩
    | false =>
      obtain ⟨i, rfl⟩ : ∃ i : Nat, z = i := ⟨z.toNat, by omega⟩
      have HB := hid hb
      have HZ := hid z1
      have hlt : i < M.g.all.toNat := by omega
      clear hb z0 z1
      go_enter Tryz.func20, Tryz.ntmps20
      go_wp2_with fail
      rw [← HG.out]
      refine Calls.mono (domain_calls M.g HSM.out _ _) ?_
      rintro e w1 ⟨rfl, hk⟩
      have HK := hid hk
      clear hk
      go_wp2_with fail
      refine Calls.mono (mbad_calls own mb pb db plb M i _ (H.out.1.still HK.out)) ?_
      rintro e w2 ⟨rfl, hk⟩
      have hk2 := HK.out.trans hk
      rw [HB.out]
      have hM2 := H.out.1.still hk2
      have hh2 := H.out.2.2.1.keeps hk2 (fun _ _ => id)
      obtain ⟨-, -, -, -, c4, -⟩ := hh2.cells
      have hci := (cell_of hh2.list i).trans (hh2.elems i HZ.out)
      have hfi := free_of hh2.list i
      obtain ⟨r1, r2, r3⟩ := MirAt.setBad hh2 hM2 (H.out.2.1.keeps hk2) HZ.out
      have h3 : MirHead (w2.setCell ⟨bb, i, none⟩ (.int .i64 1)) own mb pb plb M bb bc cur → True := fun _ => trivial
      have HX := hid (And.intro hk2 (And.intro r1 (And.intro r2 r3)))
      obtain ⟨w3, hw3⟩ : ∃ w3, w2.setCell ⟨bb, i, none⟩ (.int .i64 1) = w3 := ⟨_, rfl⟩
      rw [hw3] at HX
      obtain ⟨⟨bb3, bc3, cur3, g3⟩, -, -, hok3⟩ := HX.out.2.1
      obtain ⟨-, -, -, c3, -, c5, c6, -⟩ := g3.cells
      have HO3 := hid hok3
      clear hk hk2 hM2 hh2 r1 r2 r3 h3 g3 hok3
      go_wp2_with fail
      refine Calls.mono (drop_calls own plb M.p i w3 HX.out.2.1.pool HO3.out.pool HX.out.2.2.2) ?_
      rintro e w4 ⟨rfl, hp4, hk4⟩
      have s4 := Step.kept (A := poolTag) hk4 HX.out.2.2.2
      have hM4 := HX.out.2.1.turnp s4.1 hp4 (HOK.out.pool.drop i) (by unfold PoolS.drop; split <;> exact HOK.out.pg)
      have st := ((Step.kept (A := fun t => t = 4 ∨ poolTag t) (HX.out.1.mono fun _ _ h => h.elim) H.out.2.1).1.trans (HX.out.2.2.1.mono fun t h => .inl h)).trans (s4.1.mono fun t h => .inr h)
      have HY := hid (And.intro hM4 (And.intro st s4.2))
      obtain ⟨⟨bb4, bc4, cur4, g4⟩, -, -, -⟩ := hM4
      obtain ⟨-, -, -, -, -, c5, c6, -⟩ := g4.cells
      have za : ((i : Int) != M.a) = true := by simpa using (H.out.2.2.2 (by have := HK1.out; omega)).1
      have zb : ((i : Int) != M.b) = true := by simpa using (H.out.2.2.2 (by have := HK1.out; omega)).2
      have ea : (MirS.setBad M i).a = M.a := rfl
      have eb : (MirS.setBad M i).b = M.b := rfl
      simp only [ea, eb] at c5 c6
      clear hp4 hk4 s4 g4 st hw3 ea eb
      go_wp2_with fail
      go_ret
      exact ⟨rfl, HY.out⟩
end Go.Rv

/- Areas whose zones may be bad: plain. -/
namespace Go.Rv
open Go Go.RowKit Go.Proofs

def GeomS.fitZ (g : GeomS) (i : Nat) (z : Int) : Prop := z = -1 ∨ g.domain z = i
theorem GeomS.domain_lt {g : GeomS} {z : Int} {i : Nat} (h : g.domain z = i) : ∃ k : Nat, z = k ∧ k < g.all.toNat := by
  obtain ⟨h1, h2⟩ := GeomS.domain_in (g := g) (z := z) (by omega)
  exact ⟨z.toNat, by omega, by omega⟩
theorem GeomS.holds_of {g : GeomS} (h : g.right = true) {k : Nat} (hk : k < g.all.toNat) : g.holds k 0 = true := by
  have hs := (g.right_small h).s
  unfold GeomS.holds inB; simp [h]; omega

/-- what is asked of the areas that are written. -/
structure AreaS.Inv2 (g : GeomS) (A : AreaS) : Prop where
  right : g.right = true
  mg : A.m.g = g
  pg : A.m.p.g = g
  pok : A.m.p.Ok
  shut : A.m.d.Shut g
  cu : ∀ i, i < 3 → g.fitZ i (A.cur i)
  ol : ∀ i, i < 3 → g.fitZ i (A.old i)
/-- whether there is a zone for area i. -/
def AreaS.can (A : AreaS) (i : Nat) : Bool := (decide (A.old i ≠ -1) && !A.m.isBad (A.old i)) || !(A.m.p.L i).isEmpty
def AreaS.wants (A : AreaS) : Nat → Nat
  | 0 => 0
  | d + 1 => A.wants d + if A.can d then 1 else 0

theorem AreaS.target_two {g : GeomS} {A : AreaS} (h : A.Inv2 g) {i : Nat} (hi : i < 3) : (A.target i).1.m.d = A.m.d ∧ (A.target i).1.m.bad = A.m.bad ∧ (A.target i).1.m.p.g = A.m.p.g ∧ (A.target i).1.m.p.Ok ∧ (∀ k, k ≠ i → (A.target i).1.m.p.L k = A.m.p.L k) ∧ (A.target i).1.old = put1 A.old i (-1) ∧
    ((A.can i = false ∧ (A.target i).2 = -1) ∨ (A.can i = true ∧ g.domain (A.target i).2 = i)) := by
  have hnd : i < A.m.p.nd := by
    have hd := (g.right_small h.right).d
    unfold PoolS.nd; rw [h.pg]; omega
  unfold AreaS.target
  by_cases c : A.old i ≠ -1 ∧ A.m.isBad (A.old i) = false
  · rw [if_pos c]
    refine ⟨rfl, rfl, rfl, h.pok, fun _ _ => rfl, rfl, .inr ⟨?_, (h.ol i hi).resolve_left c.1⟩⟩
    unfold AreaS.can
    rw [c.2]; simp [c.1]
  · rw [if_neg c]
    have hcan : A.can i = !(A.m.p.L i).isEmpty := by
      unfold AreaS.can
      have : (decide (A.old i ≠ -1) && !A.m.isBad (A.old i)) = false := by
        cases hb : A.m.isBad (A.old i)
        · rw [hb] at c; simp at c; simp [c]
        · simp
      rw [this, Bool.false_or]
    cases hl : A.m.p.L i with
    | nil => exact ⟨rfl, rfl, rfl, h.pok, fun _ _ => rfl, rfl, .inl ⟨by rw [hcan, hl]; rfl, rfl⟩⟩
    | cons x l =>
      refine ⟨rfl, rfl, rfl, ?_, fun k hk => if_neg hk, rfl, .inr ⟨by rw [hcan, hl]; rfl, ?_⟩⟩
      · exact h.pok.tail hl
      · have := h.pok.inn i hnd x (by rw [hl]; exact List.mem_cons_self ..)
        rw [h.pg] at this; exact this

theorem AreaS.write1_two {g : GeomS} {A : AreaS} (h : A.Inv2 g) {i : Nat} (hi : i < 3) (S : Int → List (List UInt8)) (hS : ∀ z, (S z).length = g.parts.toNat) :
    A.good1 i S ∧ (A.write1 i S).2 = A.can i ∧ (A.write1 i S).1.Inv2 g ∧ (A.write1 i S).1.m.bad = A.m.bad ∧ (∀ k, k ≠ i → (A.write1 i S).1.old k = A.old k ∧ (A.write1 i S).1.m.p.L k = A.m.p.L k) := by
  obtain ⟨t1, t2, t3, t4, t5, t6, t7⟩ := AreaS.target_two h hi
  have tg := A.target_g i
  rcases t7 with ⟨c, e⟩ | ⟨c, e⟩
  · have hw : A.write1 i S = ((A.target i).1, false) := by unfold AreaS.write1; rw [if_pos e]
    rw [hw]
    refine ⟨.inl e, c.symm, ⟨h.right, tg.1.trans h.mg, t3.trans h.pg, t4, by rw [t1]; exact h.shut, fun k hk => by rw [tg.2]; exact h.cu k hk, fun k hk => ?_⟩, t2, fun k hk => ⟨by rw [t6]; exact if_neg hk, t5 k hk⟩⟩
    rw [t6]; unfold put1; split
    · exact .inl rfl
    · exact h.ol k hk
  · obtain ⟨z, hz, hzn⟩ := GeomS.domain_lt e
    have hp := g.right_parts h.right
    obtain ⟨f1, f2, -, -, -⟩ := h.shut.fill hzn (S z) (by rw [hS]; omega) (by rw [hS]; omega)
    have hno : (A.target i).2 ≠ -1 := by rw [hz]; omega
    have hw : A.write1 i S = (⟨{ (A.target i).1.m with d := (A.m.d.fillz z (S z)).1 }, put1 A.cur i z, put1 (A.target i).1.old i (A.cur i)⟩, true) := by
      unfold AreaS.write1
      rw [if_neg hno, hz, t1]
    rw [hw]
    refine ⟨.inr ⟨by rw [h.mg, hz]; exact g.holds_of h.right hzn, by rw [hz, t1]; exact f1⟩, c.symm, ⟨h.right, tg.1.trans h.mg, t3.trans h.pg, t4, f2, fun k hk => ?_, fun k hk => ?_⟩, t2, fun k hk => ⟨?_, t5 k hk⟩⟩
    · unfold put1; simp only []; split
      · rename_i ek; rw [ek]; exact .inr (by rw [← hz]; exact e)
      · exact h.cu k hk
    · unfold put1; simp only []; split
      · rename_i ek; rw [ek]; exact h.cu i hi
      · rename_i ek; rw [t6]; unfold put1; rw [if_neg ek]; exact h.ol k hk
    · unfold put1; simp only []; rw [if_neg hk, t6]; exact if_neg hk

theorem AreaS.seq_two {g : GeomS} {A : AreaS} (h : A.Inv2 g) (S : Int → List (List UInt8)) (hS : ∀ z, (S z).length = g.parts.toNat) : ∀ d, d ≤ 3 →
    (A.seq S d).2 = A.wants d ∧ (A.seq S d).1.Inv2 g ∧ (∀ k, k < d → (A.seq S k).1.good1 k S) ∧ (A.seq S d).1.m.bad = A.m.bad ∧ (∀ k, d ≤ k → (A.seq S d).1.old k = A.old k ∧ (A.seq S d).1.m.p.L k = A.m.p.L k)
  | 0, _ => ⟨rfl, h, fun k hk => by omega, rfl, fun _ _ => ⟨rfl, rfl⟩⟩
  | d + 1, hd => by
    obtain ⟨a1, a2, a3, a4, a5⟩ := AreaS.seq_two h S hS d (by omega)
    obtain ⟨b1, b2, b3, b4, b5⟩ := AreaS.write1_two a2 (i := d) (by omega) S hS
    have e : A.seq S (d + 1) = (((A.seq S d).1.write1 d S).1, (A.seq S d).2 + if ((A.seq S d).1.write1 d S).2 then 1 else 0) := rfl
    have hc : (A.seq S d).1.can d = A.can d := by
      unfold AreaS.can
      rw [(a5 d (Nat.le_refl _)).1, (a5 d (Nat.le_refl _)).2]
      have : ∀ z, (A.seq S d).1.m.isBad z = A.m.isBad z := fun z => by unfold MirS.isBad; rw [a2.mg, h.mg, a4]
      rw [this]
    refine ⟨by rw [e, b2, hc, a1]; rfl, by rw [e]; exact b3, fun k hk => ?_, by rw [e]; exact b4.trans a4, fun k hk => ?_⟩
    · by_cases c : k = d
      · subst c; exact b1
      · exact a3 k (by omega)
    · rw [e]
      exact ⟨(b5 k (by omega)).1.trans (a5 k (by omega)).1, (b5 k (by omega)).2.trans (a5 k (by omega)).2⟩
theorem AreaS.Inv2.flush {g : GeomS} {A : AreaS} (h : A.Inv2 g) : A.m.d.flush.2 = 0 := h.shut.flush.1
theorem AreaS.wants_le (A : AreaS) : ∀ d, A.wants d ≤ d
  | 0 => Nat.le_refl _
  | d + 1 => by have := A.wants_le d; rw [AreaS.wants]; split <;> omega

/-- the areas before they are written: behind d steps of the first loop; then with whatever pool and bad zones. -/
def setD (g : GeomS) (d : Nat) : AreaS := ⟨mir0 g, fun _ => -1, fun k => if k < d then (za g k : Int) else -1⟩
theorem setD_zero (g : GeomS) : setD g 0 = area0 g := by simp [setD, area0]
theorem setD_set (g : GeomS) (d : Nat) : (⟨(setD g d).m, put1 (setD g d).cur d (-1), put1 (setD g d).old d (za g d)⟩ : AreaS) = setD g (d + 1) := by
  unfold setD
  refine congr (congrArg (AreaS.mk _) (funext fun k => by simp [put1])) (funext fun k => ?_)
  simp only [put1]
  by_cases c : k = d
  · rw [if_pos c, if_pos (by omega), c]
  · rw [if_neg c]
    by_cases c2 : k < d
    · rw [if_pos c2, if_pos (by omega)]
    · rw [if_neg c2, if_neg (by omega)]
structure AreaS.Pre (g : GeomS) (A : AreaS) : Prop where
  mg : A.m.g = g
  pg : A.m.p.g = g
  d : A.m.d = drive0 g
  a : A.m.a = -1
  b : A.m.b = -1
  cur : A.cur = fun _ => -1
  old : A.old = fun k => if k < 3 then (za g k : Int) else -1
theorem setD_pre (g : GeomS) : (setD g 3).Pre g := ⟨rfl, rfl, rfl, rfl, rfl, rfl, rfl⟩
theorem PoolS.give_g (p : PoolS) (z : Int) : (p.give z).1.g = p.g := by
  unfold PoolS.give; split
  · rfl
  · split <;> rfl
theorem PoolS.drop_g (p : PoolS) (z : Int) : (p.drop z).1.g = p.g := by
  unfold PoolS.drop; split <;> rfl
theorem AreaS.Pre.give {g : GeomS} {A : AreaS} (h : A.Pre g) (z : Int) : AreaS.Pre g ⟨{ A.m with p := (A.m.p.give z).1 }, A.cur, A.old⟩ := ⟨h.mg, (A.m.p.give_g z).trans h.pg, h.d, h.a, h.b, h.cur, h.old⟩
theorem AreaS.Pre.quar {g : GeomS} {A : AreaS} (h : A.Pre g) (z : Int) : AreaS.Pre g ⟨(A.m.quar z).1, A.cur, A.old⟩ := by
  unfold MirS.quar
  split
  · exact h
  · split
    · exact h
    · exact ⟨h.mg, (A.m.p.drop_g z).trans h.pg, h.d, h.a, h.b, h.cur, h.old⟩
theorem AreaS.Pre.inv {g : GeomS} {A : AreaS} (h : A.Pre g) (hg : g.right = true) (hok : A.m.p.Ok) : A.Inv2 g := by
  have hs := g.right_small hg
  refine ⟨hg, h.mg, h.pg, hok, ?_, fun i hi => .inl (by rw [h.cur]), fun i hi => .inr ?_⟩
  · rw [h.d]
    exact ⟨⟨rfl, rfl, by have := hs.o; show 1 ≤ g.opn; omega⟩, rfl, rfl, fun j _ => .inl rfl, fun j _ _ => rfl⟩
  · rw [h.old]; simp only []; rw [if_pos hi]; exact (zab_facts hg hi).2.2.2.2.1
theorem AreaS.Pre.can {g : GeomS} {A : AreaS} (h : A.Pre g) {i : Nat} (hi : i < 3) : A.can i = (!A.m.isBad (za g i) || !(A.m.p.L i).isEmpty) := by
  unfold AreaS.can
  have : A.old i = za g i := by rw [h.old]; simp [hi]
  rw [this]
  have hne : decide ((za g i : Int) ≠ -1) = true := by rw [decide_eq_true_eq]; omega
  rw [hne, Bool.true_and]
end Go.Rv
