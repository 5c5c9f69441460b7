/- Snapshots: which may be. -/
import Derived.Test.YtoijkpgcaokhlaaGreatPart12
import Derived.Laws.CopyOwn
set_option linter.unusedVariables false
set_option linter.unusedSimpArgs false
namespace Go.Rv
open Go Go.RowKit Go.Proofs

attribute [local go_sem] Oper.semAt_some

structure SnapS where
  gen : Int
  epoch : Int
  next : Int
  mb : Nat
def snapC (s : SnapS) : Array Value := #[.int .i64 s.gen, .int .i64 s.epoch, .int .i64 s.next, .pointer (some ⟨s.mb, 0, none⟩)]
def SnapS.nums (s : SnapS) : Bool := inB s.gen 1 281474976710655 && inB s.epoch 1 4294967295 && inB s.next 1 281474976710655
def SnapS.right (s : SnapS) (M : MapS) : Bool := s.nums && M.l.all fun e => decide (e.seq < s.next)

theorem swithin_calls (n m : Int) (w : World) : Calls Tryz.prog 114 #[.int .i64 n, .int .i64 m] w fun e w' => e = .returned (.bool (inB n 1 m)) ∧ w = w' := by
  unfold inB
  by_cases k1 : 1 ≤ n
  · have d1 : decide (1 ≤ n) = true := by simpa using k1
    go_enter Tryz.func114, Tryz.ntmps114
    go_wp2
    go_ret
    exact ⟨by simp [k1], rfl⟩
  · have d1 : decide (1 ≤ n) = false := by simpa using k1
    go_enter Tryz.func114, Tryz.ntmps114
    go_wp2
    go_ret
    exact ⟨by simp [k1], rfl⟩

theorem MapHead.still {w w' : World} {own : Nat → Nat} {t mb : Nat} {M : MapS} {lv sv : Value} (h : MapHead w own t mb M lv sv) (hk : Keeps (fun _ => False) w w') : MapHead w' own t mb M lv sv :=
  ⟨h.mine, hk.heap h.heap id, h.row.keeps hk (fun _ _ => id), h.live.keeps hk (fun _ _ => id)⟩

structure RInv (w wi : World) (s : SnapS) (l : List EntS) (k : Nat) (X : World) : Prop where
  keeps : Keeps (fun _ => False) w X
  size : wi.heap.size ≤ X.heap.size
  sbox : X.heap[w.heap.size]? = some (.cells (snapC s) 60 (0, 0))
  rbox : X.heap[w.heap.size + 1]? = some (.cells #[.bool false] 4 (0, 0))
  all : ∀ e, e ∈ l.take k → e.seq < s.next

theorem RInv.step {w wi : World} {s : SnapS} {l : List EntS} {k : Nat} {X Y : World} (h : RInv w wi s l k X) (hst : IterStep (fun _ => False) wi.heap.size X Y) (hs : wi.heap.size = w.heap.size + 3) : RInv w wi s l k Y := by
  have kp : ∀ {i : Nat} {o : Obj}, X.heap[i]? = some o → i < wi.heap.size → Y.heap[i]? = some o := fun ho h2 => Keeps.heap hst ho (fun h => h.elim id fun h => by omega)
  exact ⟨h.keeps.trans' hst fun i hi h => h.elim id fun h => by omega, Nat.le_trans h.size hst.size, kp h.sbox (by omega), kp h.rbox (by omega), h.all⟩

def rTmps (n : Nat) (s : SnapS) (t4 t29 t30 : Value) : Array Value :=
  #[.agg #[.int .i64 s.gen, .int .i64 s.epoch, .int .i64 s.next, .pointer (some ⟨s.mb, 0, none⟩)], .pointer (some ⟨n, 0, none⟩), .pointer (some ⟨n + 1, 0, none⟩), undef, t4, .pointer (some ⟨n, 3, none⟩), .pointer (some ⟨s.mb, 0, none⟩), .bool false, .bool false,
    .pointer (some ⟨n, 0, none⟩), .int .i64 s.gen, .bool true, .bool false, .bool false, .bool false, .pointer (some ⟨n, 1, none⟩), .int .i64 s.epoch, .bool true, .bool false, .bool false, .bool false, .pointer (some ⟨n, 2, none⟩), .int .i64 s.next, .bool true, .bool false, .bool false,
    .pointer (some ⟨n, 3, none⟩), .pointer (some ⟨s.mb, 0, none⟩), .func (.func 201) #[] #[.pointer (some ⟨n + 1 + 1, 0, none⟩)], t29, t30, undef, undef, undef, undef, undef]

theorem entRows_get (l : List EntS) (k : Nat) (r : Array Value) (h : (entRows l)[k]? = some r) : ∃ e, l[k]? = some e ∧ r = #[.int .i64 (k : Int), .agg #[.int .i64 e.state, .int .i64 e.zone, .int .i64 e.mate, .int .i64 e.off, .int .i64 e.seq, .int .i64 e.sum]] := by
  simp only [entRows, List.getElem?_mapIdx] at h
  cases he : l[k]? with
  | none => simp [he] at h
  | some e => simp [he] at h; exact ⟨e, rfl, by rw [← h]; rfl⟩

set_option maxHeartbeats 1000000 in
set_option maxRecDepth 100000 in
theorem snapright_go (own : Nat → Nat) (t : Nat) (s : SnapS) (M : MapS) (w : World) (h : MapAt w own t s.mb M) (hn : s.nums = true) : Calls Tryz.prog 64 #[.agg (snapC s)] w fun e w' => e = .returned (.bool (M.l.all fun e => decide (e.seq < s.next))) ∧ Keeps (fun _ => False) w w' := by
  refine (callsIn_wide (n := 3)).1 ?_
  obtain ⟨⟨lv, sv, h1⟩, h2, h3, h4⟩ := h
  have hnn : inB s.gen 1 281474976710655 = true ∧ inB s.epoch 1 4294967295 = true ∧ inB s.next 1 281474976710655 = true := by
    simp only [SnapS.nums, Bool.and_eq_true] at hn; exact ⟨hn.1.1, hn.1.2, hn.2⟩
  have HN := hid hnn
  have H1 := hid h1
  have hmw := lt_of h1.heap
  have hbd := (M.g.right_small h4).b
  have HL := hid (show M.l.length ≤ 1000 by omega)
  clear h1 h2 h3 h4 hn hnn hbd
  unfold snapC
  refine callsIn_of_wp_marks Tryz.func64 rfl trivial ?_ rfl
  simp only [Tryz.ntmps64, List.size_toArray, List.length_cons, List.length_nil, Nat.reduceAdd, Nat.reduceSub, Array.replicate_succ, Array.replicate_zero, List.push_toArray, List.append_toArray, List.nil_append, List.cons_append]
  gi_wp2_with fail
  refine ⟨trivial, CallsIn.mono (callsIn_wide.2 (swithin_calls _ _ _)) ?_⟩
  rintro e w1 ⟨rfl, rfl⟩
  rw [HN.out.1]
  gi_wp2_with fail
  refine ⟨trivial, CallsIn.mono (callsIn_wide.2 (swithin_calls _ _ _)) ?_⟩
  rintro e w1 ⟨rfl, rfl⟩
  rw [HN.out.2.1]
  gi_wp2_with fail
  refine ⟨trivial, CallsIn.mono (callsIn_wide.2 (swithin_calls _ _ _)) ?_⟩
  rintro e w1 ⟨rfl, rfl⟩
  rw [HN.out.2.2]
  gi_wp2_with fail
  have hk2 : Keeps (fun _ => False) w ((w.alloc (.cells #[.int .i64 s.gen, .int .i64 s.epoch, .int .i64 s.next, .pointer (some ⟨s.mb, 0, none⟩)] 60)).alloc (.cells #[.bool false] 4)) := (by repeat (first | exact Keeps.refl _ _ | refine Keeps.alloc ?_ _ | refine Keeps.drew ?_ | refine Keeps.drewN ?_ _ | refine Keeps.trans ?_ (by assumption)))
  refine ⟨trivial, CallsIn.mono (callsIn_wide.2 (mapAll_calls own t s.mb M lv sv _ (H1.out.still hk2))) ?_⟩
  rintro e w3 ⟨rfl, rfl⟩
  gi_wp2_with fail
  obtain ⟨wi, hwi⟩ : ∃ wi, ((w.alloc (.cells #[.int .i64 s.gen, .int .i64 s.epoch, .int .i64 s.next, .pointer (some ⟨s.mb, 0, none⟩)] 60)).alloc (.cells #[.bool false] 4)).alloc (.cells #[lv] 95) = wi := ⟨_, rfl⟩
  rw [hwi]
  have hki : Keeps (fun _ => False) w wi := by rw [← hwi]; exact (((Keeps.refl _ _).alloc _).alloc _).alloc _
  have hsi : wi.heap.size = w.heap.size + 3 := by rw [← hwi]; simp
  have hb0 : wi.heap[w.heap.size]? = some (.cells (snapC s) 60 (0, 0)) := by rw [← hwi]; exact heap_old _ _ (heap_old _ _ (heap_new _ _))
  have hb1 : wi.heap[w.heap.size + 1]? = some (.cells #[.bool false] 4 (0, 0)) := by
    rw [← hwi]; have := heap_new (w.alloc (.cells #[.int .i64 s.gen, .int .i64 s.epoch, .int .i64 s.next, .pointer (some ⟨s.mb, 0, none⟩)] 60)) (.cells #[.bool false] 4); rw [World.size_alloc] at this; exact heap_old _ _ this
  have hb2 : wi.heap[w.heap.size + 1 + 1]? = some (.cells #[lv] 95 (0, 0)) := by
    rw [← hwi]; have := heap_new ((w.alloc (.cells #[.int .i64 s.gen, .int .i64 s.epoch, .int .i64 s.next, .pointer (some ⟨s.mb, 0, none⟩)] 60)).alloc (.cells #[.bool false] 4)) (.cells #[lv] 95); rwa [World.size_alloc, World.size_alloc] at this
  clear hwi
  refine wpIn_any rfl (wpIn_range (gf := 201) (lb := #[.pointer (some ⟨w.heap.size + 1 + 1, 0, none⟩)]) rfl (enters_of Tryz.func201 (by kernel_rfl) rfl) (entRows M.l) (fun _ => False) (fun b => b = w.heap.size + 1)
    (fun _ => True) ?hps ?hA ?hB ?hit ?hFin
    (fun k D X => D = (fun _ => False) ∧ RInv w wi s M.l k X) (fun c X => c = .ret ∧ RInv w wi s M.l 0 X ∧ ∃ e, e ∈ M.l ∧ ¬ e.seq < s.next)
    (fun k a' D X => (D = (fun _ => False) ∧ RInv w wi s M.l k X) ∧ ∃ e eb, M.l[k]? = some e ∧ wi.heap.size + 2 ≤ eb ∧ X.heap[eb]? = some (.cells #[.int .i64 e.state, .int .i64 e.zone, .int .i64 e.mate, .int .i64 e.off, .int .i64 e.seq, .int .i64 e.sum] 83 (0, 0)) ∧ a' = { tmps := rTmps w.heap.size s (.pointer (some ⟨eb, 0, none⟩)) (.int .i64 (k : Int)) (.agg #[.int .i64 e.state, .int .i64 e.zone, .int .i64 e.mate, .int .i64 e.off, .int .i64 e.seq, .int .i64 e.sum]), defers := [] })
    ?hI ?hIx ?hAx ?hD ?hDx ?h0 ?hassign ?hbody ?hdone ?hstop)
  case hps =>
    intro r hr
    obtain ⟨k, hk⟩ := List.getElem?_of_mem hr
    obtain ⟨e, -, rfl⟩ := entRows_get _ _ _ hk
    rfl
  case hA => exact fun b h => h.elim
  case hB => rintro b rfl; omega
  case hit =>
    intro W' hst hsz'
    have kp : ∀ {b : Nat} {o : Obj}, wi.heap[b]? = some o → W'.heap[b]? = some o := fun ho => Keeps.heap hst ho (fun h => h.elim id fun h => by have := lt_of ho; omega)
    have hl : M.l.length ≤ 1000 := HL.out
    refine entAll_iter (fun k => own k = t ∧ k < w.heap.size) _ lv M.l _ W' ?_ (cell_of (kp hb2) 0) ?_ hl
    · have hrow := H1.out.row.imp (Q := fun k => own k = t ∧ k < w.heap.size) fun k hk hp => ⟨hp, hk⟩
      exact (hrow.keeps hki fun _ _ => id).keeps hst fun k hk h => h.elim id fun h => by omega
    · rintro b rfl; exact ⟨by omega, fun h => by omega⟩
  case hFin => exact fun _ _ _ _ => trivial
  case hI => rintro k D X Y ⟨h1, h2⟩ hst; exact ⟨h1, h2.step hst hsi⟩
  case hIx => rintro c X Y ⟨h1, h2, h3⟩ hst; exact ⟨h1, h2.step hst hsi, h3⟩
  case hAx =>
    rintro k a' D X Y ⟨⟨h1, h2⟩, e, eb, h3, h4, h5, h6⟩ hst
    refine ⟨⟨h1, h2.step hst hsi⟩, e, eb, h3, h4, Keeps.heap hst h5 (fun h => h.elim id fun h => ?_), h6⟩
    obtain ⟨_, o, ho, hc⟩ := h
    rw [h5] at ho; cases ho; cases hc
  case hD => rintro k D X ⟨h1, -⟩ b hb; rw [h1] at hb; exact hb.elim
  case hDx => rintro k a' D X ⟨⟨h1, -⟩, -⟩ b hb; rw [h1] at hb; exact hb.elim
  case h0 => exact ⟨rfl, hki, Nat.le_refl _, hb0, hb1, by simp⟩
  case hassign =>
    intro l k D r X K hr hsz2 hi hK
    obtain ⟨e, he, rfl⟩ := entRows_get _ _ _ hr
    have HK := hid hK
    have HII := hid hi
    have HR := hid he
    clear hK hi hr he
    gi_wp2
    refine HK.out _ D _ ⟨(by repeat (first | exact Keeps.refl _ _ | refine Keeps.alloc ?_ _ | refine Keeps.drew ?_ | refine Keeps.drewN ?_ _ | refine Keeps.trans ?_ (by assumption))), fun b hb => .inl hb⟩ ⟨⟨HII.out.1, ?_⟩, e, X.heap.size, HR.out, hsz2, heap_new _ _, rfl⟩
    exact HII.out.2.step (IterStep.of_keeps (M := fun _ => False) (by repeat (first | exact Keeps.refl _ _ | refine Keeps.alloc ?_ _ | refine Keeps.drew ?_ | refine Keeps.drewN ?_ _ | refine Keeps.trans ?_ (by assumption))) fun _ _ h => h) hsi
  case hbody =>
    rintro l k a' D X hk hlw2 hsz2 hlr ⟨⟨hD, hp⟩, e, eb, he, heb, hx, rfl⟩
    have hcs := cell_of hp.sbox 2
    have hce := cell_of hx 4
    have hcr := cell_of hp.rbox 0
    have hfr := free_of hp.rbox 0
    simp [snapC] at hcs hce hcr
    have HP := hid hp
    have HE := hid he
    have HD := hid hD
    clear hp he hD hx
    unfold rTmps
    by_cases hxz : s.next ≤ e.seq
    · have hb : decide (s.next ≤ e.seq) = true := by simpa using hxz
      have HZ := hid hxz
      clear hxz
      gi_wp2
      refine ⟨fun _ => False, ⟨(Keeps.refl _ _).setCell (fun _ => .inl rfl) _, fun _ h => h.elim⟩, rfl, ⟨?_, ?_, ?_, ?_, by simp⟩, e, List.mem_of_getElem? HE.out, by have := HZ.out; omega⟩
      · exact HP.out.keeps.trans' (N := fun b => b = w.heap.size + 1) (Keeps.setCell (M := fun b => b = w.heap.size + 1) (Keeps.refl _ _) (fun _ => rfl) _) fun i hi h => by omega
      · have := HP.out.size; simp; omega
      · rw [heap_set_ne _ _ (by omega)]; exact HP.out.sbox
      · exact heap_set HP.out.rbox 0 (.bool false)
    · have hb : decide (s.next ≤ e.seq) = false := by simpa using hxz
      have HZ := hid hxz
      clear hxz
      gi_wp2
      refine ⟨D, ⟨Keeps.refl _ _, fun _ h => .inl h⟩, HD.out, ⟨HP.out.keeps, HP.out.size, HP.out.sbox, HP.out.rbox, ?_⟩⟩
      intro e' hm
      obtain ⟨hk', hx'⟩ := List.getElem?_eq_some_iff.1 HE.out
      rw [List.take_succ_eq_append_getElem hk', List.mem_append] at hm
      rcases hm with hm | hm
      · exact HP.out.all _ hm
      · rw [List.mem_singleton, hx'] at hm; subst hm; have := HZ.out; omega
  case hdone =>
    rintro D Y hfin ⟨-, hp⟩ hmark
    have hcr := cell_of hp.rbox 0
    have hfr := free_of hp.rbox 0
    simp at hcr
    have HP := hid hp
    have HM := hid hmark
    clear hp hfin hmark
    gi_wp2
    have hrb := heap_set HP.out.rbox 0 (.bool true)
    have hmk : (Y.setCell ⟨w.heap.size + 1, 0, none⟩ (.bool true)).heap[wi.heap.size]? = some (.deferred (some [])) := by rw [heap_set_ne _ _ (by omega)]; exact HM.out
    have hrc := cell_of (heap_put_ne (r := wi.heap.size) (o := .deferred none) hrb (by omega)) 0
    simp at hrc
    refine leaves_mark hmk (.bool true) (by simp [results, Tryz.results64, go_sem, hrc]) ⟨?_, ?_⟩
    · have hn := HP.out.all
      rw [List.take_of_length_le (by simp [entRows])] at hn
      have : (M.l.all fun e => decide (e.seq < s.next)) = true := by simpa using hn
      rw [this]
    · exact keeps_put (HP.out.keeps.trans' (N := fun b => b = w.heap.size + 1) (Keeps.setCell (M := fun b => b = w.heap.size + 1) (Keeps.refl _ _) (fun _ => rfl) _) fun i hi h => by omega) (by omega) _
  case hstop =>
    rintro c Y hfin ⟨rfl, hp, e, he, hz⟩ hmark
    have HP := hid hp
    have HM := hid hmark
    have HZ := hid (And.intro he hz)
    clear hp hfin hmark he hz
    gi_wp2
    have hm := HM.out
    rw [hsi] at hm
    have hrc := cell_of (heap_put_ne (r := w.heap.size + 3) (o := .deferred none) HP.out.rbox (by omega)) 0
    simp at hrc
    refine leaves_mark hm (.bool false) (by simp [results, Tryz.results64, go_sem, hrc]) ⟨?_, keeps_put HP.out.keeps (by omega) _⟩
    have : (M.l.all fun e => decide (e.seq < s.next)) = false := by
      rw [List.all_eq_false]
      exact ⟨e, HZ.out.1, by simpa using HZ.out.2⟩
    rw [this]
end Go.Rv

/- Snapshots: the bodies of their frames. -/
namespace Go.Rv
open Go Go.RowKit Go.Proofs
attribute [local irreducible] wpQuiet
attribute [local go_sem ↓] ld_Body st_Body al_Body
attribute [local go_sem] cellsAt_new0 cellsAt_lt cellsAt_drew size_bytesV

def pad44 (l : List UInt8) : List UInt8 := l ++ List.replicate (44 - l.length) 0
theorem pad44_len (l : List UInt8) (h : l.length ≤ 44) : (pad44 l).length = 44 := by simp [pad44]; omega

theorem Keeps.of_below' {a b : World} {B : Nat} (h : Below B a b) : Keeps (fun k => B ≤ k) a b := ⟨h.os, h.tape, h.output, h.size, fun k _ hk => h.block k (by omega)⟩

theorem z_body : z_Body = (List.replicate 44 (Value.int .u8 0)).toArray := rfl
theorem splice_pad (l : List UInt8) : (Go.splice (List.replicate 44 (Value.int .u8 0)) 0 (l.map byteV)).toArray = bytesV (pad44 l) := by
  have e0 : byteV 0 = Value.int .u8 0 := rfl
  rw [← e0]
  simp only [Go.splice, bytesV, pad44, List.take_zero, List.nil_append, List.length_map, List.map_append, List.map_replicate, List.drop_replicate, Nat.zero_add]

set_option maxHeartbeats 1000000 in
set_option maxRecDepth 100000 in
theorem sbody_calls (pb : Nat) (l : List UInt8) (w : World) (h : PenAt w pb l false) (h0 : 0 < l.length) (hl : l.length ≤ 44) : Calls Tryz.prog 199 #[.pointer (some ⟨pb, 0, none⟩)] w fun e w' => e = .returned (.agg (bytesV (pad44 l))) ∧ Keeps (fun _ => False) w w' := by
  have H := hid h
  clear h
  obtain ⟨n, hn⟩ : ∃ n, l.length = n := ⟨_, rfl⟩
  have HN := hid hn
  have hn0 : 0 < n := by omega
  have hn1 : n ≤ 44 := by omega
  clear h0 hl hn
  go_enter Tryz.func199, Tryz.ntmps199
  go_wp2_with fail
  have hk2 : Keeps (fun _ => False) w ((w.alloc (.cells z_Body 118)).alloc (.cells z_Body 118)) := (by repeat (first | exact Keeps.refl _ _ | refine Keeps.alloc ?_ _ | refine Keeps.drew ?_ | refine Keeps.drewN ?_ _ | refine Keeps.trans ?_ (by assumption)))
  refine Calls.mono (pout_n pb n l HN.out _ (H.out.keeps hk2 fun _ _ => id) hn0 (by omega)) ?_
  rintro e w1 ⟨g, cap, rfl, hg, hby, hk⟩
  have hb0 : w1.heap[w.heap.size]? = some (.cells z_Body 118 (0, 0)) := hk.heap (heap_old _ _ (heap_new _ _)) id
  have hb1 : w1.heap[w.heap.size + 1]? = some (.cells z_Body 118 (0, 0)) := hk.heap (by have := heap_new (w.alloc (.cells z_Body 118)) (.cells z_Body 118); simpa using this) id
  have HX := hid (And.intro hb0 (And.intro hb1 (And.intro hby (hk2.trans hk))))
  clear hk2 hb0 hb1 hby hk
  obtain ⟨cur, hcur⟩ : ∃ cur, cur = List.replicate 44 (Value.int .u8 0) := ⟨_, rfl⟩
  obtain ⟨cs, hcs⟩ : ∃ cs, cs = l.map byteV := ⟨_, rfl⟩
  have HCU := hid (And.intro hcur hcs)
  clear hcur hcs
  have hinf : (Tryz.prog.info? 5).map (·.size) = some 1 := by kernel_rfl
  go_wp2_with (with_reducible refine wpList_copy_splice rfl (.tmp 11) (.tmp 12) 174 174 rfl 5 Tryz.underlying174 hinf (some ⟨w.heap.size + 1, 0, none⟩) (some ⟨g, 0, none⟩) 44 44 n cap rfl rfl (w.heap.size + 1) 0 cur 118 ?c0 cs ?c1 ?c2 ?c3 ?c4 (w.heap.size + 1) w1 (Below.refl _ _) (Nat.le_refl _) ?go)
  case c0 => rw [HCU.out.1]; exact HX.out.2.1
  case c1 =>
    rw [HCU.out.2, List.length_map, HN.out]
    exact (Nat.min_eq_left hn1).symm
  case c2 =>
    rw [HCU.out.2]
    intro _ j v hv
    have := HX.out.2.2.1.news j v hv
    rwa [add_off, Nat.zero_add] at this
  case c3 => rw [HCU.out.1, HCU.out.2]; simp [HN.out]; omega
  case c4 => rw [HCU.out.2]; exact fun v hv => by obtain ⟨c, _, rfl⟩ := List.mem_map.1 hv; rfl
  case go =>
    intro w2 hg2 hb2
    have q1 := hg2.out
    rw [HCU.out.1, HCU.out.2, splice_pad l] at q1
    have hk2 := Keeps.of_below' hb2
    have hb0 := hk2.heap HX.out.1 (by omega)
    have e1 := cellsAt_full (n := 44) q1 (by simp [bytesV, pad44_len l (by have := HN.out; omega)])
    have e2 := cellsFree_full (n := 44) hb0 rfl
    have e3 := allOne_bytes (pad44 l)
    have e4 : (bytesV (pad44 l)).size = 44 := by simp [bytesV, pad44_len l (by have := HN.out; omega)]
    have HY := hid (And.intro hb0 hk2)
    clear q1 hk2 hb0 hg2 hb2
    go_wp2_with fail
    refine bodyPost_ret (results_cell1 rfl row_Body _ rfl (cellsAt_full (putCells_at HY.out.1 (by rw [e4]; rfl)) e4)) rfl ⟨rfl, ?_⟩
    exact keeps_put0 (HX.out.2.2.2.trans' HY.out.2 fun i hi h => by omega) (fun h => absurd h (Nat.lt_irrefl _)) _
end Go.Rv

/- Snapshots: an entry in a pen; the first body. -/
namespace Go.Rv
open Go Go.RowKit Go.Proofs
attribute [local irreducible] wpQuiet
attribute [local go_sem ↓] ld_Body st_Body al_Body ld_Geom st_Geom al_Geom
attribute [local go_sem] cellsAt_new0 cellsAt_lt cellsAt_drew size_bytesV

structure EntS.Fits (e : EntS) : Prop where
  state : 0 ≤ e.state ∧ e.state ≤ 255
  zone : 0 ≤ e.zone ∧ e.zone ≤ 65535
  mate : 0 ≤ e.mate ∧ e.mate ≤ 65535
  off : 0 ≤ e.off ∧ e.off ≤ 255
  seq : 0 ≤ e.seq ∧ e.seq ≤ 281474976710655
  sum : 0 ≤ e.sum ∧ e.sum ≤ 4294967295
theorem ent0_fits : ent0.Fits := by constructor <;> simp [ent0]
def entB (e : EntS) : List UInt8 := leB 1 e.state ++ leB 2 e.zone ++ leB 2 e.mate ++ leB 1 e.off ++ leB 6 e.seq ++ leB 4 e.sum
theorem entB_len (e : EntS) : (entB e).length = 16 := by simp [entB, leB_len]

/-- a pen, and what stands beside it. -/
structure PenBy (w0 : World) (pb : Nat) (l : List UInt8) (w : World) : Prop where
  pen : PenAt w pb l false
  step : PenStep pb w0 w
theorem PenBy.num {w0 : World} {pb : Nat} {l : List UInt8} {w : World} (h : PenBy w0 pb l w) (n : Nat) (wd v : Int) (hwd : wd = n) (hv : -9223372036854775808 ≤ v ∧ v ≤ 9223372036854775807) (hl : l.length ≤ 1000) (hn : penOk wd v = true) :
    Calls Tryz.prog 173 #[.pointer (some ⟨pb, 0, none⟩), .int .i64 wd, .int .i64 v] w fun e w' => e = .returned (.tuple #[]) ∧ PenBy w0 pb (l ++ leB n v) w' := by
  subst hwd
  refine (pnum_good pb l false n v w h.pen hv hl hn).mono ?_
  rintro e w' ⟨rfl, hp, hk⟩
  exact ⟨rfl, hp, h.step.trans hk⟩
theorem PenBy.cell {w0 : World} {pb : Nat} {l : List UInt8} {w : World} (h : PenBy w0 pb l w) {k : Nat} {c : Array Value} {e : TypeId} {f : Nat × Nat} (ho : w0.heap[k]? = some (.cells c e f)) (h1 : e ≠ 5) (h2 : e ≠ 278) (o : Nat) : w.cell? ⟨k, o, none⟩ = c[o]? :=
  cell_of (h.step.heap ho h1 h2) o

set_option maxHeartbeats 1000000 in
set_option maxRecDepth 100000 in
theorem sput_calls (pb : Nat) (l : List UInt8) (e : EntS) (he : e.Fits) (w : World) (h : PenAt w pb l false) (hl : l.length ≤ 900) : Calls Tryz.prog 200 #[.pointer (some ⟨pb, 0, none⟩), .agg (entC e)] w fun r w' => r = .returned (.tuple #[]) ∧ PenAt w' pb (l ++ entB e) false ∧ PenStep pb w w' := by
  have hbox := heap_new w (.cells (entC e) 83)
  have hk0 : Keeps (fun _ => False) w (w.alloc (.cells (entC e) 83)) := (by repeat (first | exact Keeps.refl _ _ | refine Keeps.alloc ?_ _ | refine Keeps.drew ?_ | refine Keeps.drewN ?_ _ | refine Keeps.trans ?_ (by assumption)))
  have HP := hid (show PenBy (w.alloc (.cells (entC e) 83)) pb l (w.alloc (.cells (entC e) 83)) from ⟨h.keeps hk0 fun _ _ => id, PenStep.refl _ _⟩)
  obtain ⟨w0, hw0⟩ : ∃ w0, w.alloc (.cells (entC e) 83) = w0 := ⟨_, rfl⟩
  rw [hw0] at HP hbox hk0
  have HB := hid (And.intro hbox hk0)
  have HF := hid he
  have c0 := HP.out.cell HB.out.1 (by decide) (by decide) 0
  clear hbox hk0 h he
  unfold entC at c0 hw0 ⊢
  go_enter Tryz.func200, Tryz.ntmps200
  go_wp2_with fail
  clear hw0 c0
  refine Calls.mono (HP.out.num 1 1 e.state rfl (by have := HF.out.state; omega) (by omega) (penOk1 _ HF.out.state.1 HF.out.state.2)) ?_
  rintro r w1 ⟨rfl, hp⟩
  have HP1 := hid hp
  have c1 := hp.cell HB.out.1 (by decide) (by decide) 1
  clear hp
  simp [entC] at c1
  go_wp2_with fail
  clear c1
  refine Calls.mono (HP1.out.num 2 2 e.zone rfl (by have := HF.out.zone; omega) (by simp [leB_len]; omega) (penOk2 _ HF.out.zone.1 HF.out.zone.2)) ?_
  rintro r w2 ⟨rfl, hp⟩
  have HP2 := hid hp
  have c2 := hp.cell HB.out.1 (by decide) (by decide) 2
  clear hp
  simp [entC] at c2
  go_wp2_with fail
  clear c2
  refine Calls.mono (HP2.out.num 2 2 e.mate rfl (by have := HF.out.mate; omega) (by simp [leB_len]; omega) (penOk2 _ HF.out.mate.1 HF.out.mate.2)) ?_
  rintro r w3 ⟨rfl, hp⟩
  have HP3 := hid hp
  have c3 := hp.cell HB.out.1 (by decide) (by decide) 3
  clear hp
  simp [entC] at c3
  go_wp2_with fail
  clear c3
  refine Calls.mono (HP3.out.num 1 1 e.off rfl (by have := HF.out.off; omega) (by simp [leB_len]; omega) (penOk1 _ HF.out.off.1 HF.out.off.2)) ?_
  rintro r w4 ⟨rfl, hp⟩
  have HP4 := hid hp
  have c4 := hp.cell HB.out.1 (by decide) (by decide) 4
  clear hp
  simp [entC] at c4
  go_wp2_with fail
  clear c4
  refine Calls.mono (HP4.out.num 6 6 e.seq rfl (by have := HF.out.seq; omega) (by simp [leB_len]; omega) (penOk6 _ HF.out.seq.1 HF.out.seq.2)) ?_
  rintro r w5 ⟨rfl, hp⟩
  have HP5 := hid hp
  have c5 := hp.cell HB.out.1 (by decide) (by decide) 5
  clear hp
  simp [entC] at c5
  go_wp2_with fail
  clear c5
  refine Calls.mono (HP5.out.num 4 4 e.sum rfl (by have := HF.out.sum; omega) (by simp [leB_len]; omega) (penOk4 _ HF.out.sum.1 HF.out.sum.2)) ?_
  rintro r w6 ⟨rfl, hp⟩
  have HP6 := hid hp
  clear hp
  go_wp2_with fail
  go_end0
  have e1 : l ++ leB 1 e.state ++ leB 2 e.zone ++ leB 2 e.mate ++ leB 1 e.off ++ leB 6 e.seq ++ leB 4 e.sum = l ++ entB e := by simp [entB]
  refine ⟨rfl, ?_, (PenStep.still HB.out.2).trans HP6.out.step⟩
  rw [← e1]
  exact HP6.out.pen
end Go.Rv

/- Snapshots: the bodies of the first frame and of the others. -/
namespace Go.Rv
open Go Go.RowKit Go.Proofs
attribute [local irreducible] wpQuiet
attribute [local go_sem ↓] ld_Body st_Body al_Body ld_Geom st_Geom al_Geom ld_Ent st_Ent al_Ent
attribute [local go_sem] cellsAt_new0 cellsAt_lt cellsAt_drew size_bytesV

def headB (s : SnapS) (g : GeomS) : List UInt8 := leB 6 s.next ++ leB 1 g.domains ++ leB 1 g.zones ++ leB 1 g.size ++ leB 2 g.blocks ++ leB 1 g.spare ++ leB 1 g.opn
theorem headB_len (s : SnapS) (g : GeomS) : (headB s g).length = 13 := by simp [headB, leB_len]

set_option maxHeartbeats 1000000 in
set_option maxRecDepth 100000 in
theorem shead_calls (own : Nat → Nat) (t : Nat) (s : SnapS) (M : MapS) (w : World) (h : MapAt w own t s.mb M) (hn : s.nums = true) : Calls Tryz.prog 157 #[.agg (snapC s)] w fun r w' => r = .returned (.agg (bytesV (pad44 (headB s M.g)))) ∧ Keeps (fun _ => False) w w' := by
  have hg := M.g.right_small h.right
  have HG := hid hg
  have H := hid h
  have hnx : 1 ≤ s.next ∧ s.next ≤ 281474976710655 := by simp [SnapS.nums, inB] at hn; omega
  have HN := hid hnx
  clear h hn hg hnx
  unfold snapC
  go_enter Tryz.func157, Tryz.ntmps157
  go_wp2_with fail
  have hk2 : Keeps (fun _ => False) w ((w.alloc (.cells #[.int .i64 s.gen, .int .i64 s.epoch, .int .i64 s.next, .pointer (some ⟨s.mb, 0, none⟩)] 60)).alloc (.cells z_Body 118)) := (by repeat (first | exact Keeps.refl _ _ | refine Keeps.alloc ?_ _ | refine Keeps.drew ?_ | refine Keeps.drewN ?_ _ | refine Keeps.trans ?_ (by assumption)))
  refine Calls.mono (mapgeom_calls own t s.mb M _ (H.out.still hk2)) ?_
  rintro r w1 ⟨rfl, hk⟩
  have hb0 : w1.heap[w.heap.size]? = some (.cells #[.int .i64 s.gen, .int .i64 s.epoch, .int .i64 s.next, .pointer (some ⟨s.mb, 0, none⟩)] 60 (0, 0)) := hk.heap (heap_old _ _ (heap_new _ _)) id
  have hb1 : w1.heap[w.heap.size + 1]? = some (.cells z_Body 118 (0, 0)) := hk.heap (by have := heap_new (w.alloc (.cells #[.int .i64 s.gen, .int .i64 s.epoch, .int .i64 s.next, .pointer (some ⟨s.mb, 0, none⟩)] 60)) (.cells z_Body 118); simpa using this) id
  have hn1 := heap_new w1 (.cells z_Geom 23)
  have e2 := cellsFree_full (n := 6) hn1 rfl
  have e3 : allOne (geomC M.g) = true := rfl
  have e4 : (geomC M.g).size = 6 := rfl
  have hn2 := putCells_at hn1 (show z_Geom.size = (geomC M.g).size from rfl)
  have hkp : Keeps (fun _ => False) w1 (putCells (w1.alloc (.cells z_Geom 23)) ⟨w1.heap.size, 0, none⟩ (geomC M.g)) := keeps_put0 (by repeat (first | exact Keeps.refl _ _ | refine Keeps.alloc ?_ _ | refine Keeps.drew ?_ | refine Keeps.drewN ?_ _ | refine Keeps.trans ?_ (by assumption))) (fun h => absurd h (Nat.lt_irrefl _)) _
  have hlt1 := lt_of hb1
  have hw3 : ∃ w3, putCells (w1.alloc (.cells z_Geom 23)) ⟨w1.heap.size, 0, none⟩ (geomC M.g) = w3 := ⟨_, rfl⟩
  obtain ⟨w3, hw3⟩ := hw3
  rw [hw3] at hn2 hkp
  have HX := hid (And.intro (hkp.heap hb0 id) (And.intro (hkp.heap hb1 id) (And.intro hn2 ((hk2.trans hk).trans hkp))))
  clear hk2 hk hb0 hb1 hn2 hkp hn1
  have hgv : geomV M.g = .agg (geomC M.g) := rfl
  rw [hgv]
  obtain ⟨w4, hw4⟩ : ∃ w4, w3.alloc (.cells #[.slice none 0 0, .bool false] 278) = w4 := ⟨_, rfl⟩
  have hk4 : Keeps (fun _ => False) w3 w4 := by rw [← hw4]; exact (by repeat (first | exact Keeps.refl _ _ | refine Keeps.alloc ?_ _ | refine Keeps.drew ?_ | refine Keeps.drewN ?_ _ | refine Keeps.trans ?_ (by assumption)))
  have HP0 : Hid (PenBy w4 w3.heap.size [] w4) := hid ⟨by rw [← hw4]; exact PenAt.new w3, PenStep.refl _ _⟩
  have HY := hid (And.intro (hk4.heap HX.out.1 id) (And.intro (hk4.heap HX.out.2.1 id) (And.intro (hk4.heap HX.out.2.2.1 id) (HX.out.2.2.2.trans hk4))))
  have c0 := HP0.out.cell HY.out.1 (by decide) (by decide) 2
  simp at c0
  have HSZ := hid (And.intro (lt_of HX.out.2.1) hk4.size)
  clear hk4
  go_wp2_with fail
  clear hw4 c0 hw3 hgv
  refine Calls.mono (HP0.out.num 6 6 s.next rfl (by have := HN.out; omega) (by simp) (penOk6 _ (by have := HN.out; omega) (by have := HN.out; omega))) ?_
  rintro r w5 ⟨rfl, hp⟩
  have HP1 := hid hp
  have c1 := hp.cell HY.out.2.2.1 (by decide) (by decide) 0
  clear hp
  simp [geomC] at c1
  go_wp2_with fail
  clear c1
  refine Calls.mono (HP1.out.num 1 1 M.g.domains rfl (by have := HG.out.d; omega) (by simp [leB_len]) (penOk1 _ (by have := HG.out.d; omega) (by have := HG.out.d; omega))) ?_
  rintro r w6 ⟨rfl, hp⟩
  have HP2 := hid hp
  have c2 := hp.cell HY.out.2.2.1 (by decide) (by decide) 1
  clear hp
  simp [geomC] at c2
  go_wp2_with fail
  clear c2
  refine Calls.mono (HP2.out.num 1 1 M.g.zones rfl (by have := HG.out.z; omega) (by simp [leB_len]) (penOk1 _ (by have := HG.out.z; omega) (by have := HG.out.z; omega))) ?_
  rintro r w7 ⟨rfl, hp⟩
  have HP3 := hid hp
  have c3 := hp.cell HY.out.2.2.1 (by decide) (by decide) 2
  clear hp
  simp [geomC] at c3
  go_wp2_with fail
  clear c3
  refine Calls.mono (HP3.out.num 1 1 M.g.size rfl (by have := HG.out.s; omega) (by simp [leB_len]) (penOk1 _ (by have := HG.out.s; omega) (by have := HG.out.s; omega))) ?_
  rintro r w8 ⟨rfl, hp⟩
  have HP4 := hid hp
  have c4 := hp.cell HY.out.2.2.1 (by decide) (by decide) 3
  clear hp
  simp [geomC] at c4
  go_wp2_with fail
  clear c4
  refine Calls.mono (HP4.out.num 2 2 M.g.blocks rfl (by have := HG.out.b; omega) (by simp [leB_len]) (penOk2 _ (by have := HG.out.b; omega) (by have := HG.out.b; omega))) ?_
  rintro r w9 ⟨rfl, hp⟩
  have HP5 := hid hp
  have c5 := hp.cell HY.out.2.2.1 (by decide) (by decide) 4
  clear hp
  simp [geomC] at c5
  go_wp2_with fail
  clear c5
  refine Calls.mono (HP5.out.num 1 1 M.g.spare rfl (by have := HG.out.p; omega) (by simp [leB_len]) (penOk1 _ (by have := HG.out.p; omega) (by have := HG.out.p; omega))) ?_
  rintro r w10 ⟨rfl, hp⟩
  have HP6 := hid hp
  have c6 := hp.cell HY.out.2.2.1 (by decide) (by decide) 5
  clear hp
  simp [geomC] at c6
  go_wp2_with fail
  clear c6
  refine Calls.mono (HP6.out.num 1 1 M.g.opn rfl (by have := HG.out.o; omega) (by simp [leB_len]) (penOk1 _ (by have := HG.out.o; omega) (by have := HG.out.o; omega))) ?_
  rintro r w11 ⟨rfl, hp⟩
  have HP7 : Hid (PenBy w4 w3.heap.size (headB s M.g) w11) := hid hp
  clear hp
  go_wp2_with fail
  refine Calls.mono (sbody_calls _ _ _ HP7.out.pen (by rw [headB_len]; omega) (by rw [headB_len]; omega)) ?_
  rintro r w12 ⟨rfl, hk⟩
  have hb := hk.heap (HP7.out.step.heap HY.out.2.1 (by decide) (by decide)) id
  have e5 := cellsFree_full (n := 44) hb rfl
  have e6 := allOne_bytes (pad44 (headB s M.g))
  have e7 : (bytesV (pad44 (headB s M.g))).size = 44 := by simp [bytesV, pad44_len _ (show (headB s M.g).length ≤ 44 by rw [headB_len]; omega)]
  have HZ := hid (And.intro hb hk)
  clear hb hk
  go_wp2_with fail
  refine bodyPost_ret (results_cell1 rfl row_Body _ rfl (cellsAt_full (putCells_at HZ.out.1 (by rw [e7]; rfl)) e7)) rfl ⟨rfl, ?_⟩
  have a1 : Keeps (fun k => w3.heap.size ≤ k) w w11 := (HY.out.2.2.2.mono fun _ _ h => h.elim).trans HP7.out.step.keeps
  have a2 : Keeps (fun _ => False) w w11 := a1.mono fun i hi h => by have := HX.out.2.2.2.size; omega
  exact keeps_put0 (a2.trans HZ.out.2) (fun h => absurd h (by omega)) _
end Go.Rv
