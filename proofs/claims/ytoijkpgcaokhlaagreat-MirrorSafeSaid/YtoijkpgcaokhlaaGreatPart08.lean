/- The pool: pairs. -/
import Derived.Test.YtoijkpgcaokhlaaGreatPart07
import Derived.Conc.SmallLaws
set_option linter.unusedVariables false
set_option linter.unusedSimpArgs false
namespace Go.Rv
open Go Go.RowKit Go.Proofs
attribute [local irreducible] wpQuiet

theorem int_eq {a b : Int} (h : a = b) : Value.int .i64 a = .int .i64 b := by rw [h]

theorem PoolS.sum_le {p : PoolS} (h : p.Ok) : ∀ d, d ≤ p.nd → p.sumTo d ≤ d * 64
  | 0, _ => by simp [PoolS.sumTo]
  | d + 1, hd => by
    have := PoolS.sum_le h d (by omega)
    have h2 := h.len (d := d) (by omega)
    have := h.cap
    unfold PoolS.sumTo
    omega

theorem PoolS.count_bd {p : PoolS} (h : p.Ok) (d : Int) : 0 ≤ p.count d ∧ p.count d ≤ 64 := by
  unfold PoolS.count
  split
  · omega
  · have := h.len (d := d.toNat) (by omega)
    have := h.cap
    omega

theorem PoolS.best_ne (p : PoolS) (but : Int) : ∀ n : Nat, 0 ≤ p.best but n → ∃ b : Int, p.best but n = b ∧ b ≠ but
  | 0, h => by simp [PoolS.best] at h
  | n + 1, h => by
    rw [PoolS.best_succ] at h ⊢
    split
    · rename_i hc; exact ⟨n, rfl, hc.1⟩
    · rename_i hc; rw [if_neg hc] at h; exact PoolS.best_ne p but n h

set_option maxHeartbeats 1000000 in
theorem pairs_calls (own : Nat → Nat) (pb : Nat) (p : PoolS) (w : World) (h : PoolAt w own pb p) (hok : p.Ok) : Calls Tryz.prog 29 #[.pointer (some ⟨pb, 0, none⟩)] w fun e w' => e = .returned (.int .i64 p.pairs) ∧ Keeps (fun _ => False) w w' := by
  have HOK := hid hok
  have H := hid h
  obtain ⟨lb, lc, cur, qb, cb, h1, h2⟩ := h
  have H1 := hid h1
  have H2 := hid h2
  clear h1 h2 hok
  obtain ⟨-, -, -, -, -, -, c6⟩ := H1.out.cells
  go_enter Tryz.func29, Tryz.ntmps29
  go_wp2_with fail
  go_loopg [3, 11] p.nd (fun (gk : Nat) (b i : Value) (wr : World) => ∃ d : Nat, d + gk = p.nd ∧ b = .int .i64 (p.sumTo d) ∧ i = .int .i64 d ∧ wr = w)
  case atStart => exact ⟨0, by omega, rfl, rfl, rfl⟩
  case round =>
    obtain ⟨d, hd, rfl, rfl, rfl⟩ := hrel
    by_cases c : d < p.nd
    · have dd : decide (d < p.nd) = true := by simpa using c
      have hc : wr.cell? ⟨lb, d, none⟩ = some (.pointer (some ⟨qb d, 0, none⟩)) := (cell_of H1.out.list d).trans (H1.out.elems d c)
      obtain ⟨s, r, hq⟩ := H2.out d c
      have hs := PoolS.sum_le HOK.out d (by omega)
      have hl := HOK.out.len c
      have hn := HOK.out.nd.2.1
      have hcp := HOK.out.cap.2.1
      have HQ := hid hq
      clear hq
      go_wp2_with fail
      refine Calls.mono (Len_calls own _ _ _ _ _ _ _ _ HQ.out) ?_
      rintro e w' ⟨rfl, rfl⟩
      go_wp2_with fail
      go_roundg (gk - 1)
      case measure => omega
      case rel => exact ⟨d + 1, by omega, int_eq (by simp only [PoolS.sumTo]; omega), by go_num, rfl⟩
    · have dd : decide (d < p.nd) = false := by simpa using c
      have hdn : d = p.nd := by omega
      subst hdn
      have hs := PoolS.sum_le HOK.out _ (Nat.le_refl _)
      have hcb := PoolS.count_bd HOK.out (p.best (-1) p.nd)
      have hn := HOK.out.nd.2.1
      go_wp2_with fail
      refine Calls.mono (fullest_calls own pb p (-1) _ H.out hn) ?_
      rintro e w1 ⟨rfl, hk⟩
      have HA := hid (H.out.keeps hn hk (fun _ _ => id))
      have HK := hid hk
      clear hk
      go_wp2_with fail
      refine Calls.mono (count_calls own pb p _ _ HA.out) ?_
      rintro e w2 ⟨rfl, rfl⟩
      go_wp2
      all_goals
        go_ret
        exact ⟨ret_int (by unfold PoolS.pairs; omega), HK.out⟩

theorem PoolS.best_max (p : PoolS) (but : Int) : ∀ n : Nat, ∀ d : Nat, d < n → (d : Int) ≠ but → ∃ b : Nat, p.best but n = b ∧ (b : Int) ≠ but ∧ (p.L d).length ≤ (p.L b).length
  | 0, d, h, _ => by omega
  | n + 1, d, h, hne => by
    rw [PoolS.best_succ]
    by_cases hd : d < n
    · obtain ⟨b, h1, h2, h3⟩ := PoolS.best_max p but n d hd hne
      split
      · rename_i hc
        refine ⟨n, rfl, hc.1, ?_⟩
        rcases hc.2 with hc | hc
        · omega
        · rw [h1] at hc; simp at hc; omega
      · exact ⟨b, h1, h2, h3⟩
    · have hdn : d = n := by omega
      subst hdn
      split
      · exact ⟨d, rfl, hne, Nat.le_refl _⟩
      · rename_i hc
        have hb := p.best_lt but d
        obtain ⟨b, hb2⟩ : ∃ b : Nat, p.best but d = b := ⟨(p.best but d).toNat, by
          have : ¬ p.best but d < 0 := fun h => hc ⟨hne, .inl h⟩
          omega⟩
        refine ⟨b, hb2, ?_, ?_⟩
        · obtain ⟨b', h1, h2⟩ := p.best_ne but d (by omega)
          rw [hb2] at h1
          rw [h1]; exact h2
        · have : ¬ (p.L (p.best but d).toNat).length < (p.L d).length := fun h => hc ⟨hne, .inr h⟩
          rw [hb2] at this
          simp at this
          exact this

theorem PoolS.sum_zero (p : PoolS) : ∀ n, (∀ d, d < n → (p.L d).length = 0) → p.sumTo n = 0
  | 0, _ => rfl
  | n + 1, h => by rw [PoolS.sumTo, PoolS.sum_zero p n fun d hd => h d (by omega), h n (by omega)]
theorem PoolS.sum_one (p : PoolS) (a : Nat) : ∀ n, a < n → (∀ d, d < n → d ≠ a → (p.L d).length = 0) → p.sumTo n = (p.L a).length
  | 0, h, _ => by omega
  | n + 1, h, hz => by
    rw [PoolS.sumTo]
    by_cases hd : a = n
    · subst hd
      rw [PoolS.sum_zero p a fun d hd => hz d (by omega) (by omega)]; omega
    · rw [PoolS.sum_one p a n (by omega) fun d hd hne => hz d (by omega) hne, hz n (by omega) (by omega)]; omega

/-- what a pair is, where there is one. -/
theorem PoolS.pair_ex {p : PoolS} (hok : p.Ok) (h : p.pairs ≠ 0) : ∃ (a b : Nat) (x y : Int) (l m : List Int), p.best (-1) p.nd = a ∧ p.best a p.nd = b ∧ a < p.nd ∧ b < p.nd ∧ a ≠ b ∧ p.L a = x :: l ∧ p.L b = y :: m := by
  have hn := hok.nd.2.2
  obtain ⟨a, ha, _, -⟩ := p.best_max (-1) p.nd 0 (by omega) (by omega)
  have ha2 : a < p.nd := by have := p.best_lt (-1) p.nd; omega
  obtain ⟨d0, hd0, hd1⟩ : ∃ d : Nat, d < p.nd ∧ d ≠ a := by
    by_cases h0 : a = 0
    · exact ⟨1, by omega, by omega⟩
    · exact ⟨0, by omega, by omega⟩
  obtain ⟨b, hb, hb1, -⟩ := p.best_max a p.nd d0 hd0 (by omega)
  have hb2 : b < p.nd := by have := p.best_lt a p.nd; omega
  have hcount : p.count a = (p.L a).length := by unfold PoolS.count; rw [if_neg (by omega)]; simp
  have hA : (p.L a).length ≠ 0 := by
    intro hz
    have := p.sum_zero p.nd fun d hd => by
      obtain ⟨a', ha', _, hm⟩ := p.best_max (-1) p.nd d hd (by omega)
      have : a' = a := by omega
      subst this
      omega
    apply h
    unfold PoolS.pairs
    rw [ha, hcount]
    omega
  have hB : (p.L b).length ≠ 0 := by
    intro hz
    have := p.sum_one a p.nd ha2 fun d hd hne => by
      obtain ⟨b', hb', _, hm⟩ := p.best_max a p.nd d hd (by omega)
      have : b' = b := by omega
      subst this
      omega
    apply h
    unfold PoolS.pairs
    rw [ha, hcount]
    omega
  cases hla : p.L a with
  | nil => rw [hla] at hA; simp at hA
  | cons x l =>
    cases hlb : p.L b with
    | nil => rw [hlb] at hB; simp at hB
    | cons y m => exact ⟨a, b, x, y, l, m, ha, hb, ha2, hb2, by omega, by first | rfl | assumption, by first | rfl | assumption⟩

theorem PoolS.Ok.set {p : PoolS} (h : p.Ok) {d : Nat} {l : List Int} (hl : d < p.nd → l.Nodup ∧ ∀ z, z ∈ l → p.g.domain z = d) : (p.set d l).Ok := by
  refine ⟨h.small, fun k hk z hz => ?_, fun k hk => ?_⟩
  · by_cases hkd : k = d
    · subst hkd; exact (hl hk).2 z (by simpa [PoolS.set] using hz)
    · exact h.inn k hk z (by simpa [PoolS.set, hkd] using hz)
  · by_cases hkd : k = d
    · subst hkd; simpa [PoolS.set] using (hl hk).1
    · simpa [PoolS.set, hkd] using h.nodup k hk
theorem PoolS.Ok.tail {p : PoolS} (h : p.Ok) {d : Nat} {x : Int} {l : List Int} (hl : p.L d = x :: l) : (p.set d l).Ok := by
  refine h.set fun hd => ⟨?_, fun z hz => h.inn d hd z (by rw [hl]; exact List.mem_cons_of_mem _ hz)⟩
  have := h.nodup d hd
  rw [hl] at this
  exact (List.nodup_cons.1 this).2

set_option maxHeartbeats 1000000 in
theorem pair_none (own : Nat → Nat) (pb : Nat) (p : PoolS) (w : World) (h : PoolAt w own pb p) (hok : p.Ok) (hp : p.pairs = 0) : Calls Tryz.prog 130 #[.pointer (some ⟨pb, 0, none⟩)] w fun e w' => e = .returned (.tuple #[.int .i64 0, .int .i64 0, .int .i64 15]) ∧ Keeps (fun _ => False) w w' := by
  have HOK := hid hok
  have H := hid h
  have HP := hid hp
  clear hok h hp
  go_enter Tryz.func130, Tryz.ntmps130
  go_wp2_with fail
  refine Calls.mono (pairs_calls own pb p _ H.out HOK.out) ?_
  rintro e w1 ⟨rfl, hk⟩
  have HK := hid hk
  clear hk
  rw [HP.out]
  go_wp2
  go_ret3
  exact ⟨rfl, HK.out⟩

set_option maxHeartbeats 1000000 in
theorem pair_some (own : Nat → Nat) (pb : Nat) (p : PoolS) (w : World) (h : PoolAt w own pb p) (hok : p.Ok) (hp : p.pairs ≠ 0) (a b : Nat) (x y : Int) (l m : List Int) (ha : p.best (-1) p.nd = a) (hb : p.best a p.nd = b) (han : a < p.nd) (hbn : b < p.nd) (hab : a ≠ b) (hla : p.L a = x :: l) (hlb : p.L b = y :: m) :
    Calls Tryz.prog 130 #[.pointer (some ⟨pb, 0, none⟩)] w fun e w' => e = .returned (.tuple #[.int .i64 x, .int .i64 y, .int .i64 0]) ∧ PoolAt w' own pb ((p.set a l).set b m) ∧ Keeps (fun k => poolTag (own k)) w w' := by
  have hpe : (p.pairs == 0) = false := by simpa using hp
  have hn := hok.nd.2.1
  have HX := hid (And.intro hok (And.intro h (And.intro ha (And.intro hb (And.intro han (And.intro hbn (And.intro hab (And.intro hla hlb))))))))
  clear hok h hp ha hb han hbn hab hla hlb
  go_enter Tryz.func130, Tryz.ntmps130
  go_wp2_with fail
  refine Calls.mono (pairs_calls own pb p _ HX.out.2.1 HX.out.1) ?_
  rintro e w1 ⟨rfl, hk⟩
  have H1 := hid (And.intro (HX.out.2.1.keeps hn hk (fun _ _ => id)) hk)
  clear hk
  go_wp2_with fail
  refine Calls.mono (fullest_calls own pb p _ _ H1.out.1 hn) ?_
  rintro e w2 ⟨rfl, hk⟩
  have H2 := hid (And.intro (H1.out.1.keeps hn hk (fun _ _ => id)) (H1.out.2.trans hk))
  clear hk
  rw [HX.out.2.2.1]
  go_wp2_with fail
  refine Calls.mono (fullest_calls own pb p _ _ H2.out.1 hn) ?_
  rintro e w3 ⟨rfl, hk⟩
  have H3 := hid (And.intro (H2.out.1.keeps hn hk (fun _ _ => id)) (H2.out.2.trans hk))
  clear hk
  rw [HX.out.2.2.2.1]
  go_wp2_with fail
  refine Calls.mono (ptake_one own pb p a x l _ H3.out.1 hn HX.out.2.2.2.2.1 HX.out.2.2.2.2.2.2.2.1) ?_
  rintro e w4 ⟨rfl, hp4, hk4⟩
  have H4 := hid (And.intro hp4 hk4)
  clear hp4 hk4
  go_wp2_with fail
  refine Calls.mono (ptake_one own pb (p.set a l) b y m _ H4.out.1 hn HX.out.2.2.2.2.2.1 ?_) ?_
  · have := HX.out.2.2.2.2.2.2
    simp only [PoolS.set]
    rw [if_neg (fun e => this.1 e.symm)]
    exact this.2.2
  rintro e w5 ⟨rfl, hp5, hk5⟩
  have H5 := hid (And.intro hp5 hk5)
  clear hp5 hk5
  go_wp2
  go_ret3
  exact ⟨rfl, H5.out.1, ((H3.out.2.mono fun _ _ h => h.elim).trans H4.out.2).trans H5.out.2⟩
end Go.Rv

/- The pool: giving. -/
namespace Go.Rv
open Go Go.RowKit Go.Proofs
attribute [local irreducible] wpQuiet

theorem mem_pInts (L : Nat → List Int) (z : Int) : ∀ n, z ∈ pInts L n ↔ ∃ d, d < n ∧ z ∈ L d
  | 0 => by simp [pInts]
  | n + 1 => by
    rw [pInts, List.mem_append, mem_pInts L z n]
    constructor
    · rintro (⟨d, h1, h2⟩ | h)
      · exact ⟨d, by omega, h2⟩
      · exact ⟨n, by omega, h⟩
    · rintro ⟨d, h1, h2⟩
      by_cases hd : d = n
      · subst hd; exact .inr h2
      · exact .inl ⟨d, by omega, h2⟩

def PoolS.has (p : PoolS) (z : Int) : Bool := decide (z ∈ pInts p.L p.nd)
def PoolS.give (p : PoolS) (z : Int) : PoolS × Int :=
  if p.g.domain z < 0 then (p, 13) else if p.has z then (p, 16) else (p.set (p.g.domain z).toNat (p.L (p.g.domain z).toNat ++ [z]), 0)

theorem GeomS.domain_rng {g : GeomS} (h : g.Small) (z : Int) : -1 ≤ g.domain z ∧ g.domain z < g.domains := by
  unfold GeomS.domain
  have := h.d
  split
  · omega
  · rename_i hn
    have hz := h.z
    have h1 : z / g.zones < g.domains := Int.ediv_lt_of_lt_mul (by omega) (by unfold GeomS.all at hn; omega)
    have h2 : 0 ≤ z / g.zones := Int.ediv_nonneg (by omega) (by omega)
    omega

theorem PoolS.Ok.give {p : PoolS} (h : p.Ok) (z : Int) : (p.give z).1.Ok := by
  unfold PoolS.give
  split
  · exact h
  · split
    · exact h
    · rename_i h1 h2
      refine h.set fun hd => ⟨?_, ?_⟩
      · rw [List.nodup_append]
        refine ⟨h.nodup _ hd, by simp, ?_⟩
        intro a ha b hb e
        simp at hb
        subst hb; subst e
        exact h2 (by simp only [PoolS.has, decide_eq_true_eq]; exact (mem_pInts _ _ _).2 ⟨_, hd, ha⟩)
      · intro y hy
        rcases List.mem_append.1 hy with hy | hy
        · exact h.inn _ hd y hy
        · simp at hy; subst hy; omega

theorem phas_calls (own : Nat → Nat) (pb : Nat) (p : PoolS) (z : Int) (w : World) (h : PoolAt w own pb p) (hok : p.Ok) (hown : ∀ k, w.heap.size ≤ k → own k = 0) :
    Calls Tryz.prog 49 #[.pointer (some ⟨pb, 0, none⟩), .int .i64 z] w fun e w' => e = .returned (.bool (p.has z)) ∧ PoolAt w' own pb p ∧ Keeps (fun k => poolTag (own k)) w w' := by
  obtain ⟨lb, lc, cur, qb, cb, h1, h2⟩ := h
  have hn := hok.nd.2.1
  refine (has_calls own pb p.g p.nd lb lc p.cap cur qb cb p.L z w h1 h2 (fun d hd => hok.len hd) (by have := hok.cap; omega) hn hown).mono ?_
  rintro e w' ⟨rfl, hq, hk⟩
  have hcb : ∀ d, d < p.nd → own (cb d) = 16 + d := fun d hd => by obtain ⟨s, r, hq⟩ := h2 d hd; exact hq.minec
  refine ⟨rfl, ⟨lb, lc, cur, qb, cb, h1.keeps hk ?_ ?_, hq⟩, hk.mono ?_⟩
  · rintro ⟨d, hd, e⟩; have := hcb d hd; rw [← e, h1.mine] at this; omega
  · rintro ⟨d, hd, e⟩; have := hcb d hd; rw [← e, h1.minel] at this; omega
  · rintro i - ⟨d, hd, rfl⟩; exact .inr (by rw [hcb d hd]; omega)

set_option maxHeartbeats 1000000 in
theorem give_calls (own : Nat → Nat) (pb : Nat) (p : PoolS) (z : Int) (w : World) (h : PoolAt w own pb p) (hok : p.Ok) (hown : ∀ k, w.heap.size ≤ k → own k = 0) :
    Calls Tryz.prog 15 #[.pointer (some ⟨pb, 0, none⟩), .int .i64 z] w fun e w' => e = .returned (.int .i64 (p.give z).2) ∧ PoolAt w' own pb (p.give z).1 ∧ Keeps (fun k => poolTag (own k)) w w' := by
  have HOK := hid hok
  have H := hid h
  have HO := hid hown
  have hn := hok.nd.2.1
  obtain ⟨lb, lc, cur, qb, cb, h1, h2⟩ := h
  obtain ⟨c0, c1, c2, c3, c4, c5, c6⟩ := h1.cells
  have hdr := GeomS.domain_rng hok.small z
  clear h1 h2 hok hown
  have HD := hid (fun W => domain_calls p.g HOK.out.small z W)
  unfold geomV at HD
  by_cases k1 : p.g.domain z < 0
  · have d1 : decide (p.g.domain z < 0) = true := by simpa using k1
    go_enter Tryz.func15, Tryz.ntmps15
    go_wp2_with fail
    refine Calls.mono (HD.out _) ?_
    rintro e w1 ⟨rfl, hk⟩
    have HK := hid hk
    clear hk
    go_wp2
    go_ret
    have hg : p.give z = (p, 13) := by unfold PoolS.give; rw [if_pos k1]
    rw [hg]
    exact ⟨rfl, H.out.keeps hn HK.out (fun _ _ => id), HK.out.mono fun _ _ h => h.elim⟩
  · have d1 : decide (p.g.domain z < 0) = false := by simpa using k1
    cases hh : p.has z with
    | true =>
      have HH := hid hh
      clear hh
      go_enter Tryz.func15, Tryz.ntmps15
      go_wp2_with fail
      refine Calls.mono (HD.out _) ?_
      rintro e w1 ⟨rfl, hk⟩
      have H1 := hid (And.intro (H.out.keeps hn hk (fun _ _ => id)) hk)
      clear hk
      go_wp2_with fail
      refine Calls.mono (phas_calls own pb p z _ H1.out.1 HOK.out (fun k hk => HO.out k (by have := H1.out.2.size; omega))) ?_
      rintro e w2 ⟨rfl, hp2, hk2⟩
      have H2 := hid (And.intro hp2 hk2)
      clear hp2 hk2
      rw [HH.out]
      go_wp2
      go_ret
      have hg : p.give z = (p, 16) := by unfold PoolS.give; rw [if_neg (by omega), HH.out]; rfl
      rw [hg]
      exact ⟨rfl, H2.out.1, (H1.out.2.mono fun _ _ h => h.elim).trans H2.out.2⟩
    | false =>
      have HH := hid hh
      clear hh
      obtain ⟨d, hd⟩ : ∃ d : Nat, p.g.domain z = d := ⟨(p.g.domain z).toNat, by omega⟩
      have hdn : d < p.nd := by have := HOK.out.nd.1; omega
      have HDE := hid hd
      rw [hd] at d1
      clear hd hdr k1
      go_enter Tryz.func15, Tryz.ntmps15
      go_wp2_with fail
      refine Calls.mono (HD.out _) ?_
      rintro e w1 ⟨rfl, hk⟩
      have H1 := hid (And.intro (H.out.keeps hn hk (fun _ _ => id)) hk)
      clear hk
      rw [HDE.out]
      go_wp2_with fail
      refine Calls.mono (phas_calls own pb p z _ H1.out.1 HOK.out (fun k hk => HO.out k (by have := H1.out.2.size; omega))) ?_
      rintro e w2 ⟨rfl, hp2, hk2⟩
      have H2 := hid (And.intro hp2 hk2)
      obtain ⟨lb2, lc2, cur2, qb2, cb2, h1, h2⟩ := hp2
      have hpar := h1.cells.2.2.2.2.2.2
      have hc2 : w2.cell? ⟨lb2, d, none⟩ = some (.pointer (some ⟨qb2 d, 0, none⟩)) := (cell_of h1.list d).trans (h1.elems d hdn)
      obtain ⟨s, r, hq⟩ := h2 d hdn
      have h3 := HOK.out.room hdn HDE.out (z := z) (fun hm => by
        have h4 := HH.out
        simp only [PoolS.has, decide_eq_false_iff_not] at h4
        exact h4 ((mem_pInts _ _ _).2 ⟨d, hdn, hm⟩))
      have HQ := hid (And.intro h1 (And.intro h2 hq))
      have H3 := hid h3
      clear hk2 h1 h2 hq h3
      rw [HH.out]
      go_wp2_with fail
      refine Calls.mono (Put_calls own _ _ _ _ _ s r z _ HQ.out.2.2 H3.out) ?_
      rintro e w3 ⟨rfl, hq3, hk3, -⟩
      have HR := hid (PoolAt.chan HQ.out.1 HQ.out.2.1 hn hdn hq3 hk3)
      clear hq3 hk3
      go_wp2
      go_ret
      have hg : p.give z = (p.set d (p.L d ++ [z]), 0) := by
        unfold PoolS.give
        rw [if_neg (by rw [HDE.out]; omega), HH.out, HDE.out]
        simp
      rw [hg]
      exact ⟨rfl, HR.out.1, ((H1.out.2.mono fun _ _ h => h.elim).trans H2.out.2).trans HR.out.2⟩
end Go.Rv

/- The pool: dropping. -/
namespace Go.Rv
open Go Go.RowKit Go.Proofs
attribute [local irreducible] wpQuiet

theorem dropf_calls (z y : Int) (bx : Nat) (w : World) (h : w.cell? ⟨bx, 0, none⟩ = some (.int .i64 z)) : Calls Tryz.prog 122 #[.int .i64 y, .pointer (some ⟨bx, 0, none⟩)] w fun e w' => e = .returned (.bool (y != z)) ∧ w = w' := by
  go_enter Tryz.func122, Tryz.ntmps122
  go_wp2
  go_ret
  exact ⟨by first | rfl | simp, rfl⟩

set_option maxHeartbeats 1000000 in
theorem keep_calls (own : Nat → Nat) (t qb cap : Nat) (l : List Int) (cb s r : Nat) (z : Int) (bx : Nat) (w : World) (h : QAt w own t qb cap l cb s r) (hl : l.length ≤ cap) (hcap : cap ≤ 4096) (hbx : w.heap[bx]? = some (.cells #[.int .i64 z] 3 (0, 0))) :
    Calls Tryz.prog 121 #[.pointer (some ⟨qb, 0, none⟩), .func (.func 122) #[] #[.pointer (some ⟨bx, 0, none⟩)]] w fun e w' => e = .returned (.int .i64 (l.count z)) ∧ (∃ s r, QAt w' own t qb cap (l.filter (· != z)) cb s r) ∧ Keeps (fun k => k = cb) w w' ∧ w'.heap.size = w.heap.size := by
  have H := hid h
  have HB := hid hbx
  have hne : bx ≠ cb := fun e => by have := h.chan.symm.trans (e ▸ hbx); cases this
  have HN := hid hne
  clear h hbx hne
  go_enter Tryz.func121, Tryz.ntmps121
  go_wp2_with fail
  refine Calls.mono (Len_calls own t qb cap l cb s r _ H.out) ?_
  rintro e w' ⟨rfl, rfl⟩
  go_wp2_with fail
  go_loopg [5, 10] l.length (fun (gk : Nat) (a i : Value) (wr : World) => ∃ j : Nat, j + gk = l.length ∧ a = .int .i64 ((l.take j).count z) ∧ i = .int .i64 j ∧ Keeps (fun k => k = cb) w wr ∧ wr.heap.size = w.heap.size ∧ ∃ s r, QAt wr own t qb cap (l.drop j ++ (l.take j).filter (· != z)) cb s r)
  case atStart => exact ⟨0, by omega, rfl, rfl, Keeps.refl _ _, rfl, s, r, by simpa using H.out⟩
  case round =>
    obtain ⟨j, hj, rfl, rfl, hk, hsz, s1, r1, hq⟩ := hrel
    have HK := hid hk
    have HS := hid hsz
    clear hk hsz
    by_cases c : j < l.length
    · have dd : decide (j < l.length) = true := by simpa using c
      have hd : l.drop j = l[j] :: l.drop (j + 1) := List.drop_eq_getElem_cons c
      have htk : l.take (j + 1) = l.take j ++ [l[j]] := List.take_succ_eq_append_getElem c
      obtain ⟨x, hx⟩ : ∃ x, x = l[j] := ⟨_, rfl⟩
      rw [← hx] at hd htk
      rw [hd, List.cons_append] at hq
      have HQ := hid hq
      have HT := hid htk
      clear hq htk hd hx
      go_wp2_with fail
      refine Calls.mono (Take_calls own t qb cap x _ cb s1 r1 _ HQ.out) ?_
      rintro e w1 ⟨rfl, hq1, hk1, hs1⟩
      have HQ1 := hid (And.intro hq1 (And.intro hk1 hs1))
      clear hq1 hk1 hs1
      go_wp2_with fail
      refine Calls.mono (dropf_calls z x bx _ ?_) ?_
      · have := (HK.out.trans HQ1.out.2.1).heap HB.out (fun e => HN.out e)
        rw [cell_of this]; rfl
      rintro e w2 ⟨rfl, rfl⟩
      have hcl : ((l.take j).count z : Nat) ≤ j := Nat.le_trans List.count_le_length (by simp; omega)
      by_cases hx : x = z
      · have b1 : (x != z) = false := by simpa using hx
        have HX := hid hx
        clear hx
        rw [b1]
        go_wp2_with fail
        go_roundg (gk - 1)
        case measure => omega
        case rel =>
          refine ⟨j + 1, by omega, int_eq ?_, by go_num, HK.out.trans HQ1.out.2.1, HQ1.out.2.2.trans HS.out, s1, r1 + 1, ?_⟩
          · rw [HT.out, List.count_append, HX.out]; simp
          · have := HQ1.out.1
            rw [HT.out, List.filter_append]
            simpa [HX.out] using this
      · have b1 : (x != z) = true := by simpa using hx
        have HX := hid hx
        clear hx
        rw [b1]
        have hlen : (l.drop (j + 1) ++ (l.take j).filter (· != z)).length < cap := by
          have := List.length_filter_le (· != z) (l.take j)
          simp at this ⊢
          omega
        have HL := hid hlen
        clear hlen
        go_wp2_with fail
        refine Calls.mono (Put_calls own t qb cap _ cb s1 (r1 + 1) x _ HQ1.out.1 HL.out) ?_
        rintro e w3 ⟨rfl, hq3, hk3, hs3⟩
        have HQ3 := hid (And.intro hq3 (And.intro hk3 hs3))
        clear hq3 hk3 hs3
        go_wp2_with fail
        go_roundg (gk - 1)
        case measure => omega
        case rel =>
          refine ⟨j + 1, by omega, int_eq ?_, by go_num, (HK.out.trans HQ1.out.2.1).trans HQ3.out.2.1, (HQ3.out.2.2.trans HQ1.out.2.2).trans HS.out, s1 + 1, r1 + 1, ?_⟩
          · rw [HT.out, List.count_append]; simp [HX.out]
          · have := HQ3.out.1
            rw [HT.out, List.filter_append]
            have hf : [x].filter (· != z) = [x] := by simp [HX.out]
            rw [hf, ← List.append_assoc]
            exact this
    · have dd : decide (j < l.length) = false := by simpa using c
      have hjl : j = l.length := by omega
      subst hjl
      rw [List.take_length, List.drop_length, List.nil_append] at hq
      have HQ := hid hq
      clear hq
      go_wp2_with fail
      go_ret
      exact ⟨ret_int (by rw [List.take_length]), ⟨s1, r1, HQ.out⟩, HK.out, HS.out⟩

def PoolS.drop (p : PoolS) (z : Int) : PoolS × Int :=
  if p.g.domain z < 0 then (p, 15) else (p.set (p.g.domain z).toNat ((p.L (p.g.domain z).toNat).filter (· != z)), if p.has z then 0 else 15)

theorem PoolS.Ok.drop {p : PoolS} (h : p.Ok) (z : Int) : (p.drop z).1.Ok := by
  unfold PoolS.drop
  split
  · exact h
  · exact h.set fun hd => ⟨(h.nodup _ hd).filter _, fun y hy => h.inn _ hd y (List.mem_filter.1 hy).1⟩

theorem PoolS.Ok.has_dom {p : PoolS} (h : p.Ok) {z : Int} {d : Nat} (hz : p.g.domain z = d) (hd : d < p.nd) : p.has z = decide (z ∈ p.L d) := by
  unfold PoolS.has
  rw [decide_eq_decide, mem_pInts]
  constructor
  · rintro ⟨k, hk, hm⟩
    have := h.inn k hk z hm
    have : k = d := by omega
    subst this
    exact hm
  · exact fun hm => ⟨d, hd, hm⟩

set_option maxHeartbeats 1000000 in
set_option maxRecDepth 100000 in
theorem drop_calls (own : Nat → Nat) (pb : Nat) (p : PoolS) (z : Int) (w : World) (h : PoolAt w own pb p) (hok : p.Ok) (hown : ∀ k, w.heap.size ≤ k → own k = 0) :
    Calls Tryz.prog 69 #[.pointer (some ⟨pb, 0, none⟩), .int .i64 z] w fun e w' => e = .returned (.int .i64 (p.drop z).2) ∧ PoolAt w' own pb (p.drop z).1 ∧ Keeps (fun k => poolTag (own k)) w w' := by
  have HOK := hid hok
  have H := hid h
  have HO := hid hown
  have hn := hok.nd.2.1
  obtain ⟨lb, lc, cur, qb, cb, h1, h2⟩ := h
  have HP := hid (And.intro h1 h2)
  obtain ⟨c0, c1, c2, c3, c4, c5, c6⟩ := h1.cells
  have hb1 := lt_of h1.heap
  have hb2 := lt_of h1.list
  have hdr := GeomS.domain_rng hok.small z
  clear h1 h2 hok hown
  have HD := hid (fun W => domain_calls p.g HOK.out.small z W)
  unfold geomV at HD
  obtain ⟨o0, ho0⟩ : ∃ o : Obj, o = .cells #[.int .i64 z] 3 := ⟨_, rfl⟩
  have HF : Hid (∀ W, Keeps (fun _ => False) (w.alloc (.cells #[.int .i64 z] 3)) W → W.cell? ⟨pb, 0, none⟩ = some (.int .i64 p.g.domains) ∧ W.cell? ⟨pb, 1, none⟩ = some (.int .i64 p.g.zones) ∧ W.cell? ⟨pb, 2, none⟩ = some (.int .i64 p.g.size) ∧ W.cell? ⟨pb, 3, none⟩ = some (.int .i64 p.g.blocks) ∧ W.cell? ⟨pb, 4, none⟩ = some (.int .i64 p.g.spare) ∧ W.cell? ⟨pb, 5, none⟩ = some (.int .i64 p.g.opn) ∧ W.cell? ⟨w.heap.size, 0, none⟩ = some (.int .i64 z)) := hid fun W hW => by
    have hK : Keeps (fun _ => False) w W := ((Keeps.refl _ _).alloc _).trans hW
    have h := HP.out.1.keeps hK id id
    obtain ⟨c0, c1, c2, c3, c4, c5, c6⟩ := h.cells
    exact ⟨c0, c1, c2, c3, c4, c5, cell_of (hW.heap (heap_new _ _) id) 0⟩
  clear c0 c1 c2 c3 c4 c5 c6 ho0 o0
  by_cases k1 : p.g.domain z < 0
  · have d1 : decide (p.g.domain z < 0) = true := by simpa using k1
    go_enter Tryz.func69, Tryz.ntmps69
    go_wp2_with fail
    refine wp_region_still (by kernel_rfl) (by kernel_rfl) ?_
    repeat (first | (refine still_pass ?_ ?_; (focus (first | (go_simp; done) | rfl)); try simp only [Act.put, List.setIfInBounds_toArray, List.set_cons_succ, List.set_cons_zero]) | (apply still_step; (focus (go_simp; done)); (focus (intro W hW; unfold Oper.quietAt; (obtain ⟨c0, c1, c2, c3, c4, c5, c6⟩ := HF.out W hW); go_simp; first | done | with_reducible rfl | (go_at_call 60; exact still_call hW (HD.out W)) | exact ⟨rfl, rfl⟩)); try simp only [Act.put, List.setIfInBounds_toArray, List.set_cons_succ, List.set_cons_zero]))
    refine wpQuiet_nil ?_
    intro W hW
    go_wp2
    go_ret
    have hg : p.drop z = (p, 15) := by unfold PoolS.drop; rw [if_pos k1]
    rw [hg]
    have hK : Keeps (fun _ => False) w W := ((Keeps.refl _ _).alloc _).trans hW
    exact ⟨rfl, H.out.keeps hn hK (fun _ _ => id), hK.mono fun _ _ h => h.elim⟩
  · have d1 : decide (p.g.domain z < 0) = false := by simpa using k1
    obtain ⟨d, hd⟩ : ∃ d : Nat, p.g.domain z = d := ⟨(p.g.domain z).toNat, by omega⟩
    have hdn : d < p.nd := by have := HOK.out.nd.1; omega
    have HDE := hid hd
    rw [hd] at HD d1
    have hg : p.drop z = (p.set d ((p.L d).filter (· != z)), if p.has z then 0 else 15) := by
      unfold PoolS.drop
      rw [if_neg (by omega), hd]
      simp
    have HG := hid hg
    clear hd hdr k1 hg
    have hcnt : ((p.L d).count z == 0) = !p.has z := by
      rw [HOK.out.has_dom HDE.out hdn]
      by_cases hm : z ∈ p.L d
      · simp [hm, List.count_eq_zero]
      · simp [hm, List.count_eq_zero]
    have HC := hid hcnt
    clear hcnt
    cases hh : p.has z
    all_goals
      have HH := hid hh
      have hct : (((p.L d).count z : Int) == 0) = !p.has z := by
        rw [← HC.out]
        rw [Bool.eq_iff_iff]; simp
      rw [hh] at hct
      clear hh
      go_enter Tryz.func69, Tryz.ntmps69
      go_wp2_with fail
      refine wp_region_still (by kernel_rfl) (by kernel_rfl) ?_
      repeat (first | (refine still_pass ?_ ?_; (focus (first | (go_simp; done) | rfl)); try simp only [Act.put, List.setIfInBounds_toArray, List.set_cons_succ, List.set_cons_zero]) | (apply still_step; (focus (go_simp; done)); (focus (intro W hW; unfold Oper.quietAt; (obtain ⟨c0, c1, c2, c3, c4, c5, c6⟩ := HF.out W hW); go_simp; first | done | with_reducible rfl | (go_at_call 60; exact still_call hW (HD.out W)) | exact ⟨rfl, rfl⟩)); try simp only [Act.put, List.setIfInBounds_toArray, List.set_cons_succ, List.set_cons_zero]))
      refine wpQuiet_nil ?_
      intro W hW
      have hK : Keeps (fun _ => False) w W := ((Keeps.refl _ _).alloc _).trans hW
      have hp1 := HP.out.1.keeps hK id id
      have c6 := hp1.cells.2.2.2.2.2.2
      have hc2 : W.cell? ⟨lb, d, none⟩ = some (.pointer (some ⟨qb d, 0, none⟩)) := (cell_of hp1.list d).trans (hp1.elems d hdn)
      have hbx := hW.heap (heap_new _ _) id
      obtain ⟨s, r, hq⟩ := HP.out.2 d hdn
      have HQ := hid (And.intro (hq.keeps hK id id) hbx)
      have HK := hid hK
      have HW := hid hW
      have H1 := hid hp1
      clear hK hp1 hbx hq hW
      go_wp2_with fail
      refine Calls.mono (keep_calls own _ _ _ _ _ s r z _ _ HQ.out.1 (HOK.out.len hdn) (by have := HOK.out.cap; omega) HQ.out.2) ?_
      rintro e w2 ⟨rfl, ⟨s2, r2, hq2⟩, hk2, -⟩
      have HR := hid (PoolAt.chan H1.out (fun d' hd' => by obtain ⟨s, r, hq⟩ := HP.out.2 d' hd'; exact ⟨s, r, hq.keeps HK.out id id⟩) hn hdn hq2 hk2)
      clear hq2 hk2
      go_wp2
      go_ret
      rw [HG.out, HH.out]
      exact ⟨rfl, HR.out.1, (HK.out.mono fun _ _ h => h.elim).trans HR.out.2⟩
end Go.Rv

/- A new pool. -/
namespace Go.Rv
open Go Go.RowKit Go.Proofs
attribute [local irreducible] wpQuiet

theorem infoQ : (Tryz.prog.info? 153).map (fun i => (i.zero, i.size, i.bytes)) = some (some (.pointer none), 1, 8) := by kernel_rfl

theorem mkChan (n : Nat) (h : n ≤ 4096) (w : World) : (Instr.makeChan 216 (.int .i64 n)).run Tryz.prog w = .ok (.chan (some w.heap.size)) (w.alloc (.chan n #[] false 0 0 false)) := by
  obtain ⟨i0, hi, hz0, hz1, hz2⟩ := info_parts infoInt
  exact Conc.run_makeChan (P := Tryz.prog) (w := w) Tryz.underlying216 hi .i64 n (by omega) (by rw [hz2]; omega)

set_option maxRecDepth 100000 in
theorem qnew_calls (n : Nat) (h1 : 1 ≤ n) (h2 : n ≤ 4096) (w : World) : Calls Tryz.prog 126 #[.int .i64 n] w fun e w' => e = .returned (.tuple #[.pointer (some ⟨w.heap.size + 1, 0, none⟩), .int .i64 0]) ∧ w' = (w.alloc (.chan n #[] false 0 0 false)).alloc (.cells #[.chan (some w.heap.size)] 218) := by
  have d1 : decide ((n : Int) < 1) = false := by simp; omega
  have d2 : decide ((4096 : Int) < n) = false := by simp; omega
  have hm := mkChan n h2
  go_enter Tryz.func126, Tryz.ntmps126
  go_wp2
  go_ret2
  exact ⟨by simp, rfl⟩

theorem pnew_bad (g : GeomS) (hg : g.right = false) (w : World) : Calls Tryz.prog 73 #[geomV g] w fun e w' => e = .returned (.tuple #[.pointer none, .int .i64 20]) ∧ Keeps (fun _ => False) w w' := by
  have HG := hid hg
  have HR := hid (right_calls g)
  clear hg
  unfold geomV at *
  go_enter Tryz.func73, Tryz.ntmps73
  go_wp2_with fail
  refine Calls.mono (HR.out _) ?_
  rintro e w1 ⟨rfl, hk⟩
  have HK := hid hk
  clear hk
  rw [HG.out]
  go_wp2
  go_ret2
  exact ⟨rfl, ((by repeat (first | exact Keeps.refl _ _ | refine Keeps.alloc ?_ _ | refine Keeps.drew ?_ | refine Keeps.drewN ?_ _ | refine Keeps.trans ?_ (by assumption))) : Keeps (fun _ => False) w _).trans HK.out⟩

theorem qnew_int (n : Int) (h1 : 1 ≤ n) (h2 : n ≤ 4096) (w : World) : Calls Tryz.prog 126 #[.int .i64 n] w fun e w' => e = .returned (.tuple #[.pointer (some ⟨w.heap.size + 1, 0, none⟩), .int .i64 0]) ∧ w' = (w.alloc (.chan n.toNat #[] false 0 0 false)).alloc (.cells #[.chan (some w.heap.size)] 218) := by
  obtain ⟨k, rfl⟩ : ∃ k : Nat, n = k := ⟨n.toNat, by omega⟩
  exact qnew_calls k (by omega) (by omega) w

/-- the cells of a pool whose list is v. -/
def poolCells (g : GeomS) (v : Value) : Array Value := #[.int .i64 g.domains, .int .i64 g.zones, .int .i64 g.size, .int .i64 g.blocks, .int .i64 g.spare, .int .i64 g.opn, v]

structure PNew (w : World) (own : Nat → Nat) (pb base : Nat) (g : GeomS) (d : Nat) (wr : World) : Prop where
  ex : ∃ (v : Value) (own' : Nat → Nat) (qb cb : Nat → Nat) (xs : List Value), wr.heap[w.heap.size]? = some (geomB g) ∧ own' w.heap.size = 0 ∧ wr.heap[pb]? = some (.cells (poolCells g v) 152 (0, 0)) ∧ own' pb = 3 ∧
    wr.ownsRow base 153 1 v d xs ∧ (∀ k, v.ownBlock = some k → own' k = 3 ∧ k ≠ pb) ∧ (∀ j, j < d → xs[j]? = some (.pointer (some ⟨qb j, 0, none⟩))) ∧
    QsAt wr own' d g.zones.toNat qb cb (fun _ => []) ∧ (∀ j, j < d → base ≤ cb j ∧ base ≤ qb j) ∧ Step poolTag w own wr own' ∧ (∀ k, wr.heap.size ≤ k → own' k = 0)

set_option maxHeartbeats 1000000 in
set_option maxRecDepth 100000 in
theorem pnew_good (own : Nat → Nat) (g : GeomS) (hg : g.right = true) (w : World) (hown : ∀ k, w.heap.size ≤ k → own k = 0) : Calls Tryz.prog 73 #[geomV g] w fun e w' => ∃ pb own', e = .returned (.tuple #[.pointer (some ⟨pb, 0, none⟩), .int .i64 0]) ∧ PoolAt w' own' pb ⟨g, fun _ => []⟩ ∧ Step poolTag w own w' own' ∧ (∀ k, w'.heap.size ≤ k → own' k = 0) := by
  have hs := GeomS.right_small hg
  have HG := hid hg
  have HS := hid hs
  have HO := hid hown
  have HR := hid (right_calls g)
  have hd1 := hs.d
  have hz1 := hs.z
  obtain ⟨nd, hnd⟩ : ∃ nd : Nat, g.domains = nd := ⟨g.domains.toNat, by omega⟩
  obtain ⟨nz, hnz⟩ : ∃ nz : Nat, g.zones = nz := ⟨g.zones.toNat, by omega⟩
  have HE := hid (And.intro hnd hnz)
  obtain ⟨i0, hi, hz0, hz1', hz2⟩ := info_parts infoQ
  have HI := hid (And.intro hi (And.intro hz0 (And.intro hz1' hz2)))
  clear hg hs hown hi hz0 hz1' hz2 hnd hnz hd1 hz1
  unfold geomV at *
  go_enter Tryz.func73, Tryz.ntmps73
  go_wp2_with fail
  refine Calls.mono (HR.out _) ?_
  rintro e w1 ⟨rfl, hk⟩
  obtain ⟨c0, c1, c2, c3, c4, c5⟩ := geom_cells (w := w) hk
  have hsz : w.heap.size < w1.heap.size := by have := hk.size; simp at this; omega
  have HK := hid hk
  clear hk
  rw [HG.out]
  go_wp2_with fail
  go_loopg [15] g.domains.toNat (fun (gk : Nat) (i : Value) (wr : World) => ∃ d : Nat, d + gk = g.domains.toNat ∧ i = .int .i64 d ∧ PNew w own w1.heap.size w1.heap.size g d wr)
  case atStart =>
    refine ⟨0, by omega, rfl, .slice none 0 0, fun k => if k = w1.heap.size then 3 else own k, fun _ => 0, fun _ => 0, [], ?_, ?_, heap_new _ _, by simp, ?_, by simp [Value.ownBlock], by simp, fun d hd => by omega, by simp, ?_, ?_⟩
    · exact heap_old _ _ (HK.out.heap (heap_new _ _) id)
    · simp [show w.heap.size ≠ w1.heap.size by omega]; exact HO.out _ (Nat.le_refl _)
    · exact ⟨by simp, .inl ⟨rfl, rfl⟩⟩
    · refine ⟨((((Keeps.refl _ _).alloc _).trans (HK.out.mono fun _ _ h => h.elim)).alloc _), fun k hk => by simp [show k ≠ w1.heap.size by omega], fun k hk => ?_⟩
      by_cases h : k = w1.heap.size
      · right; left; simp [h]
      · left; simp [h]; exact HO.out k (by omega)
    · intro k hk
      simp at hk
      simp [show k ≠ w1.heap.size by omega]
      exact HO.out k (by omega)
  case round =>
    obtain ⟨d, hd, rfl, v, own', qb, cb, xs, hgb, hgo, hpb, hpo, hrow, hvb, hxs, hqs, hge, hst, hset⟩ := hrel
    have hpw := lt_of hpb
    have hdd := HS.out.d
    by_cases c : (d : Int) < g.domains
    · have dd : decide ((d : Int) < g.domains) = true := by simpa using c
      have k1 := cell_of hgb 1
      have k6 := cell_of hpb 6
      simp [poolCells] at k1 k6
      have hgw := lt_of hgb
      have HX := hid (And.intro hgb (And.intro hgo (And.intro hpb (And.intro hpo (And.intro hrow (And.intro hvb (And.intro hxs (And.intro hqs (And.intro hge (And.intro hst hset))))))))))
      clear hgb hgo hpb hpo hrow hvb hxs hqs hst hset hge
      go_wp2_with fail
      refine Calls.mono (qnew_int g.zones (by have := HS.out.z; omega) (by have := HS.out.z; omega) _) ?_
      rintro e w2 ⟨rfl, hw2⟩
      have hs2 : w2.heap.size = wr.heap.size + 2 := by rw [hw2]; simp
      have hk2 : Keeps (fun _ => False) wr w2 := by rw [hw2]; exact (by repeat (first | exact Keeps.refl _ _ | refine Keeps.alloc ?_ _ | refine Keeps.drew ?_ | refine Keeps.drewN ?_ _ | refine Keeps.trans ?_ (by assumption)))
      have k6' : w2.cell? ⟨w1.heap.size, 6, none⟩ = some v := (hk2.cell hpw id).trans k6
      have hc1 : w2.heap[wr.heap.size]? = some (.chan g.zones.toNat #[] false 0 0 false) := by rw [hw2]; exact heap_old _ _ (heap_new _ _)
      have hc2 : w2.heap[wr.heap.size + 1]? = some (.cells #[.chan (some wr.heap.size)] 218 (0, 0)) := by
        rw [hw2]; have := heap_new (wr.alloc (.chan g.zones.toNat #[] false 0 0 false)) (.cells #[.chan (some wr.heap.size)] 218); rwa [World.size_alloc] at this
      have H2 := hid (And.intro hk2 (And.intro hc1 (And.intro hc2 hs2)))
      have hpw2 : w1.heap.size < w2.heap.size := by omega
      clear hw2 hk2 hc1 hc2 hs2 k6 k1
      obtain ⟨hi, hz0, hz1, hz2⟩ := HI.out
      go_wp2_with (at_builtin; refine wpList_append_own _ rfl (.tmp 30) (.tmp 32) 150 rfl w1.heap.size 153 i0 (.pointer none) 1 8 Tryz.underlying150 hi hz0 hz1 hz2 rfl (by decide) v d xs rfl ?own ⟨w2.heap.size, 0, none⟩ 1 1 [.pointer (some ⟨wr.heap.size + 1, 0, none⟩)] rfl rfl ?c1 ?c2 ?c3 ?c4 ?c5 ?go)
      case own =>
        refine ownsRow_keeps HX.out.2.2.2.2.1 (M := fun _ => False) ((H2.out.1).alloc _) fun _ _ _ _ h => h
      case c1 => intro j u hj; match j, hj with | 0, hj => simp at hj; subst hj; simp [Addr.add]
      case c2 => intro u hu; simp at hu; subst hu; rfl
      case c3 => unfold maxLen; omega
      case c4 => omega
      case c5 => simp; omega
      case go =>
        intro v' w3 hown3 hgrow _
        obtain ⟨g3, cap3, rfl⟩ := ownsRow_succ' hown3
        obtain ⟨hgb, hgo, hpb, hpo, hrow, hvb, hxs, hqs, hge, hst, hset⟩ := HX.out
        obtain ⟨hk2, hc1, hc2, hs2⟩ := H2.out
        have hk3 : Keeps (fun b => v.ownBlock = some b) w2 w3 := ((Keeps.refl _ _).alloc _).grown hgrow fun g hg _ => hg
        have hs3 : w2.heap.size + 1 ≤ w3.heap.size := by have := hgrow.size; simpa using this
        have hpv : ¬ v.ownBlock = some w1.heap.size := fun e => (hvb _ e).2 rfl
        have hpb3 := hk3.heap (hk2.heap hpb id) hpv
        have k6'' := cell_of hpb3 6
        have f6 := free_of hpb3 6
        have hpw3 := lt_of hpb3
        simp [poolCells] at k6''
        have hvn : ∀ k, v.ownBlock = some k → w1.heap.size ≤ k ∧ k < wr.heap.size ∧ ∃ cur, wr.heap[k]? = some (.cells cur 153 (0, 0)) := fun k hk => ownsRow_block hrow hk
        have H3 := hid (And.intro hown3 (And.intro hk3 (And.intro hs3 (And.intro hpb3 hvn))))
        clear hgb hgo hpb hpo hrow hvb hxs hqs hge hst hset hk2 hc1 hc2 hs2 hown3 hgrow hk3 hs3 hpv hpb3 hvn k6' hi hz0 hz1 hz2 c0 c1 c2 c3 c4 c5
        go_wp2
        go_roundg (gk - 1)
        case measure => omega
        case rel =>
          obtain ⟨hgb, hgo, hpb, hpo, hrow, hvb, hxs, hqs, hge, hst, hset⟩ := HX.out
          obtain ⟨hk2, hc1, hc2, hs2⟩ := H2.out
          obtain ⟨hown3, hk3, hs3, hpb3, hvn⟩ := H3.out
          have hvo : (Value.slice (some ⟨g3, 0, none⟩) (d + 1) cap3).ownBlock = some g3 := rfl
          obtain ⟨hg3, hg3w, cur3, hcur3⟩ := ownsRow_block hown3 hvo
          have hkw : Keeps (fun b => v.ownBlock = some b) wr w3 := (hk2.mono fun _ _ h => h.elim).trans hk3
          have hks : Keeps (fun b => v.ownBlock = some b ∨ b = w1.heap.size) wr (w3.setCell ⟨w1.heap.size, 6, none⟩ (.slice (some ⟨g3, 0, none⟩) (d + 1) cap3)) := (hkw.mono fun _ _ h => .inl h).setCell (fun _ => .inr rfl) _
          have hnw : ¬ v.ownBlock = some wr.heap.size := fun e => by have := hvn _ e; omega
          have hnw1 : ¬ v.ownBlock = some (wr.heap.size + 1) := fun e => by have := hvn _ e; omega
          have e1 : (w3.setCell ⟨w1.heap.size, 6, none⟩ (.slice (some ⟨g3, 0, none⟩) (d + 1) cap3)).heap[wr.heap.size]? = some (.chan g.zones.toNat #[] false 0 0 false) := by
            rw [heap_set_ne _ _ (by omega)]; exact hk3.heap hc1 hnw
          have e2 : (w3.setCell ⟨w1.heap.size, 6, none⟩ (.slice (some ⟨g3, 0, none⟩) (d + 1) cap3)).heap[wr.heap.size + 1]? = some (.cells #[.chan (some wr.heap.size)] 218 (0, 0)) := by
            rw [heap_set_ne _ _ (by omega)]; exact hk3.heap hc2 hnw1
          have n1 : g3 ≠ wr.heap.size := fun e => by rw [e] at hcur3; have := hcur3.symm.trans (hk3.heap hc1 hnw); cases this
          have n2 : g3 ≠ wr.heap.size + 1 := fun e => by rw [e] at hcur3; have := hcur3.symm.trans (hk3.heap hc2 hnw1); cases this
          have n3 : g3 ≠ w1.heap.size := fun e => by rw [e] at hcur3; have := hcur3.symm.trans hpb3; cases this
          have hqn : ∀ j, j < d → g3 ≠ qb j ∧ g3 ≠ cb j ∧ qb j ≠ w1.heap.size ∧ cb j ≠ w1.heap.size ∧ ¬ v.ownBlock = some (qb j) ∧ ¬ v.ownBlock = some (cb j) ∧ qb j < wr.heap.size ∧ cb j < wr.heap.size := fun j hj => by
            obtain ⟨s, r, hq⟩ := hqs j hj
            have a1 : ¬ v.ownBlock = some (qb j) := fun e => by obtain ⟨_, _, cur, hc⟩ := hvn _ e; have := hc.symm.trans hq.heap; cases this
            have a2 : ¬ v.ownBlock = some (cb j) := fun e => by obtain ⟨_, _, cur, hc⟩ := hvn _ e; have := hc.symm.trans hq.chan; cases this
            refine ⟨fun e => ?_, fun e => ?_, fun e => ?_, fun e => ?_, a1, a2, lt_of hq.heap, lt_of hq.chan⟩
            · rw [e] at hcur3; have := hcur3.symm.trans (hkw.heap hq.heap a1); cases this
            · rw [e] at hcur3; have := hcur3.symm.trans (hkw.heap hq.chan a2); cases this
            · have := hq.heap; rw [e] at this; have := this.symm.trans hpb; cases this
            · have := hq.chan; rw [e] at this; have := this.symm.trans hpb; cases this
          have hsz3 : (w3.setCell ⟨w1.heap.size, 6, none⟩ (.slice (some ⟨g3, 0, none⟩) (d + 1) cap3)).heap.size = w3.heap.size := size_set _ _ _
          refine ⟨d + 1, by omega, by go_num, .slice (some ⟨g3, 0, none⟩) (d + 1) cap3, fun k => if k = wr.heap.size ∨ k = wr.heap.size + 1 then 16 + d else if k = g3 then 3 else own' k, fun j => if j = d then wr.heap.size + 1 else qb j, fun j => if j = d then wr.heap.size else cb j, xs ++ [.pointer (some ⟨wr.heap.size + 1, 0, none⟩)], ?_, ?_, ?_, ?_, ?_, ?_, ?_, ?_, ?_, ?_, ?_⟩
          · refine hks.heap hgb (fun h => h.elim (fun e => ?_) fun e => ?_)
            · have := hvn _ e; omega
            · omega
          · simp [show w.heap.size ≠ wr.heap.size by omega, show w.heap.size ≠ wr.heap.size + 1 by omega, show w.heap.size ≠ g3 by omega, hgo]
          · rw [heap_set hpb3]; rfl
          · simp [show w1.heap.size ≠ wr.heap.size by omega, show w1.heap.size ≠ wr.heap.size + 1 by omega, n3.symm, hpo]
          · refine ownsRow_keeps hown3 (Keeps.setCell (M := fun b => b = w1.heap.size) (p := ⟨w1.heap.size, 6, none⟩) (Keeps.refl _ _) (fun _ => rfl) _) fun g hg _ _ e => ?_
            rw [hvo] at hg; cases hg; exact n3 e
          · intro k hk
            rw [hvo] at hk; cases hk
            simp [n1, n2, n3]
          · intro j hj
            by_cases hjd : j = d
            · subst hjd
              have : xs.length = j := by have := hrow.1; omega
              simp [← this]
            · have h1 := hxs j (by omega)
              have : xs.length = d := by have := hrow.1; omega
              rw [List.getElem?_append_left (by omega), h1]
              simp [hjd]
          · intro j hj
            by_cases hjd : j = d
            · subst hjd
              exact ⟨0, 0, by simp, by simp, by simpa using e2, by simpa using e1⟩
            · obtain ⟨a1, a2, a3, a4, a5, a6, a7, a8⟩ := hqn j (by omega)
              obtain ⟨s, r, hq⟩ := hqs j (by omega)
              refine ⟨s, r, ?_, ?_, ?_, ?_⟩
              · simp [hjd, show qb j ≠ wr.heap.size by omega, show qb j ≠ wr.heap.size + 1 by omega, a1.symm, hq.mine]
              · simp [hjd, show cb j ≠ wr.heap.size by omega, show cb j ≠ wr.heap.size + 1 by omega, a2.symm, hq.minec]
              · simpa [hjd] using hks.heap hq.heap (fun h => h.elim a5 a3)
              · simpa [hjd] using hks.heap hq.chan (fun h => h.elim a6 a4)
          · intro j hj
            by_cases hjd : j = d
            · simp [hjd]; omega
            · simp [hjd]; exact hge j (by omega)
          · refine ⟨hst.keeps.trans' hks fun i hi hn => hn.elim (fun e => ?_) (fun e => ?_), fun k hk => ?_, fun k hk => ?_⟩
            · have := (hvn _ e).1; omega
            · omega
            · simp [show k ≠ wr.heap.size by omega, show k ≠ wr.heap.size + 1 by omega, show k ≠ g3 by omega]
              exact hst.agree k hk
            · by_cases h1 : k = wr.heap.size ∨ k = wr.heap.size + 1
              · simp only [if_pos h1]; right; right; omega
              · by_cases h2 : k = g3
                · simp only [if_neg h1, if_pos h2]; right; left; rfl
                · simp only [if_neg h1, if_neg h2]; exact hst.fresh k hk
          · intro k hk
            rw [hsz3] at hk
            have : w3.heap.size ≥ wr.heap.size + 3 := by omega
            simp [show k ≠ wr.heap.size by omega, show k ≠ wr.heap.size + 1 by omega, show k ≠ g3 by omega]
            exact hset k (by omega)
    · have dd : decide ((d : Int) < g.domains) = false := by simpa using c
      have HX := hid (And.intro hgb (And.intro hgo (And.intro hpb (And.intro hpo (And.intro hrow (And.intro hvb (And.intro hxs (And.intro hqs (And.intro hge (And.intro hst hset))))))))))
      clear hgb hgo hpb hpo hrow hvb hxs hqs hst hset hge
      have hdn : d = g.domains.toNat := by omega
      have HD := hid hdn
      clear hdn
      go_wp2_with fail
      go_ret2
      obtain ⟨hgb, hgo, hpb, hpo, hrow, hvb, hxs, hqs, hge, hst, hset⟩ := HX.out
      obtain ⟨_, ⟨_, h0⟩ | ⟨lb, lc, cur, hv, hB, hh, h1, h2, h3, h4⟩⟩ := hrow
      · omega
      · subst hv
        refine ⟨w1.heap.size, rfl, own', ⟨lb, lc, cur, qb, cb, ⟨hpo, (hvb lb rfl).1, ?_, hh, ?_⟩, ?_⟩, hst, hset⟩
        · rw [hpb]; simp [poolCells, PoolS.nd, HD.out]
        · intro j hj
          have := hxs j (by rw [HD.out]; exact hj)
          rw [← h4, List.getElem?_take, if_pos (by have := HD.out; simp [PoolS.nd] at hj; omega)] at this
          simpa using this
        · rw [HD.out] at hqs; exact hqs
end Go.Rv
