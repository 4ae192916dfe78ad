/- The functions and the laws of this seat in plain words; each statement names its conditions. -/
import Derived.Test.YtalndpmecmmckaaLaw
import Derived.Test.YtalndpmecmmckaaGen
import Derived.Test.YtalndpmecmmckaaEng3
set_option linter.unusedSimpArgs false
set_option linter.unusedVariables false

/- Points with small coordinates: differences, squares of distances, nearness. -/
namespace Go.Eng.Rt
open Go.Eng

/-- m / D with the size of m at most k. -/
def Ez (D k : Nat) (q : Rat) : Prop := ∃ m : Int, m.natAbs ≤ k ∧ q = mkRat m D
theorem Ez.zero {D k : Nat} : Ez D k 0 := ⟨0, by simp, by simp [Rat.zero_mkRat]⟩
theorem Ez.mono {D a b : Nat} {q : Rat} (h : Ez D a q) (hab : a ≤ b) : Ez D b q := by
  obtain ⟨m, hm, e⟩ := h; exact ⟨m, by omega, e⟩
theorem Ez.add {D a b : Nat} {p q : Rat} (hD : D ≠ 0) (hp : Ez D a p) (hq : Ez D b q) : Ez D (a + b) (p + q) := by
  obtain ⟨m, hm, rfl⟩ := hp
  obtain ⟨n, hn, rfl⟩ := hq
  refine ⟨m + n, by omega, ?_⟩
  rw [Rat.mkRat_add_mkRat _ _ hD hD, Rat.mkRat_eq_iff (Nat.mul_ne_zero hD hD) hD]
  push_cast
  rw [← Int.add_mul, Int.mul_assoc]
theorem Ez.neg {D a : Nat} {q : Rat} (hq : Ez D a q) : Ez D a (-q) := by
  obtain ⟨n, hn, rfl⟩ := hq
  exact ⟨-n, by omega, by rw [Rat.neg_mkRat]⟩
theorem Ez.sub {D a b : Nat} {p q : Rat} (hD : D ≠ 0) (hp : Ez D a p) (hq : Ez D b q) : Ez D (a + b) (p - q) := by
  rw [Rat.sub_eq_add_neg]; exact hp.add hD hq.neg
theorem Ez.mul {D E a b : Nat} {p q : Rat} (hD : D ≠ 0) (hE : E ≠ 0) (hp : Ez D a p) (hq : Ez E b q) : Ez (D * E) (a * b) (p * q) := by
  obtain ⟨m, hm, rfl⟩ := hp
  obtain ⟨n, hn, rfl⟩ := hq
  refine ⟨m * n, ?_, by rw [Rat.mkRat_mul_mkRat]⟩
  rw [Int.natAbs_mul]
  exact Nat.mul_le_mul hm hn
theorem Ez.sm {D k : Nat} {q : Rat} (hD : D ≠ 0) (hD' : D < 2147483648) (hk : k < 2147483648) (h : Ez D k q) : Sm q := by
  obtain ⟨m, hm, rfl⟩ := h
  have e : m = sg (decide (m < 0)) m.natAbs := by
    unfold sg
    by_cases h : m < 0
    · rw [decide_eq_true h]; simp; omega
    · rw [decide_eq_false h]; simp; omega
  constructor
  · rw [e, mk_abs _ hD]
    exact Nat.lt_of_le_of_lt (Nat.div_le_self _ _) (by omega)
  · rw [mk_den hD]
    exact Nat.lt_of_le_of_lt (Nat.div_le_self _ _) hD'
theorem Ez.frac {n : Int} {d D k : Nat} (hd : d ≠ 0) (hD : D ≠ 0) (hdD : d ∣ D) (h : n.natAbs * (D / d) ≤ k) : Ez D k (mkRat n d) := by
  refine ⟨n * ((D / d : Nat) : Int), by rw [Int.natAbs_mul, Int.natAbs_natCast]; exact h, ?_⟩
  rw [Rat.mkRat_eq_iff hd hD]
  obtain ⟨c, rfl⟩ := hdD
  rw [Nat.mul_div_cancel_left _ (Nat.pos_of_ne_zero hd)]
  push_cast
  rw [Int.mul_assoc, Int.mul_comm (c : Int) d]

structure Pt where
  x : Rat
  y : Rat
  z : Rat
def SmP (p : Pt) : Prop := Ez 16 400 p.x ∧ Ez 16 400 p.y ∧ Ez 16 400 p.z
theorem ez_sm {q : Rat} (h : Ez 16 400 q) : Sm q := h.sm (by decide) (by decide) (by decide)
theorem ez2_sm {q : Rat} (h : Ez 16 800 q) : Sm q := h.sm (by decide) (by decide) (by decide)
theorem ez4_sm {q : Rat} {k : Nat} (hk : k ≤ 1920000) (h : Ez 256 k q) : Sm q := h.sm (by decide) (by decide) (by omega)
theorem dif {p q : Rat} (hp : Ez 16 400 p) (hq : Ez 16 400 q) : Ez 16 800 (p - q) := hp.sub (by decide) hq
theorem sqr {p : Rat} (hp : Ez 16 800 p) : Ez 256 640000 (p * p) := (hp.mul (by decide) (by decide) hp)
theorem p_Add0 {q : Rat} (hq : Sm q) : u_rational_Add (false, ([], ([], (rNeg q, (rNum q, (rDen q, ())))))) = some (rNeg q, (rNum q, (rDen q, ()))) := by
  have := p_Add Sm.zero hq
  rw [rNeg_zero, rNum_zero, rDen_zero, Rat.zero_add] at this
  exact this
theorem r_QAdd0 {q : Rat} (hq : Sm q) : u_ref02_Add (false, ([], ([], (rNeg q, (rNum q, (rDen q, ())))))) = some (rNeg q, (rNum q, (rDen q, ()))) := by
  have := r_QAdd Sm.zero hq
  rw [rNeg_zero, rNum_zero, rDen_zero, Rat.zero_add] at this
  exact this
def sq (p q : Pt) : Rat := (p.x - q.x) * (p.x - q.x) + (p.y - q.y) * (p.y - q.y) + (p.z - q.z) * (p.z - q.z)
theorem sq_ez {p q : Pt} (hp : SmP p) (hq : SmP q) : Ez 256 1920000 (sq p q) :=
  (((sqr (dif hp.1 hq.1)).add (by decide) (sqr (dif hp.2.1 hq.2.1))).add (by decide) (sqr (dif hp.2.2 hq.2.2)))
theorem sq_sm {p q : Pt} (hp : SmP p) (hq : SmP q) : Sm (sq p q) := ez4_sm (by decide) (sq_ez hp hq)
theorem p_square {p q : Pt} (hp : SmP p) (hq : SmP q) :
    u_sew_square (rNeg p.x, (rNum p.x, (rDen p.x, (rNeg p.y, (rNum p.y, (rDen p.y, (rNeg p.z, (rNum p.z, (rDen p.z, (rNeg q.x, (rNum q.x, (rDen q.x, (rNeg q.y, (rNum q.y, (rDen q.y, (rNeg q.z, (rNum q.z, (rDen q.z, ())))))))))))))))))) =
      some (rNeg (sq p q), (rNum (sq p q), (rDen (sq p q), ()))) := by
  have d1 := dif hp.1 hq.1
  have d2 := dif hp.2.1 hq.2.1
  have d3 := dif hp.2.2 hq.2.2
  have s12 := (sqr d1).add (by decide) (sqr d2)
  unfold u_sew_square u_vector_Sub u_vector_each_Sub u_vector_Dot
  simp only [p_Sub (ez_sm hp.1) (ez_sm hq.1), p_Sub (ez_sm hp.2.1) (ez_sm hq.2.1), p_Sub (ez_sm hp.2.2) (ez_sm hq.2.2), obS, onS_l, p_Mul (ez2_sm d1) (ez2_sm d1), p_Mul (ez2_sm d2) (ez2_sm d2), p_Mul (ez2_sm d3) (ez2_sm d3),
    p_Add0 (ez4_sm (by decide) (sqr d1)), p_Add (ez4_sm (by decide) (sqr d1)) (ez4_sm (by decide) (sqr d2)), p_Add (ez4_sm (by decide) s12) (ez4_sm (by decide) (sqr d3))]
  rfl
theorem r_square {p q : Pt} (hp : SmP p) (hq : SmP q) :
    u_ref41_square (rNeg p.x, (rNum p.x, (rDen p.x, (rNeg p.y, (rNum p.y, (rDen p.y, (rNeg p.z, (rNum p.z, (rDen p.z, (rNeg q.x, (rNum q.x, (rDen q.x, (rNeg q.y, (rNum q.y, (rDen q.y, (rNeg q.z, (rNum q.z, (rDen q.z, ())))))))))))))))))) =
      some (rNeg (sq p q), (rNum (sq p q), (rDen (sq p q), ()))) := by
  have d1 := dif hp.1 hq.1
  have d2 := dif hp.2.1 hq.2.1
  have d3 := dif hp.2.2 hq.2.2
  have s12 := (sqr d1).add (by decide) (sqr d2)
  unfold u_ref41_square u_ref04_Sub u_ref04_Dot
  simp only [r_QSub (ez_sm hp.1) (ez_sm hq.1), r_QSub (ez_sm hp.2.1) (ez_sm hq.2.1), r_QSub (ez_sm hp.2.2) (ez_sm hq.2.2), obS, onS_l, r_QMul (ez2_sm d1) (ez2_sm d1), r_QMul (ez2_sm d2) (ez2_sm d2), r_QMul (ez2_sm d3) (ez2_sm d3),
    r_QAdd0 (ez4_sm (by decide) (sqr d1)), r_QAdd (ez4_sm (by decide) (sqr d1)) (ez4_sm (by decide) (sqr d2)), r_QAdd (ez4_sm (by decide) s12) (ez4_sm (by decide) (sqr d3))]
  rfl
/-- The square of a tolerance; a negative one counts as 0. -/
def lim2 (t : Rat) : Rat := maxQ t 0 * maxQ t 0
theorem maxQ_ez {D k : Nat} {t : Rat} (h : Ez D k t) : Ez D k (maxQ t 0) := by
  unfold maxQ
  split
  · exact Ez.zero
  · exact h
def nearB (t : Rat) (p q : Pt) : Bool := decide (cmpQ (sq p q) (lim2 t) ≤ 0)
theorem p_limit {t : Rat} (ht : Ez 16 400 t) : u_sew_limit (rNeg t, (rNum t, (rDen t, ()))) = some (rNeg (lim2 t), (rNum (lim2 t), (rDen (lim2 t), ()))) := by
  have h1 := p_Max (ez_sm ht) Sm.zero
  rw [rNeg_zero, rNum_zero, rDen_zero] at h1
  have hm := ez_sm (maxQ_ez ht)
  unfold u_sew_limit
  simp only [h1, obS, p_Mul hm hm]
  rfl
theorem lim2_sm {t : Rat} (ht : Ez 16 400 t) : Sm (lim2 t) := by
  have := maxQ_ez ht
  exact (this.mul (by decide) (by decide) this).sm (by decide) (by decide) (by decide)
theorem p_near {t : Rat} (ht : Ez 16 400 t) {p q : Pt} (hp : SmP p) (hq : SmP q) :
    u_sew_near (rNeg p.x, (rNum p.x, (rDen p.x, (rNeg p.y, (rNum p.y, (rDen p.y, (rNeg p.z, (rNum p.z, (rDen p.z, (rNeg q.x, (rNum q.x, (rDen q.x, (rNeg q.y, (rNum q.y, (rDen q.y, (rNeg q.z, (rNum q.z, (rDen q.z, (rNeg (lim2 t), (rNum (lim2 t), (rDen (lim2 t), ()))))))))))))))))))))) =
      some (nearB t p q, ()) := by
  unfold u_sew_near nearB
  simp only [p_square hp hq, obS, p_Cmp (sq_sm hp hq) (lim2_sm ht), leI_eq]
theorem r_near {t : Rat} (ht : Ez 16 400 t) {p q : Pt} (hp : SmP p) (hq : SmP q) :
    u_ref41_near (rNeg p.x, (rNum p.x, (rDen p.x, (rNeg p.y, (rNum p.y, (rDen p.y, (rNeg p.z, (rNum p.z, (rDen p.z, (rNeg q.x, (rNum q.x, (rDen q.x, (rNeg q.y, (rNum q.y, (rDen q.y, (rNeg q.z, (rNum q.z, (rDen q.z, (rNeg t, (rNum t, (rDen t, ()))))))))))))))))))))) =
      some (nearB t p q, ()) := by
  have h1 := r_QMax (ez_sm ht) Sm.zero
  rw [rNeg_zero, rNum_zero, rDen_zero] at h1
  have hm := ez_sm (maxQ_ez ht)
  unfold u_ref41_near nearB
  simp only [h1, r_square hp hq, obS, r_QMul hm hm]
  have e : maxQ t 0 * maxQ t 0 = lim2 t := rfl
  rw [e]
  simp only [r_QCmp (sq_sm hp hq) (lim2_sm ht), obS, leI_eq]
theorem near_symm (t : Rat) (p q : Pt) : nearB t p q = nearB t q p := by
  unfold nearB
  have : sq p q = sq q p := by
    unfold sq
    have e : ∀ a b : Rat, (a - b) * (a - b) = (b - a) * (b - a) := fun a b => by grind
    rw [e p.x, e p.y, e p.z]
  rw [this]
end Go.Eng.Rt

/- What the dice give. -/
namespace Go.Eng
theorem tmod_lo (a : Int) {b : Int} (h : 0 < b) : -b < a.tmod b := by
  rcases Int.lt_or_le a 0 with ha | ha
  · have h1 : (-(-a)).tmod b = -((-a).tmod b) := Int.neg_tmod (-a) b
    rw [Int.neg_neg] at h1
    have h2 : (-a).tmod b < b := by rw [Int.tmod_eq_emod_of_nonneg (by omega)]; exact Int.emod_lt_of_pos _ h
    omega
  · have : 0 ≤ a.tmod b := by rw [Int.tmod_eq_emod_of_nonneg ha]; exact Int.emod_nonneg _ (by omega)
    omega
theorem tmod_hi (a : Int) {b : Int} (h : 0 < b) : a.tmod b < b := by
  rcases Int.lt_or_le a 0 with ha | ha
  · have h1 : (-(-a)).tmod b = -((-a).tmod b) := Int.neg_tmod (-a) b
    rw [Int.neg_neg] at h1
    have h2 : 0 ≤ (-a).tmod b := by rw [Int.tmod_eq_emod_of_nonneg (by omega)]; exact Int.emod_nonneg _ (by omega)
    omega
  · rw [Int.tmod_eq_emod_of_nonneg ha]; exact Int.emod_lt_of_pos _ h
def modV (a n : Int) : Int := if a.tmod n < 0 then a.tmod n + n else a.tmod n
theorem modV_lo (a : Int) {n : Int} (h : 0 < n) : 0 ≤ modV a n := by
  unfold modV
  have := tmod_lo a h
  split <;> omega
theorem modV_hi (a : Int) {n : Int} (h : 0 < n) : modV a n < n := by
  unfold modV
  have := tmod_hi a h
  split <;> omega
theorem s_Mod (a : Int) {n : Int} (h1 : 0 < n) (h2 : n ≤ 4611686018427387904) : u_brepkernelmade_Mod (a, (n, ())) = some (modV a n, ()) := by
  unfold u_brepkernelmade_Mod modV
  have := tmod_lo a h1
  have := tmod_hi a h1
  rw [nz_eq (show n ≠ 0 by omega)]
  simp only [obS, modI_eq, ltI_eq, addI_eq]
  by_cases h : a.tmod n < 0
  · rw [decide_eq_true h, if_pos h, wr64 (by omega) (by omega)]; rfl
  · rw [decide_eq_false h, if_neg h]; rfl

def intT (z : Int) : T := .v (.int .i64 z)
/-- The dice: numbers, and a place among them. -/
def DiceOK (L : List T) (a : Int) : Prop := ∃ zs : List Int, L = zs.map intT ∧ zs.length ≤ 1000000 ∧ 0 ≤ a ∧ a ≤ zs.length
theorem s_Next {L : List T} {a : Int} (h : DiceOK L a) {n : Int} (h1 : 0 < n) (h2 : n ≤ 4611686018427387904) :
    ∃ v a', u___brepkernelmade_Dice__Next ((), (n, (L, (a, ())))) = some (v, (L, (a', ()))) ∧ 0 ≤ v ∧ v < n ∧ DiceOK L a' := by
  obtain ⟨zs, rfl, hz, ha0, ha1⟩ := h
  unfold u___brepkernelmade_Dice__Next
  simp only [leI_eq, lenL_eq, List.length_map, addI_eq, subI_eq]
  by_cases hc : (zs.length : Int) ≤ a
  · rw [decide_eq_true hc]
    exact ⟨0, a, rfl, Int.le_refl _, h1, zs, rfl, hz, ha0, ha1⟩
  · rw [decide_eq_false hc]
    obtain ⟨i, rfl⟩ := Int.eq_ofNat_of_zero_le ha0
    have hi : i < zs.length := by omega
    rw [wr64 (n := (i : Int) + 1) (by omega) (by omega), wr64 (n := (i : Int) + 1 - 1) (by omega) (by omega), Int.add_sub_cancel, idxL_nat, List.getElem?_map, List.getElem?_eq_getElem hi]
    simp only [cond_false, Option.map_some, obS, intT, T_cell_v, T_int, s_Mod _ h1 h2]
    exact ⟨_, _, rfl, modV_lo _ h1, modV_hi _ h1, zs, rfl, hz, by omega, by omega⟩
theorem s_Light (L : List T) : u_brepkernelmade_Light (L, ()) = some (decide (L.length ≤ 500), ()) := by
  unfold u_brepkernelmade_Light
  simp only [leI_eq, lenL_eq]
  congr 2
  rw [Bool.eq_iff_iff]; simp; omega
theorem s_Roll (L : List T) : u_brepkernelmade_Roll (L, ()) = some (L, (0, ())) := rfl
end Go.Eng

/- The points that the dice make. -/
namespace Go.Eng.Rt
open Go.Eng

def ptT (p : Pt) : T := .agg [.v (.bool (rNeg p.x)), .sl 1 (rNum p.x), .sl 1 (rDen p.x), .v (.bool (rNeg p.y)), .sl 1 (rNum p.y), .sl 1 (rDen p.y), .v (.bool (rNeg p.z)), .sl 1 (rNum p.z), .sl 1 (rDen p.z)]
def PtK (K : Nat) (p : Pt) : Prop := Ez 16 K p.x ∧ Ez 16 K p.y ∧ Ez 16 K p.z
theorem PtK.mono {a b : Nat} {p : Pt} (h : PtK a p) (hab : a ≤ b) : PtK b p := ⟨h.1.mono hab, h.2.1.mono hab, h.2.2.mono hab⟩
theorem PtK.smp {K : Nat} {p : Pt} (h : PtK K p) (hK : K ≤ 400) : SmP p := h.mono hK
theorem d_Bool {L : List T} {a : Int} (h : DiceOK L a) {n : Int} (h1 : 0 < n) (h2 : n ≤ 4611686018427387904) : ∃ b a', u___brepkernelmade_Dice__Bool ((), (n, (L, (a, ())))) = some (b, (L, (a', ()))) ∧ DiceOK L a' := by
  obtain ⟨v, a', e, _, _, h'⟩ := s_Next h h1 h2
  unfold u___brepkernelmade_Dice__Bool
  rw [e]
  exact ⟨_, a', rfl, h'⟩
theorem int_ez {v : Int} (h0 : 0 ≤ v) (h1 : v < 5) : Ez 16 80 (v : Rat) := by
  have := Ez.frac (n := v) (d := 1) (D := 16) (k := 80) (by decide) (by decide) (by decide) (by simp; omega)
  rw [Rat.mkRat_one] at this
  exact this
theorem half_ez {v : Int} (h0 : 0 ≤ v) (h1 : v < 9) : Ez 16 80 (fracQ v 2) := by
  rw [fracQ_pos (by omega)]
  exact Ez.frac (by decide) (by decide) (by decide) (by simp; omega)
theorem d_Spot {L : List T} {a : Int} (hD : DiceOK L a) : ∃ (p : Pt) (a' : Int), u___brepkernelmade_Dice__Spot ((), (L, (a, ()))) =
    some (rNeg p.x, (rNum p.x, (rDen p.x, (rNeg p.y, (rNum p.y, (rDen p.y, (rNeg p.z, (rNum p.z, (rDen p.z, (L, (a', ()))))))))))) ∧ DiceOK L a' ∧ PtK 80 p := by
  unfold u___brepkernelmade_Dice__Spot
  obtain ⟨v0, _, e0, p0, q0, D0a⟩ := s_Next hD (n := 5) (by omega) (by omega)
  have i0 := r_Int (n := v0) (by omega) (by omega)
  obtain ⟨b0, _, f0, D0b⟩ := d_Bool D0a (n := 4) (by omega) (by omega)
  simp only [e0, i0, f0, obS]
  cases b0 with
  | true =>
    obtain ⟨w0, _, g0, r0, t0, D0c⟩ := s_Next D0b (n := 9) (by omega) (by omega)
    have j0 := r_Frac (n := w0) (d := 2) (by omega) (by omega) (by omega) (by omega) (by omega)
    simp only [cond_true, g0, j0, obS, onS_l]
    obtain ⟨v1, _, e1, p1, q1, D1a⟩ := s_Next D0c (n := 5) (by omega) (by omega)
    have i1 := r_Int (n := v1) (by omega) (by omega)
    obtain ⟨b1, _, f1, D1b⟩ := d_Bool D1a (n := 4) (by omega) (by omega)
    simp only [e1, i1, f1, obS]
    cases b1 with
    | true =>
      obtain ⟨w1, _, g1, r1, t1, D1c⟩ := s_Next D1b (n := 9) (by omega) (by omega)
      have j1 := r_Frac (n := w1) (d := 2) (by omega) (by omega) (by omega) (by omega) (by omega)
      simp only [cond_true, g1, j1, obS, onS_l]
      obtain ⟨v2, _, e2, p2, q2, D2a⟩ := s_Next D1c (n := 5) (by omega) (by omega)
      have i2 := r_Int (n := v2) (by omega) (by omega)
      obtain ⟨b2, _, f2, D2b⟩ := d_Bool D2a (n := 4) (by omega) (by omega)
      simp only [e2, i2, f2, obS]
      cases b2 with
      | true =>
        obtain ⟨w2, _, g2, r2, t2, D2c⟩ := s_Next D2b (n := 9) (by omega) (by omega)
        have j2 := r_Frac (n := w2) (d := 2) (by omega) (by omega) (by omega) (by omega) (by omega)
        simp only [cond_true, g2, j2, obS, onS_l]
        exact ⟨⟨fracQ w0 2, fracQ w1 2, fracQ w2 2⟩, _, rfl, D2c, half_ez r0 t0, half_ez r1 t1, half_ez r2 t2⟩
      | false =>
        simp only [cond_false, onS_l, obS]
        exact ⟨⟨fracQ w0 2, fracQ w1 2, (v2 : Rat)⟩, _, rfl, D2b, half_ez r0 t0, half_ez r1 t1, int_ez p2 q2⟩
    | false =>
      simp only [cond_false, onS_l, obS]
      obtain ⟨v2, _, e2, p2, q2, D2a⟩ := s_Next D1b (n := 5) (by omega) (by omega)
      have i2 := r_Int (n := v2) (by omega) (by omega)
      obtain ⟨b2, _, f2, D2b⟩ := d_Bool D2a (n := 4) (by omega) (by omega)
      simp only [e2, i2, f2, obS]
      cases b2 with
      | true =>
        obtain ⟨w2, _, g2, r2, t2, D2c⟩ := s_Next D2b (n := 9) (by omega) (by omega)
        have j2 := r_Frac (n := w2) (d := 2) (by omega) (by omega) (by omega) (by omega) (by omega)
        simp only [cond_true, g2, j2, obS, onS_l]
        exact ⟨⟨fracQ w0 2, (v1 : Rat), fracQ w2 2⟩, _, rfl, D2c, half_ez r0 t0, int_ez p1 q1, half_ez r2 t2⟩
      | false =>
        simp only [cond_false, onS_l, obS]
        exact ⟨⟨fracQ w0 2, (v1 : Rat), (v2 : Rat)⟩, _, rfl, D2b, half_ez r0 t0, int_ez p1 q1, int_ez p2 q2⟩
  | false =>
    simp only [cond_false, onS_l, obS]
    obtain ⟨v1, _, e1, p1, q1, D1a⟩ := s_Next D0b (n := 5) (by omega) (by omega)
    have i1 := r_Int (n := v1) (by omega) (by omega)
    obtain ⟨b1, _, f1, D1b⟩ := d_Bool D1a (n := 4) (by omega) (by omega)
    simp only [e1, i1, f1, obS]
    cases b1 with
    | true =>
      obtain ⟨w1, _, g1, r1, t1, D1c⟩ := s_Next D1b (n := 9) (by omega) (by omega)
      have j1 := r_Frac (n := w1) (d := 2) (by omega) (by omega) (by omega) (by omega) (by omega)
      simp only [cond_true, g1, j1, obS, onS_l]
      obtain ⟨v2, _, e2, p2, q2, D2a⟩ := s_Next D1c (n := 5) (by omega) (by omega)
      have i2 := r_Int (n := v2) (by omega) (by omega)
      obtain ⟨b2, _, f2, D2b⟩ := d_Bool D2a (n := 4) (by omega) (by omega)
      simp only [e2, i2, f2, obS]
      cases b2 with
      | true =>
        obtain ⟨w2, _, g2, r2, t2, D2c⟩ := s_Next D2b (n := 9) (by omega) (by omega)
        have j2 := r_Frac (n := w2) (d := 2) (by omega) (by omega) (by omega) (by omega) (by omega)
        simp only [cond_true, g2, j2, obS, onS_l]
        exact ⟨⟨(v0 : Rat), fracQ w1 2, fracQ w2 2⟩, _, rfl, D2c, int_ez p0 q0, half_ez r1 t1, half_ez r2 t2⟩
      | false =>
        simp only [cond_false, onS_l, obS]
        exact ⟨⟨(v0 : Rat), fracQ w1 2, (v2 : Rat)⟩, _, rfl, D2b, int_ez p0 q0, half_ez r1 t1, int_ez p2 q2⟩
    | false =>
      simp only [cond_false, onS_l, obS]
      obtain ⟨v2, _, e2, p2, q2, D2a⟩ := s_Next D1b (n := 5) (by omega) (by omega)
      have i2 := r_Int (n := v2) (by omega) (by omega)
      obtain ⟨b2, _, f2, D2b⟩ := d_Bool D2a (n := 4) (by omega) (by omega)
      simp only [e2, i2, f2, obS]
      cases b2 with
      | true =>
        obtain ⟨w2, _, g2, r2, t2, D2c⟩ := s_Next D2b (n := 9) (by omega) (by omega)
        have j2 := r_Frac (n := w2) (d := 2) (by omega) (by omega) (by omega) (by omega) (by omega)
        simp only [cond_true, g2, j2, obS, onS_l]
        exact ⟨⟨(v0 : Rat), (v1 : Rat), fracQ w2 2⟩, _, rfl, D2c, int_ez p0 q0, int_ez p1 q1, half_ez r2 t2⟩
      | false =>
        simp only [cond_false, onS_l, obS]
        exact ⟨⟨(v0 : Rat), (v1 : Rat), (v2 : Rat)⟩, _, rfl, D2b, int_ez p0 q0, int_ez p1 q1, int_ez p2 q2⟩
theorem add16 {q : Rat} {K : Nat} (h : Ez 16 K q) (hK : K ≤ 390) {v : Int} (h0 : 0 ≤ v) (h1 : v < 5) :
    (∃ r, u_ref02_Frac (v - 2, ((16 : Int), ())) = some (rNeg r, (rNum r, (rDen r, ()))) ∧ u_ref02_Add (rNeg q, (rNum q, (rDen q, (rNeg r, (rNum r, (rDen r, ())))))) = some (rNeg (q + r), (rNum (q + r), (rDen (q + r), ()))) ∧ Ez 16 (K + 2) (q + r)) := by
  have hr : Ez 16 2 (fracQ (v - 2) 16) := by
    rw [fracQ_pos (by omega)]
    exact Ez.frac (by decide) (by decide) (by decide) (by simp; omega)
  exact ⟨_, r_Frac (by omega) (by omega) (by omega) (by omega) (by omega), r_QAdd (h.sm (by decide) (by decide) (by omega)) (hr.sm (by decide) (by decide) (by decide)), h.add (by decide) hr⟩
theorem points_step {L : List T} {a : Int} (hD : DiceOK L a) {p : Pt} {K : Nat} (hp : PtK K p) (hK : K ≤ 390) {ps : List Pt} (hl : ps.length < 1000) {i k : Int} (hk : 0 < k) (hk2 : k < 10) :
    ∃ (p' : Pt) (a' : Int), u_brepkernellaw41_points_l1 ((), (ps.map ptT, (i, ((), (k, (L, (a, (rNeg p.x, (rNum p.x, (rDen p.x, (rNeg p.y, (rNum p.y, (rDen p.y, (rNeg p.z, (rNum p.z, (rDen p.z, ())))))))))))))))) =
      some (.inl ((), ((ps ++ [p']).map ptT, (i, ((), (k - 1, (L, (a', (rNeg p'.x, (rNum p'.x, (rDen p'.x, (rNeg p'.y, (rNum p'.y, (rDen p'.y, (rNeg p'.z, (rNum p'.z, (rDen p'.z, ()))))))))))))))))) ∧ DiceOK L a' ∧ PtK (K + 2) p' := by
  obtain ⟨m, a1, e1, p1, q1, D1⟩ := s_Next hD (n := 3) (by omega) (by omega)
  obtain ⟨n, a2, e2, p2, q2, D2⟩ := s_Next D1 (n := 3) (by omega) (by omega)
  obtain ⟨v, a3, e3, p3, q3, D3⟩ := s_Next D2 (n := 5) (by omega) (by omega)
  obtain ⟨hx, hy, hz⟩ := hp
  have wk : wr .i64 (k - 1) = k - 1 := wri' (by omega) (by omega)
  have wv : wr .i64 (v - 2) = v - 2 := wri' (by omega) (by omega)
  have hroom : ∀ t : T, room (ps.map ptT) [t] 168 = some (ps.map ptT ++ [t]) := fun t => room_ok (by simp; omega) (by decide)
  have d00 : decide ((0 : Int) = 0) = true := rfl
  have d10 : decide ((1 : Int) = 0) = false := rfl
  have d20 : decide ((2 : Int) = 0) = false := rfl
  have d11 : decide ((1 : Int) = 1) = true := rfl
  have d21 : decide ((2 : Int) = 1) = false := rfl
  have d22 : decide ((2 : Int) = 2) = true := rfl
  unfold u_brepkernellaw41_points_l1
  simp only [ltI_eq, subI_eq]
  rw [decide_eq_true hk]
  simp only [cond_true, e1, e2, e3, obS, wk, wv, eqI_eq]
  have hm : m = 0 ∨ m = 1 ∨ m = 2 := by omega
  have hn : n = 0 ∨ n = 1 ∨ n = 2 := by omega
  rcases hn with rfl | rfl | rfl
  · obtain ⟨r, g1, g2, g3⟩ := add16 hx hK p3 q3
    rcases hm with rfl | rfl | rfl
    · exact ⟨⟨p.x + r, p.y, p.z⟩, a3, by
        simp only [d00, d10, d20, d11, d21, d22, cond_true, cond_false, e3, obS, wv, g1, g2, hroom]
        simp [ptT], D3, g3, hy.mono (by omega), hz.mono (by omega)⟩
    · exact ⟨⟨p.x, p.x + r, p.z⟩, a3, by
        simp only [d00, d10, d20, d11, d21, d22, cond_true, cond_false, e3, obS, wv, g1, g2, hroom]
        simp [ptT], D3, hx.mono (by omega), g3, hz.mono (by omega)⟩
    · exact ⟨⟨p.x, p.y, p.x + r⟩, a3, by
        simp only [d00, d10, d20, d11, d21, d22, cond_true, cond_false, e3, obS, wv, g1, g2, hroom]
        simp [ptT], D3, hx.mono (by omega), hy.mono (by omega), g3⟩
  · obtain ⟨r, g1, g2, g3⟩ := add16 hy hK p3 q3
    rcases hm with rfl | rfl | rfl
    · exact ⟨⟨p.y + r, p.y, p.z⟩, a3, by
        simp only [d00, d10, d20, d11, d21, d22, cond_true, cond_false, e3, obS, wv, g1, g2, hroom]
        simp [ptT], D3, g3, hy.mono (by omega), hz.mono (by omega)⟩
    · exact ⟨⟨p.x, p.y + r, p.z⟩, a3, by
        simp only [d00, d10, d20, d11, d21, d22, cond_true, cond_false, e3, obS, wv, g1, g2, hroom]
        simp [ptT], D3, hx.mono (by omega), g3, hz.mono (by omega)⟩
    · exact ⟨⟨p.x, p.y, p.y + r⟩, a3, by
        simp only [d00, d10, d20, d11, d21, d22, cond_true, cond_false, e3, obS, wv, g1, g2, hroom]
        simp [ptT], D3, hx.mono (by omega), hy.mono (by omega), g3⟩
  · obtain ⟨r, g1, g2, g3⟩ := add16 hz hK p3 q3
    rcases hm with rfl | rfl | rfl
    · exact ⟨⟨p.z + r, p.y, p.z⟩, a3, by
        simp only [d00, d10, d20, d11, d21, d22, cond_true, cond_false, e3, obS, wv, g1, g2, hroom]
        simp [ptT], D3, g3, hy.mono (by omega), hz.mono (by omega)⟩
    · exact ⟨⟨p.x, p.z + r, p.z⟩, a3, by
        simp only [d00, d10, d20, d11, d21, d22, cond_true, cond_false, e3, obS, wv, g1, g2, hroom]
        simp [ptT], D3, hx.mono (by omega), g3, hz.mono (by omega)⟩
    · exact ⟨⟨p.x, p.y, p.z + r⟩, a3, by
        simp only [d00, d10, d20, d11, d21, d22, cond_true, cond_false, e3, obS, wv, g1, g2, hroom]
        simp [ptT], D3, hx.mono (by omega), hy.mono (by omega), g3⟩
theorem points_loop {L : List T} {K0 : Nat} {i : Int} : ∀ (k : Nat) {a : Int} (_ : DiceOK L a) {p : Pt} (_ : PtK K0 p) (_ : K0 + 2 * k ≤ 390) {ps : List Pt} (_ : ps.length + k < 1000) (_ : ∀ q ∈ ps, SmP q), k < 10 →
    ∃ (qs : List Pt) (a' : Int), loopU u_brepkernellaw41_points_l1 ((), (ps.map ptT, (i, ((), ((k : Int), (L, (a, (rNeg p.x, (rNum p.x, (rDen p.x, (rNeg p.y, (rNum p.y, (rDen p.y, (rNeg p.z, (rNum p.z, (rDen p.z, ())))))))))))))))) =
      some (.inl ((), (qs.map ptT, (i, (L, (a', ())))))) ∧ DiceOK L a' ∧ qs.length = ps.length + k ∧ ∀ q ∈ qs, SmP q := by
  intro k
  induction k generalizing K0 with
  | zero =>
    intro a hD p hp hK ps hl hS _
    refine ⟨ps, a, loopU_out ?_, hD, rfl, hS⟩
    unfold u_brepkernellaw41_points_l1
    simp only [ltI_eq]
    rw [decide_eq_false (by omega)]; rfl
  | succ k ih =>
    intro a hD p hp hK ps hl hS hk
    obtain ⟨p', a', e, D', hp'⟩ := points_step hD hp (by omega) (ps := ps) (by omega) (i := i) (k := ((k + 1 : Nat) : Int)) (by omega) (by omega)
    rw [show ((k + 1 : Nat) : Int) - 1 = (k : Int) by omega] at e
    obtain ⟨qs, a2, h1, h2, h3, h4⟩ := ih D' hp' (by omega) (ps := ps ++ [p']) (by simp; omega) (fun q hq => by
      rcases List.mem_append.1 hq with hq | hq
      · exact hS q hq
      · simp at hq; subst hq; exact hp'.smp (by omega)) (by omega)
    exact ⟨qs, a2, by rw [loopU_go e, h1], h2, by rw [h3]; simp; omega, h4⟩
theorem d_points {L : List T} {a : Int} (hD : DiceOK L a) : ∃ (ps : List Pt) (a' : Int), u_brepkernellaw41_points ((), (L, (a, ()))) = some (ps.map ptT, (L, (a', ()))) ∧ DiceOK L a' ∧ 0 < ps.length ∧ ps.length ≤ 30 ∧ ∀ q ∈ ps, SmP q := by
  obtain ⟨v, a0, e0, p0, q0, D0⟩ := s_Next hD (n := 6) (by omega) (by omega)
  have outer : ∀ (d : Nat) (ps : List Pt) (a : Int), ps.length + 3 * d ≤ 30 → (0 < ps.length ∨ 0 < d) → DiceOK L a → (∀ q ∈ ps, SmP q) → ∃ (qs : List Pt) (a' : Int), loopU u_brepkernellaw41_points_l0 ((), (ps.map ptT, ((d : Int) - 1, (L, (a, ()))))) = some (.inl (qs.map ptT, (L, (a', ())))) ∧ DiceOK L a' ∧ 0 < qs.length ∧ qs.length ≤ 30 ∧ ∀ q ∈ qs, SmP q := by
    intro d
    induction d with
    | zero =>
      intro ps a hl h0 hD hS
      refine ⟨ps, a, loopU_out ?_, hD, by omega, by omega, hS⟩
      unfold u_brepkernellaw41_points_l0
      simp only [leI_eq]
      rw [decide_eq_false (by omega)]; rfl
    | succ d ih =>
      intro ps a hl h0 hD hS
      obtain ⟨p, a1, e1, D1, hp⟩ := d_Spot hD
      obtain ⟨k, a2, e2, p2, q2, D2⟩ := s_Next D1 (n := 3) (by omega) (by omega)
      obtain ⟨k', rfl⟩ := Int.eq_ofNat_of_zero_le p2
      obtain ⟨qs, a3, e3, D3, l3, S3⟩ := points_loop (i := ((d + 1 : Nat) : Int) - 1) k' D2 hp (by omega) (ps := ps ++ [p]) (by simp; omega) (fun q hq => by
        rcases List.mem_append.1 hq with hq | hq
        · exact hS q hq
        · simp at hq; subst hq; exact hp.smp (by omega)) (by omega)
      have hroom : ∀ t : T, room (ps.map ptT) [t] 168 = some (ps.map ptT ++ [t]) := fun t => room_ok (by simp; omega) (by decide)
      have happ : ∀ t, t = ptT p → ps.map ptT ++ [t] = (ps ++ [p]).map ptT := fun t ht => by rw [ht]; simp
      have step : u_brepkernellaw41_points_l0 ((), (ps.map ptT, (((d + 1 : Nat) : Int) - 1, (L, (a, ()))))) = some (.inl ((), (qs.map ptT, ((d : Int) - 1, (L, (a3, ())))))) := by
        unfold u_brepkernellaw41_points_l0
        simp only [leI_eq, subI_eq]
        rw [decide_eq_true (by omega)]
        simp only [cond_true, e1, obS, hroom, e2]
        have e4 := e3
        rw [List.map_append] at e4
        have hpt : [p].map ptT = [T.agg [.v (.bool (rNeg p.x)), .sl 1 (rNum p.x), .sl 1 (rDen p.x), .v (.bool (rNeg p.y)), .sl 1 (rNum p.y), .sl 1 (rDen p.y), .v (.bool (rNeg p.z)), .sl 1 (rNum p.z), .sl 1 (rDen p.z)]] := rfl
        rw [hpt] at e4
        rw [e4]
        simp only [obS, onS_l]
        rw [show ((d + 1 : Nat) : Int) - 1 - 1 = (d : Int) - 1 by omega, wri' (by omega) (by omega)]
      rw [loopU_go step]
      exact ih qs a3 (by rw [l3]; simp; omega) (.inl (by rw [l3]; simp only [List.length_append, List.length_cons, List.length_nil]; omega)) D3 S3
  obtain ⟨v', rfl⟩ := Int.eq_ofNat_of_zero_le p0
  obtain ⟨qs, a', h1, h2, h3, h4, h5⟩ := outer (v' + 1) [] a0 (by simp; omega) (.inr (by omega)) D0 (fun q hq => by cases hq)
  refine ⟨qs, a', ?_, h2, h3, h4, h5⟩
  unfold u_brepkernellaw41_points
  rw [e0]
  simp only [obS]
  rw [show ((v' + 1 : Nat) : Int) - 1 = (v' : Int) by omega] at h1
  rw [show ([] : List T) = ([] : List Pt).map ptT from rfl, h1]
  rfl
end Go.Eng.Rt

/- Classes of a relation: the least member, its rank; a search from each point gives them, and so do least labels. Plain. -/
namespace Go.Eng.Cls

section
variable (N : Nat) (r : Nat → Nat → Bool)
/-- A chain of related numbers below N. -/
inductive Conn : Nat → Nat → Prop
  | refl {i : Nat} (h : i < N) : Conn i i
  | step {i j k : Nat} (h : Conn i j) (hr : r j k = true) (hk : k < N) : Conn i k
end
section
variable {N : Nat} {r : Nat → Nat → Bool}
theorem Conn.lt {i j : Nat} (h : Conn N r i j) : i < N ∧ j < N := by
  induction h with
  | refl h => exact ⟨h, h⟩
  | step h hr hk ih => exact ⟨ih.1, hk⟩
theorem Conn.trans {i j k : Nat} (h1 : Conn N r i j) (h2 : Conn N r j k) : Conn N r i k := by
  induction h2 with
  | refl h => exact h1
  | step h hr hk ih => exact .step ih hr hk
theorem Conn.symm (hs : ∀ i j, r i j = r j i) {i j : Nat} (h : Conn N r i j) : Conn N r j i := by
  induction h with
  | refl h => exact .refl h
  | step h hr hk ih =>
    exact (Conn.step (.refl hk) (by rw [hs]; exact hr) h.lt.2).trans ih
theorem exists_least {P : Nat → Prop} {n : Nat} (h : P n) : ∃ m, P m ∧ ∀ k, P k → m ≤ k := by
  induction n using Nat.strongRecOn with
  | _ n ih =>
    by_cases hm : ∃ k, P k ∧ k < n
    · obtain ⟨k, hk, hkn⟩ := hm
      exact ih k hkn hk
    · refine ⟨n, h, fun k hk => ?_⟩
      rcases Nat.lt_or_ge k n with hl | hl
      · exact absurd ⟨k, hk, hl⟩ hm
      · exact hl
open Classical in
/-- The least number of the class. -/
noncomputable def lead (N : Nat) (r : Nat → Nat → Bool) (i : Nat) : Nat := if h : ∃ m, Conn N r i m ∧ ∀ k, Conn N r i k → m ≤ k then Classical.choose h else 0
theorem lead_spec {i : Nat} (h : i < N) : Conn N r i (lead N r i) ∧ ∀ k, Conn N r i k → lead N r i ≤ k := by
  unfold lead
  have hx : ∃ m, Conn N r i m ∧ ∀ k, Conn N r i k → m ≤ k := exists_least (P := Conn N r i) (.refl h)
  rw [dif_pos hx]
  exact Classical.choose_spec hx
theorem lead_le {i : Nat} (h : i < N) : lead N r i ≤ i := (lead_spec h).2 i (.refl h)
theorem lead_eq (hs : ∀ i j, r i j = r j i) {i j : Nat} (h : Conn N r i j) : lead N r i = lead N r j := by
  obtain ⟨hi, hj⟩ := h.lt
  obtain ⟨a1, a2⟩ := lead_spec (r := r) hi
  obtain ⟨b1, b2⟩ := lead_spec (r := r) hj
  exact Nat.le_antisymm (a2 _ (h.trans b1)) (b2 _ ((h.symm hs).trans a1))
theorem conn_of_lead (hs : ∀ i j, r i j = r j i) {i j : Nat} (hi : i < N) (hj : j < N) (h : lead N r i = lead N r j) : Conn N r i j :=
  (lead_spec hi).1.trans (by rw [h]; exact (lead_spec hj).1.symm hs)
theorem lead_lead (hs : ∀ i j, r i j = r j i) {i : Nat} (h : i < N) : lead N r (lead N r i) = lead N r i := (lead_eq hs (lead_spec h).1).symm
open Classical in
/-- How many least numbers lie below. -/
noncomputable def rank (N : Nat) (r : Nat → Nat → Bool) : Nat → Nat
  | 0 => 0
  | l + 1 => rank N r l + if lead N r l = l then 1 else 0
noncomputable def cls (N : Nat) (r : Nat → Nat → Bool) (i : Nat) : Nat := rank N r (lead N r i)
theorem rank_mono {a b : Nat} (h : a ≤ b) : rank N r a ≤ rank N r b := by
  induction b with
  | zero => have : a = 0 := by omega
            subst this; exact Nat.le_refl _
  | succ b ih =>
    rcases Nat.lt_or_ge a (b + 1) with hl | hl
    · have := ih (by omega)
      simp only [rank]; omega
    · have : a = b + 1 := by omega
      subst this; exact Nat.le_refl _
theorem rank_lt {a b : Nat} (ha : lead N r a = a) (h : a < b) : rank N r a < rank N r b := by
  have h1 : rank N r (a + 1) ≤ rank N r b := rank_mono h
  simp only [rank, ha, if_true] at h1
  omega
theorem rank_le (l : Nat) : rank N r l ≤ l := by
  induction l with
  | zero => exact Nat.le_refl _
  | succ l ih => simp only [rank]; split <;> omega
theorem cls_eq (hs : ∀ i j, r i j = r j i) {i j : Nat} (hi : i < N) (hj : j < N) : cls N r i = cls N r j ↔ Conn N r i j := by
  constructor
  · intro h
    refine conn_of_lead hs hi hj ?_
    unfold cls at h
    have a := lead_lead (r := r) hs hi
    have b := lead_lead (r := r) hs hj
    rcases Nat.lt_trichotomy (lead N r i) (lead N r j) with hl | hl | hl
    · have := rank_lt (N := N) (r := r) a hl; omega
    · exact hl
    · have := rank_lt (N := N) (r := r) b hl; omega
  · intro h; unfold cls; rw [lead_eq hs h]

/-! the search -/
/-- What is known of the search from i, with class n: out is -1 or the class. -/
structure Seek (N : Nat) (r : Nat → Nat → Bool) (i : Nat) (out : List Int) (todo : List Nat) : Prop where
  len : out.length = N
  lo : ∀ k, k < N → lead N r k < i → out[k]? = some (cls N r k : Int)
  hi : ∀ k, k < N → i < lead N r k → out[k]? = some (-1)
  mid : ∀ k, k < N → lead N r k = i → out[k]? = some (-1) ∨ out[k]? = some (rank N r i : Int)
  todo : ∀ k, k ∈ todo → k < N ∧ lead N r k = i ∧ out[k]? = some (rank N r i : Int)
/-- Whoever has the class and waits no more has handed it to all that are near. -/
def Done (N : Nat) (r : Nat → Nat → Bool) (i : Nat) (out : List Int) (todo : List Nat) : Prop :=
  ∀ k, k < N → lead N r k = i → out[k]? = some (rank N r i : Int) → k ∉ todo → ∀ q, q < N → r k q = true → out[q]? ≠ some (-1)
/-- One point k is looked at from p. -/
def look1 (r : Nat → Nat → Bool) (p : Nat) (n : Int) (s : List Int × List Nat) (k : Nat) : List Int × List Nat :=
  if s.1.getD k 0 < 0 ∧ r p k = true then (s.1.set k n, s.2 ++ [k]) else s
def lookAll (r : Nat → Nat → Bool) (p : Nat) (n : Int) (s : List Int × List Nat) (m : Nat) : List Int × List Nat := (List.range m).foldl (look1 r p n) s
theorem lookAll_succ (r : Nat → Nat → Bool) (p : Nat) (n : Int) (s : List Int × List Nat) (m : Nat) : lookAll r p n s (m + 1) = look1 r p n (lookAll r p n s m) m := by
  unfold lookAll; rw [List.range_succ, List.foldl_append]; rfl
def free (out : List Int) : Nat := (out.filter (· < 0)).length
theorem free_set {out : List Int} {k : Nat} {n : Int} (hk : out[k]? = some (-1)) (hn : 0 ≤ n) : free (out.set k n) + 1 = free out := by
  induction out generalizing k with
  | nil => simp at hk
  | cons x out ih =>
    cases k with
    | zero =>
      simp only [List.getElem?_cons_zero, Option.some.injEq] at hk
      subst hk
      have e : decide (n < 0) = false := decide_eq_false (by omega)
      simp [free, List.filter_cons, e]
    | succ k =>
      simp only [List.getElem?_cons_succ] at hk
      have := ih hk
      unfold free at this ⊢
      simp only [List.set_cons_succ, List.filter_cons]
      split
      · simp only [List.length_cons]; omega
      · exact this
theorem Seek.cases {i : Nat} {out : List Int} {todo : List Nat} (h : Seek N r i out todo) {k : Nat} (hk : k < N) : (out[k]? = some (-1) ∧ i ≤ lead N r k) ∨ ∃ m : Nat, out[k]? = some (m : Int) := by
  rcases Nat.lt_trichotomy (lead N r k) i with hl | hl | hl
  · exact .inr ⟨_, h.lo k hk hl⟩
  · rcases h.mid k hk hl with h1 | h1
    · exact .inl ⟨h1, by omega⟩
    · exact .inr ⟨_, h1⟩
  · exact .inl ⟨h.hi k hk hl, by omega⟩
/-- Looking at all points from one of the class. -/
theorem look_inv (hs : ∀ i j, r i j = r j i) {i p : Nat} {out : List Int} {todo : List Nat} (hp : p < N) (hpi : lead N r p = i) (hpo : out[p]? = some (rank N r i : Int)) (h : Seek N r i out todo) : ∀ m, m ≤ N →
    let s := lookAll r p (rank N r i) (out, todo) m
    Seek N r i s.1 s.2 ∧ (∀ k, k < N → out[k]? ≠ some (-1) → s.1[k]? = out[k]?) ∧ (∀ k, k < m → r p k = true → s.1[k]? ≠ some (-1)) ∧ (∀ k, k < N → s.1[k]? ≠ out[k]? → k ∈ s.2) ∧ (∀ k, k ∈ todo → k ∈ s.2) ∧ free s.1 + s.2.length = free out + todo.length := by
  intro m
  induction m with
  | zero => intro _; exact ⟨h, fun _ _ _ => rfl, fun k hk => absurd hk (Nat.not_lt_zero k), fun k _ hh => absurd rfl hh, fun k hk => hk, rfl⟩
  | succ m ih =>
    intro hm
    obtain ⟨h1, h2, h3, h4, h5, h6⟩ := ih (by omega)
    have hmN : m < N := by omega
    simp only at h1 h2 h3 h4 h5 h6 ⊢
    rw [lookAll_succ]
    generalize lookAll r p (rank N r i) (out, todo) m = s at *
    obtain ⟨o, t⟩ := s
    simp only at h1 h2 h3 h4 h5 h6 ⊢
    unfold look1
    simp only
    have hget : ∀ x : Int, o[m]? = some x → o.getD m 0 = x := fun x hx => by rw [List.getD_eq_getElem?_getD, hx]; rfl
    by_cases hc : o.getD m 0 < 0 ∧ r p m = true
    · rw [if_pos hc]
      have hfree : o[m]? = some (-1) ∧ i ≤ lead N r m := by
        rcases h1.cases hmN with hh | ⟨q, hq⟩
        · exact hh
        · have := hget _ hq; omega
      have hcon : Conn N r p m := .step (.refl hp) hc.2 hmN
      have hlm : lead N r m = i := by rw [← lead_eq hs hcon]; exact hpi
      have hlen := h1.len
      have hne : ∀ k, k ≠ m → (o.set m (rank N r i : Int))[k]? = o[k]? := fun k hk => List.getElem?_set_ne (Ne.symm hk)
      have hself : (o.set m (rank N r i : Int))[m]? = some (rank N r i : Int) := List.getElem?_set_self (by omega)
      refine ⟨⟨by rw [List.length_set, hlen], fun k hk hl => ?_, fun k hk hl => ?_, fun k hk hl => ?_, fun k hk => ?_⟩, fun k hk hko => ?_, fun k hk hr => ?_, fun k hk hko => ?_, fun k hk => ?_, ?_⟩
      · rw [hne k (fun e => by subst e; omega)]; exact h1.lo k hk hl
      · rw [hne k (fun e => by subst e; omega)]; exact h1.hi k hk hl
      · by_cases hkm : k = m
        · subst hkm; exact .inr hself
        · rw [hne k hkm]; exact h1.mid k hk hl
      · rcases List.mem_append.1 hk with hk | hk
        · obtain ⟨a, b, c⟩ := h1.todo k hk
          refine ⟨a, b, ?_⟩
          by_cases hkm : k = m
          · subst hkm; exact hself
          · rw [hne k hkm]; exact c
        · simp at hk; subst hk; exact ⟨hmN, hlm, hself⟩
      · have h7 := h2 k hk hko
        by_cases hkm : k = m
        · subst hkm; rw [hfree.1] at h7; exact absurd h7.symm hko
        · rw [hne k hkm]; exact h7
      · by_cases hkm : k = m
        · subst hkm; rw [hself]; intro e; injection e with e; omega
        · rw [hne k hkm]; exact h3 k (by omega) hr
      · by_cases hkm : k = m
        · subst hkm; simp
        · rw [hne k hkm] at hko
          exact List.mem_append.2 (.inl (h4 k hk hko))
      · exact List.mem_append.2 (.inl (h5 k hk))
      · have := free_set (n := (rank N r i : Int)) hfree.1 (by omega)
        simp only [List.length_append, List.length_cons, List.length_nil]
        omega
    · rw [if_neg hc]
      refine ⟨h1, h2, fun k hk hr => ?_, h4, h5, h6⟩
      by_cases hkm : k = m
      · subst hkm
        intro e
        have := hget _ e
        exact hc ⟨by omega, hr⟩
      · exact h3 k (by omega) hr
/-- One point of the queue. -/
theorem seek_step (hs : ∀ i j, r i j = r j i) {i p : Nat} {out : List Int} {todo : List Nat} (h : Seek N r i out (p :: todo)) (hd : Done N r i out (p :: todo)) :
    let s := lookAll r p (rank N r i) (out, todo) N
    Seek N r i s.1 s.2 ∧ Done N r i s.1 s.2 ∧ (∀ k, k < N → out[k]? ≠ some (-1) → s.1[k]? = out[k]?) ∧ 2 * free s.1 + s.2.length < 2 * free out + (p :: todo).length := by
  obtain ⟨a, b, c⟩ := h.todo p (by simp)
  have h' : Seek N r i out todo := ⟨h.len, h.lo, h.hi, h.mid, fun k hk => h.todo k (by simp [hk])⟩
  obtain ⟨h1, h2, h3, h4, h5, h6⟩ := look_inv hs a b c h' N (Nat.le_refl _)
  simp only at h1 h2 h3 h4 h5 h6 ⊢
  have hge : todo.length ≤ (lookAll r p (rank N r i) (out, todo) N).2.length := by
    have mono : ∀ m, todo.length ≤ (lookAll r p (rank N r i) (out, todo) m).2.length := fun m => by
      induction m with
      | zero => exact Nat.le_refl _
      | succ m ih =>
        rw [lookAll_succ]
        unfold look1
        split
        · simp only [List.length_append]; omega
        · exact ih
    exact mono N
  generalize lookAll r p (rank N r i) (out, todo) N = s at *
  refine ⟨h1, fun k hk hl hko hkt q hq hr => ?_, h2, ?_⟩
  · have hsame : s.1[k]? = out[k]? := Classical.byContradiction fun hne => hkt (h4 k hk hne)
    by_cases hkp : k = p
    · subst hkp; exact h3 q hq hr
    · have hkt' : k ∉ p :: todo := by
        intro hm
        rcases List.mem_cons.1 hm with hm | hm
        · exact hkp hm
        · exact hkt (h5 k hm)
      have h7 := hd k hk hl (by rw [← hsame]; exact hko) hkt' q hq hr
      rw [h2 q hq h7]; exact h7
  · simp only [List.length_cons]
    omega
/-- At the end of a search. -/
theorem seek_end {i : Nat} {out : List Int} (hi : i < N) (hli : lead N r i = i) (hs : ∀ i j, r i j = r j i) (h : Seek N r i out []) (hd : Done N r i out []) (h0 : out[i]? = some (rank N r i : Int)) : ∀ k, k < N → lead N r k = i → out[k]? = some (cls N r k : Int) := by
  intro k hk hl
  have hc : Conn N r i k := conn_of_lead hs hi hk (by rw [hli, hl])
  have key : ∀ k, Conn N r i k → out[k]? = some (rank N r i : Int) := fun k hc => by
    induction hc with
    | refl _ => exact h0
    | step hc' hr hk' ih =>
      rename_i j k
      have hlj : lead N r j = i := by rw [← lead_eq hs hc']; exact hli
      have hne := hd j hc'.lt.2 hlj ih (by simp) k hk' hr
      have hlk : lead N r k = i := by rw [← lead_eq hs (hc'.step hr hk')]; exact hli
      rcases h.mid k hk' hlk with h1 | h1
      · exact absurd h1 hne
      · exact h1
  rw [key k hc]
  unfold cls
  rw [hl]
theorem free_le (out : List Int) : free out ≤ out.length := List.length_filter_le _ _
/-- Between two searches. -/
structure Part (N : Nat) (r : Nat → Nat → Bool) (i : Nat) (out : List Int) : Prop where
  len : out.length = N
  lo : ∀ k, k < N → lead N r k < i → out[k]? = some (cls N r k : Int)
  hi : ∀ k, k < N → i ≤ lead N r k → out[k]? = some (-1)
theorem Part.start {i : Nat} {out : List Int} (hi : i < N) (hli : lead N r i = i) (h : Part N r i out) : Seek N r i (out.set i (rank N r i : Int)) [i] ∧ Done N r i (out.set i (rank N r i : Int)) [i] := by
  have hlen := h.len
  have hne : ∀ k, k ≠ i → (out.set i (rank N r i : Int))[k]? = out[k]? := fun k hk => List.getElem?_set_ne (Ne.symm hk)
  have hself : (out.set i (rank N r i : Int))[i]? = some (rank N r i : Int) := List.getElem?_set_self (by omega)
  refine ⟨⟨by rw [List.length_set, hlen], fun k hk hl => ?_, fun k hk hl => ?_, fun k hk hl => ?_, fun k hk => ?_⟩, fun k hk hl hko hkt q hq hr => ?_⟩
  · rw [hne k (fun e => by subst e; omega)]; exact h.lo k hk hl
  · rw [hne k (fun e => by subst e; omega)]; exact h.hi k hk (by omega)
  · by_cases hki : k = i
    · subst hki; exact .inr hself
    · rw [hne k hki]; exact .inl (h.hi k hk (by omega))
  · simp at hk; subst hk; exact ⟨hi, hli, hself⟩
  · have hki : k ≠ i := by simpa using hkt
    rw [hne k hki, h.hi k hk (by omega)] at hko
    injection hko with hko
    omega
theorem Part.next {i : Nat} {out : List Int} (hi : i < N) (hli : lead N r i = i) (hs : ∀ i j, r i j = r j i) (h : Seek N r i out []) (hd : Done N r i out []) (h0 : out[i]? = some (rank N r i : Int)) : Part N r (i + 1) out :=
  ⟨h.len, fun k hk hl => by
    rcases Nat.lt_or_ge (lead N r k) i with hh | hh
    · exact h.lo k hk hh
    · exact seek_end hi hli hs h hd h0 k hk (by omega), fun k hk hl => h.hi k hk hl⟩
theorem Part.skip {i : Nat} {out : List Int} (hli : lead N r i ≠ i) (hs : ∀ i j, r i j = r j i) (h : Part N r i out) : Part N r (i + 1) out :=
  ⟨h.len, fun k hk hl => by
    rcases Nat.lt_or_ge (lead N r k) i with hh | hh
    · exact h.lo k hk hh
    · have e : lead N r k = i := by omega
      have := lead_lead (r := r) hs hk
      rw [e] at this
      exact absurd this hli, fun k hk hl => h.hi k hk (by omega)⟩
theorem Part.last {out : List Int} (h : Part N r N out) : out = (List.range N).map fun k => (cls N r k : Int) := by
  apply List.ext_getElem?
  intro k
  rcases Nat.lt_or_ge k N with hk | hk
  · rw [h.lo k hk (Nat.lt_of_le_of_lt (lead_le hk) hk)]
    simp [hk]
  · rw [List.getElem?_eq_none (by rw [h.len]; exact hk)]
    simp [hk]
end
end Go.Eng.Cls

/- The search of sew.Classes: what its loops compute. -/
namespace Go.Eng.Rt
open Go.Eng Go.Eng.Cls

def iT (v : Int) : T := .v (.int .i64 v)
def iL (l : List Int) : List T := l.map iT
def nL (l : List Nat) : List T := l.map fun (k : Nat) => iT (k : Int)
theorem iL_get {l : List Int} {k : Nat} {v : Int} (h : l[k]? = some v) : (iL l)[k]? = some (iT v) := by simp [iL, h]
theorem iL_len (l : List Int) : (iL l).length = l.length := by simp [iL]
theorem nL_len (l : List Nat) : (nL l).length = l.length := by simp [nL]
theorem iL_set (l : List Int) (k : Nat) (v : Int) : (iL l).set k (iT v) = iL (l.set k v) := by simp [iL, List.map_set]
theorem iT_upd (a b : Int) : T.upd 1 (iT a) 0 [iT b] = iT b := T_upd1 _ _
theorem iT_int (a : Int) : T.int? .i64 (T.cell (iT a) 0) = some a := T_int _ _
theorem iT_any (a : Int) : T.anyInt? (T.cell (iT a) 0) = some a := rfl
theorem get_of_lt {α : Type} {l : List α} {k : Nat} (h : k < l.length) : ∃ x, l[k]? = some x ∧ x ∈ l := ⟨l[k], List.getElem?_eq_getElem h, List.getElem_mem h⟩
def rel (t : Rat) (ps : List Pt) (i j : Nat) : Bool := match ps[i]?, ps[j]? with
  | some p, some q => nearB t p q
  | _, _ => false
theorem rel_eq {t : Rat} {ps : List Pt} {i j : Nat} {p q : Pt} (h1 : ps[i]? = some p) (h2 : ps[j]? = some q) : rel t ps i j = nearB t p q := by unfold rel; rw [h1, h2]
theorem rel_symm (t : Rat) (ps : List Pt) (i j : Nat) : rel t ps i j = rel t ps j i := by
  unfold rel
  cases ps[i]? <;> cases ps[j]? <;> simp only
  exact near_symm t _ _

def W3 (ps : List Pt) (p : Pt) (t : Rat) (n n0 i0 : Int) (s : List Int × List Nat) (k : Nat) : (List T × Unit × List T × Int × List T × Unit × Int × Int × List T × Int × Int × Bool × List T × List T × T × T × T × T × T × T × T × T × T × Unit) :=
  (ps.map ptT, (), iL s.1, n, nL s.2, (), n0, i0, ps.map ptT, (ps.length : Int), (k : Int), rNeg (lim2 t), rNum (lim2 t), rDen (lim2 t), .v (.bool (rNeg p.x)), .sl 1 (rNum p.x), .sl 1 (rDen p.x), .v (.bool (rNeg p.y)), .sl 1 (rNum p.y), .sl 1 (rDen p.y), .v (.bool (rNeg p.z)), .sl 1 (rNum p.z), .sl 1 (rDen p.z), ())
theorem look_step {ps : List Pt} (hps : ∀ q ∈ ps, SmP q) (hN : ps.length ≤ 1000) {i : Nat} {p : Pt} (hp : ps[i]? = some p) {t : Rat} (ht : Ez 16 400 t) {n n0 i0 : Int} {s : List Int × List Nat} (hs1 : s.1.length = ps.length) (hs2 : s.2.length ≤ 100000) {k : Nat} (hk : k < ps.length) :
    u_sew_Classes_l3 (W3 ps p t n n0 i0 s k) = some (.inl (W3 ps p t n n0 i0 (look1 (rel t ps) i n s k) (k + 1))) := by
  obtain ⟨q, hq, hqm⟩ := get_of_lt hk
  have hpm : p ∈ ps := List.mem_of_getElem? hp
  obtain ⟨v, hv, _⟩ := get_of_lt (l := s.1) (k := k) (by omega)
  have wk : wr .i64 ((k : Int) + 1) = ((k + 1 : Nat) : Int) := by rw [wri' (by omega) (by omega)]; push_cast; rfl
  have hlt : decide ((k : Int) < (ps.length : Int)) = true := decide_eq_true (by omega)
  have hgq : (ps.map ptT)[k]? = some (ptT q) := by simp [hq]
  have hck : chkI ((iL s.1).length : Int) (k : Int) = some k := chkI_nat (by rw [iL_len]; omega)
  have c0 : T.bool? (T.cell (ptT q) 0) = some (rNeg q.x) := rfl
  have c1 : T.sl? 1 (T.cell (ptT q) 1) = some (rNum q.x) := T_sl _ _
  have c2 : T.sl? 1 (T.cell (ptT q) 2) = some (rDen q.x) := T_sl _ _
  have c3 : T.bool? (T.cell (ptT q) 3) = some (rNeg q.y) := rfl
  have c4 : T.sl? 1 (T.cell (ptT q) 4) = some (rNum q.y) := T_sl _ _
  have c5 : T.sl? 1 (T.cell (ptT q) 5) = some (rDen q.y) := T_sl _ _
  have c6 : T.bool? (T.cell (ptT q) 6) = some (rNeg q.z) := rfl
  have c7 : T.sl? 1 (T.cell (ptT q) 7) = some (rNum q.z) := T_sl _ _
  have c8 : T.sl? 1 (T.cell (ptT q) 8) = some (rDen q.z) := T_sl _ _
  have hroom : room (nL s.2) [iT (k : Int)] 8 = some (nL (s.2 ++ [k])) := by
    rw [room_ok (by rw [nL_len]; simp; omega) (by decide)]; simp [nL]
  have hgd : s.1.getD k 0 = v := by rw [List.getD_eq_getElem?_getD, hv]; rfl
  have fold : ∀ z : Int, T.v (Value.int .i64 z) = iT z := fun _ => rfl
  unfold u_sew_Classes_l3 W3 look1
  simp only [ltI_eq, hlt, cond_true, idxL_nat, hgq, obS, lenL_eq, hck, idxN_eq, iL_get hv, iT_int, hgd, addI_eq, wk]
  by_cases hv0 : v < 0
  · simp only [hv0, decide_true, cond_true, T_bool, T_sl, obS, c0, c1, c2, c3, c4, c5, c6, c7, c8, p_near ht (hps _ hpm) (hps _ hqm), fold, iT_upd, hroom, true_and]
    rw [← rel_eq hp hq]
    cases hr : rel t ps i k with
    | true => simp only [cond_true, obS, onS_l, iL_set, if_true, wk]
    | false => simp only [cond_false, obS, onS_l, Bool.false_eq_true, if_false, wk]
  · simp only [hv0, decide_false, cond_false, obS, onS_l, false_and, if_false, wk]
theorem look1_len (r : Nat → Nat → Bool) (p : Nat) (n : Int) (s : List Int × List Nat) (k : Nat) : (look1 r p n s k).1.length = s.1.length ∧ (look1 r p n s k).2.length ≤ s.2.length + 1 := by
  unfold look1
  split
  · simp
  · exact ⟨rfl, by omega⟩
theorem lookAll_len (r : Nat → Nat → Bool) (p : Nat) (n : Int) (s : List Int × List Nat) (m : Nat) : (lookAll r p n s m).1.length = s.1.length ∧ (lookAll r p n s m).2.length ≤ s.2.length + m := by
  induction m with
  | zero => exact ⟨rfl, Nat.le_refl _⟩
  | succ m ih =>
    rw [lookAll_succ]
    have := look1_len r p n (lookAll r p n s m) m
    omega
def W2 (ps : List Pt) (t : Rat) (n n0 i0 : Int) (s : List Int × List Nat) : (List T × Unit × List T × Int × List T × Int × Int × Bool × List T × List T × Unit) :=
  (ps.map ptT, (), iL s.1, n, nL s.2, n0, i0, rNeg (lim2 t), rNum (lim2 t), rDen (lim2 t), ())
theorem look_loop {ps : List Pt} (hps : ∀ q ∈ ps, SmP q) (hN : ps.length ≤ 1000) {i : Nat} {p : Pt} (hp : ps[i]? = some p) {t : Rat} (ht : Ez 16 400 t) {n n0 i0 : Int} {s : List Int × List Nat} (hs1 : s.1.length = ps.length) (hs2 : s.2.length ≤ 10000) :
    loopU u_sew_Classes_l3 (W3 ps p t n n0 i0 s 0) = some (.inl (W2 ps t n n0 i0 (lookAll (rel t ps) i n s ps.length))) := by
  have h := loopU_for (F := u_sew_Classes_l3) ps.length (fun k => W3 ps p t n n0 i0 (lookAll (rel t ps) i n s k) k) (fun k hk => by
    have hl := lookAll_len (rel t ps) i n s k
    rw [lookAll_succ]
    exact look_step hps hN hp ht (by omega) (by omega) hk)
  have h0 : lookAll (rel t ps) i n s 0 = s := rfl
  rw [h0] at h
  rw [h]
  refine loopU_out ?_
  have hlt : decide ((ps.length : Int) < (ps.length : Int)) = false := decide_eq_false (by omega)
  unfold u_sew_Classes_l3 W3 W2
  simp only [ltI_eq, hlt, cond_false]
/-- One number of the queue. -/
theorem queue_step {ps : List Pt} (hps : ∀ q ∈ ps, SmP q) (hN : ps.length ≤ 1000) {i : Nat} {p : Pt} (hp : ps[i]? = some p) {t : Rat} (ht : Ez 16 400 t) {n n0 i0 : Int} {o : List Int} {todo : List Nat} (hs1 : o.length = ps.length) (hs2 : todo.length ≤ 10000) :
    u_sew_Classes_l2 (W2 ps t n n0 i0 (o, i :: todo)) = some (.inl (W2 ps t n n0 i0 (lookAll (rel t ps) i n (o, todo) ps.length))) := by
  have hlen : ((nL (i :: todo)).length : Int) = ((todo.length + 1 : Nat) : Int) := by rw [nL_len]; rfl
  have hlt : decide ((0 : Int) < ((nL (i :: todo)).length : Int)) = true := decide_eq_true (by rw [hlen]; omega)
  have hck : chkI ((nL (i :: todo)).length : Int) (0 : Int) = some 0 := chkI_int (by omega) (by rw [hlen]; omega)
  have h0 : (nL (i :: todo))[0]? = some (iT (i : Int)) := rfl
  have hgp : (ps.map ptT)[i]? = some (ptT p) := by simp [hp]
  have hcut : cutI ((nL (i :: todo)).length : Int) (1 : Int) ((nL (i :: todo)).length : Int) = some (1, todo.length) := by
    unfold cutI
    rw [if_pos ⟨by omega, by rw [hlen]; omega, by omega⟩, hlen]
    congr 2
    omega
  have hcn : cutN (nL (i :: todo)) 1 todo.length = nL todo := by
    unfold cutN
    have e : (nL (i :: todo)).drop 1 = nL todo := rfl
    rw [e]
    exact List.take_of_length_le (by rw [nL_len]; exact Nat.le_refl _)
  have hl := look_loop (n := n) (n0 := n0) (i0 := i0) hps hN hp ht (s := (o, todo)) hs1 hs2
  have fold : (ps.map ptT, (), iL o, n, nL todo, (), n0, i0, ps.map ptT, (ps.length : Int), (0 : Int), rNeg (lim2 t), rNum (lim2 t), rDen (lim2 t), T.cell (ptT p) 0, T.cell (ptT p) 1, T.cell (ptT p) 2, T.cell (ptT p) 3, T.cell (ptT p) 4, T.cell (ptT p) 5, T.cell (ptT p) 6, T.cell (ptT p) 7, T.cell (ptT p) 8, ()) = W3 ps p t n n0 i0 (o, todo) 0 := rfl
  have hpl : ((ps.map ptT).length : Int) = (ps.length : Int) := by rw [List.length_map]
  unfold u_sew_Classes_l2
  conv => lhs; unfold W2
  simp only [ltI_eq, lenL_eq, hlt, cond_true, hck, obS, idxN_eq, h0, iT_any, idxL_nat, hgp, hcut, hcn, hpl, fold, hl, onS_l]
theorem queue_end {ps : List Pt} {t : Rat} {n n0 i0 : Int} {o : List Int} :
    u_sew_Classes_l2 (W2 ps t n n0 i0 (o, [])) = some (.inr (.inl (ps.map ptT, (), iL o, n, n0, i0, rNeg (lim2 t), rNum (lim2 t), rDen (lim2 t), ()))) := by
  have hlt : decide ((0 : Int) < ((nL []).length : Int)) = false := rfl
  unfold u_sew_Classes_l2 W2
  simp only [ltI_eq, lenL_eq, hlt, cond_false]

theorem search {ps : List Pt} (hps : ∀ q ∈ ps, SmP q) (hN : ps.length ≤ 1000) {t : Rat} (ht : Ez 16 400 t) {n0 i0 : Int} {i : Nat} (hi : i < ps.length) : ∀ (m : Nat) (o : List Int) (todo : List Nat), m ≤ 10000 → 2 * free o + todo.length ≤ m → Seek ps.length (rel t ps) i o todo → Done ps.length (rel t ps) i o todo → o[i]? = some (rank ps.length (rel t ps) i : Int) →
    ∃ o', loopU u_sew_Classes_l2 (W2 ps t (rank ps.length (rel t ps) i : Int) n0 i0 (o, todo)) = some (.inl (ps.map ptT, (), iL o', (rank ps.length (rel t ps) i : Int), n0, i0, rNeg (lim2 t), rNum (lim2 t), rDen (lim2 t), ())) ∧ Seek ps.length (rel t ps) i o' [] ∧ Done ps.length (rel t ps) i o' [] ∧ o'[i]? = some (rank ps.length (rel t ps) i : Int) := by
  intro m
  induction m with
  | zero =>
    intro o todo _ hm hS hD hI
    have : todo = [] := List.length_eq_zero_iff.1 (by omega)
    subst this
    exact ⟨o, loopU_out queue_end, hS, hD, hI⟩
  | succ m ih =>
    intro o todo hm1 hm hS hD hI
    cases todo with
    | nil => exact ⟨o, loopU_out queue_end, hS, hD, hI⟩
    | cons p todo =>
      obtain ⟨hp, _, _⟩ := hS.todo p (by simp)
      obtain ⟨q, hq, _⟩ := get_of_lt hp
      simp only [List.length_cons] at hm
      rw [loopU_go (queue_step hps hN hq ht hS.len (by omega))]
      obtain ⟨h1, h2, h3, h4⟩ := seek_step (rel_symm t ps) hS hD
      simp only [List.length_cons] at h1 h2 h3 h4
      have hI' := h3 i hi (by rw [hI]; intro e; injection e with e; omega)
      rw [hI] at hI'
      generalize lookAll (rel t ps) p (rank ps.length (rel t ps) i : Int) (o, todo) ps.length = s at *
      obtain ⟨o2, t2⟩ := s
      simp only at h1 h2 h4 hI'
      exact ih o2 t2 (by omega) (by omega) h1 h2 hI'
noncomputable def W1 (ps : List Pt) (t : Rat) (i : Nat) (o : List Int) : (List T × Unit × List T × Int × Int × Int × Bool × List T × List T × Unit) :=
  (ps.map ptT, (), iL o, (rank ps.length (rel t ps) i : Int), (ps.length : Int), (i : Int), rNeg (lim2 t), rNum (lim2 t), rDen (lim2 t), ())
theorem outer_step {ps : List Pt} (hps : ∀ q ∈ ps, SmP q) (hN : ps.length ≤ 1000) {t : Rat} (ht : Ez 16 400 t) {i : Nat} (hi : i < ps.length) {o : List Int} (hP : Part ps.length (rel t ps) i o) :
    ∃ o', u_sew_Classes_l1 (W1 ps t i o) = some (.inl (W1 ps t (i + 1) o')) ∧ Part ps.length (rel t ps) (i + 1) o' := by
  have hlt : decide ((i : Int) < (ps.length : Int)) = true := decide_eq_true (by omega)
  have hck : chkI ((iL o).length : Int) (i : Int) = some i := chkI_nat (by rw [iL_len, hP.len]; omega)
  have wi : wr .i64 ((i : Int) + 1) = ((i + 1 : Nat) : Int) := by rw [wri' (by omega) (by omega)]; push_cast; rfl
  have hrk : rank ps.length (rel t ps) i ≤ i := rank_le i
  by_cases hli : lead ps.length (rel t ps) i = i
  · have hv := hP.hi i hi (by omega)
    obtain ⟨hS, hD⟩ := hP.start hi hli
    have hself : (o.set i (rank ps.length (rel t ps) i : Int))[i]? = some (rank ps.length (rel t ps) i : Int) := List.getElem?_set_self (by rw [hP.len]; omega)
    have hfr := free_le (o.set i (rank ps.length (rel t ps) i : Int))
    rw [List.length_set, hP.len] at hfr
    obtain ⟨o', he, hS', hD', hI'⟩ := search (n0 := (ps.length : Int)) (i0 := (i : Int)) hps hN ht hi 2001 _ [i] (by omega) (by simp; omega) hS hD hself
    refine ⟨o', ?_, Part.next hi hli (rel_symm t ps) hS' hD' hI'⟩
    have hsucc : rank ps.length (rel t ps) (i + 1) = rank ps.length (rel t ps) i + 1 := by simp only [rank, hli, if_true]
    have wn : wr .i64 ((rank ps.length (rel t ps) i : Int) + 1) = (rank ps.length (rel t ps) (i + 1) : Int) := by rw [wri' (by omega) (by omega), hsucc]; push_cast; rfl
    have hd1 : decide ((0 : Int) ≤ -1) = false := rfl
    have fold : ∀ z : Int, T.v (Value.int .i64 z) = iT z := fun _ => rfl
    have foldW : (ps.map ptT, (), iL (o.set i (rank ps.length (rel t ps) i : Int)), (rank ps.length (rel t ps) i : Int), [iT (i : Int)], (ps.length : Int), (i : Int), rNeg (lim2 t), rNum (lim2 t), rDen (lim2 t), ()) = W2 ps t (rank ps.length (rel t ps) i : Int) (ps.length : Int) (i : Int) (o.set i (rank ps.length (rel t ps) i : Int), [i]) := rfl
    unfold u_sew_Classes_l1 W1
    simp only [ltI_eq, hlt, cond_true, lenL_eq, hck, obS, idxN_eq, iL_get hv, iT_int, leI_eq, hd1, cond_false, fold, iT_upd, iL_set, foldW, he, onS_l, addI_eq, wn, wi]
  · have hlt' : lead ps.length (rel t ps) i < i := Nat.lt_of_le_of_ne (lead_le hi) hli
    have hv := hP.lo i hi hlt'
    refine ⟨o, ?_, hP.skip hli (rel_symm t ps)⟩
    have hsucc : rank ps.length (rel t ps) (i + 1) = rank ps.length (rel t ps) i := by simp only [rank, if_neg hli, Nat.add_zero]
    have hd1 : decide ((0 : Int) ≤ (cls ps.length (rel t ps) i : Int)) = true := decide_eq_true (by omega)
    unfold u_sew_Classes_l1 W1
    simp only [ltI_eq, hlt, cond_true, lenL_eq, hck, obS, idxN_eq, iL_get hv, iT_int, leI_eq, hd1, onS_l, addI_eq, wi, hsucc]
theorem outer_loop {ps : List Pt} (hps : ∀ q ∈ ps, SmP q) (hN : ps.length ≤ 1000) {t : Rat} (ht : Ez 16 400 t) : ∀ (k i : Nat) (o : List Int), i + k = ps.length → Part ps.length (rel t ps) i o →
    loopU u_sew_Classes_l1 (W1 ps t i o) = some (.inl (iL ((List.range ps.length).map fun k => (cls ps.length (rel t ps) k : Int)), ())) := by
  intro k
  induction k with
  | zero =>
    intro i o hik hP
    have e : i = ps.length := by omega
    subst e
    rw [← hP.last]
    refine loopU_out ?_
    have hlt : decide ((ps.length : Int) < (ps.length : Int)) = false := decide_eq_false (by omega)
    unfold u_sew_Classes_l1 W1
    simp only [ltI_eq, hlt, cond_false]
  | succ k ih =>
    intro i o hik hP
    obtain ⟨o', he, hP'⟩ := outer_step hps hN ht (i := i) (by omega) hP
    rw [loopU_go he]
    exact ih (i + 1) o' (by omega) hP'
def fillL (N k : Nat) : List Int := List.replicate k (-1) ++ List.replicate (N - k) 0
theorem fill_set {N k : Nat} (hk : k < N) : (fillL N k).set k (-1) = fillL N (k + 1) := by
  unfold fillL
  obtain ⟨m, hm⟩ : ∃ m, N - k = m + 1 := ⟨N - k - 1, by omega⟩
  have h2 : N - (k + 1) = m := by omega
  rw [hm, h2, List.set_append_right _ _ (by simp)]
  rw [List.replicate_succ' (n := k)]
  simp [List.replicate_succ]
theorem fill_get {N k : Nat} (hk : k < N) : (fillL N k)[k]? = some 0 := by
  unfold fillL
  rw [List.getElem?_append_right (by simp)]
  simp [List.getElem?_replicate]
  omega
theorem fill_loop {ps : List Pt} (hN : ps.length ≤ 1000) {t : Rat} :
    loopU u_sew_Classes_l0 (ps.map ptT, (), iL (fillL ps.length 0), (ps.length : Int), (0 : Int), rNeg (lim2 t), rNum (lim2 t), rDen (lim2 t), ()) = some (.inl (ps.map ptT, (), iL (fillL ps.length ps.length), rNeg (lim2 t), rNum (lim2 t), rDen (lim2 t), ())) := by
  have h := loopU_for (F := u_sew_Classes_l0) ps.length (fun k => (ps.map ptT, (), iL (fillL ps.length k), (ps.length : Int), (k : Int), rNeg (lim2 t), rNum (lim2 t), rDen (lim2 t), ())) (fun k hk => by
    have hlt : decide ((k : Int) < (ps.length : Int)) = true := decide_eq_true (by omega)
    have hck : chkI ((iL (fillL ps.length k)).length : Int) (k : Int) = some k := chkI_nat (by rw [iL_len]; unfold fillL; simp; omega)
    have wk : wr .i64 ((k : Int) + 1) = ((k + 1 : Nat) : Int) := by rw [wri' (by omega) (by omega)]; push_cast; rfl
    have hg := fill_get hk
    have fold : ∀ z : Int, T.v (Value.int .i64 z) = iT z := fun _ => rfl
    unfold u_sew_Classes_l0
    simp only [ltI_eq, hlt, cond_true, lenL_eq, hck, obS, idxN_eq, iL_get hg, fold, iT_upd, iL_set, fill_set hk, addI_eq, wk])
  simp only [Int.natCast_zero] at h
  refine Eq.trans h ?_
  refine loopU_out ?_
  have hlt : decide ((ps.length : Int) < (ps.length : Int)) = false := decide_eq_false (by omega)
  unfold u_sew_Classes_l0
  simp only [ltI_eq, hlt, cond_false]
/-- sew.Classes: the classes of the relation. -/
theorem p_Classes {ps : List Pt} (hps : ∀ q ∈ ps, SmP q) (hN : ps.length ≤ 1000) {t : Rat} (ht : Ez 16 400 t) :
    u_sew_Classes (ps.map ptT, (rNeg t, (rNum t, (rDen t, ())))) = some (iL ((List.range ps.length).map fun k => (cls ps.length (rel t ps) k : Int)), ()) := by
  have hpl : ((ps.map ptT).length : Int) = (ps.length : Int) := by rw [List.length_map]
  have hmk : mkLen (ps.length : Int) (ps.length : Int) 8 = some (ps.length, ps.length) := by
    rw [mkLen_ok (by omega) (by omega) (by omega) (by decide)]; simp
  have hrep : List.replicate ps.length (T.v (Value.int .i64 0)) = iL (fillL ps.length 0) := by
    unfold fillL iL; simp; exact .inr rfl
  have hrl : ((iL (fillL ps.length 0)).length : Int) = (ps.length : Int) := by rw [iL_len]; unfold fillL; simp
  have hP : Part ps.length (rel t ps) 0 (fillL ps.length ps.length) := by
    refine ⟨by unfold fillL; simp, fun k _ hl => absurd hl (Nat.not_lt_zero _), fun k hk _ => ?_⟩
    unfold fillL
    rw [List.getElem?_append_left (by simpa using hk)]
    simp [hk]
  have ho := outer_loop hps hN ht ps.length 0 _ (by omega) hP
  have fold : (ps.map ptT, (), iL (fillL ps.length ps.length), (0 : Int), (ps.length : Int), (0 : Int), rNeg (lim2 t), rNum (lim2 t), rDen (lim2 t), ()) = W1 ps t 0 (fillL ps.length ps.length) := rfl
  unfold u_sew_Classes
  simp only [p_limit ht, obS, lenL_eq, hpl, hmk, repL_eq, hrep, hrl, fill_loop hN, onS_l, fold, ho]
end Go.Eng.Rt

/- The spread of sew: the greatest square of a distance within a class. -/
namespace Go.Eng.Rt
open Go.Eng Go.Eng.Cls

def sp1 (ps : List Pt) (c : List Int) (i : Nat) (w : Rat) (k : Nat) : Rat := match ps[i]?, ps[k]? with
  | some p, some q => if c.getD i 0 = c.getD k 0 then maxQ w (sq p q) else w
  | _, _ => w
def spIn (ps : List Pt) (c : List Int) (i : Nat) (w : Rat) (m : Nat) : Rat := (List.range m).foldl (sp1 ps c i) w
def spOut (ps : List Pt) (c : List Int) (w : Rat) (m : Nat) : Rat := (List.range m).foldl (fun w i => spIn ps c i w i) w
theorem spIn_succ (ps : List Pt) (c : List Int) (i : Nat) (w : Rat) (m : Nat) : spIn ps c i w (m + 1) = sp1 ps c i (spIn ps c i w m) m := by
  unfold spIn; rw [List.range_succ, List.foldl_append]; rfl
theorem spOut_succ (ps : List Pt) (c : List Int) (w : Rat) (m : Nat) : spOut ps c w (m + 1) = spIn ps c m (spOut ps c w m) m := by
  unfold spOut; rw [List.range_succ, List.foldl_append]; rfl
def EzW (w : Rat) : Prop := Ez 256 1920000 w
theorem EzW.sm {w : Rat} (h : EzW w) : Sm w := ez4_sm (by decide) h
theorem EzW.max {a b : Rat} (ha : EzW a) (hb : EzW b) : EzW (maxQ a b) := by
  unfold maxQ
  split
  · exact hb
  · exact ha
theorem sp1_ez {ps : List Pt} (hps : ∀ q ∈ ps, SmP q) {c : List Int} {i : Nat} {w : Rat} (hw : EzW w) (k : Nat) : EzW (sp1 ps c i w k) := by
  unfold sp1
  split
  · rename_i p q hp hq
    split
    · exact hw.max (sq_ez (hps _ (List.mem_of_getElem? hp)) (hps _ (List.mem_of_getElem? hq)))
    · exact hw
  · exact hw
theorem spIn_ez {ps : List Pt} (hps : ∀ q ∈ ps, SmP q) {c : List Int} {i : Nat} {w : Rat} (hw : EzW w) (m : Nat) : EzW (spIn ps c i w m) := by
  induction m with
  | zero => exact hw
  | succ m ih => rw [spIn_succ]; exact sp1_ez hps ih m
theorem spOut_ez {ps : List Pt} (hps : ∀ q ∈ ps, SmP q) {c : List Int} {w : Rat} (hw : EzW w) (m : Nat) : EzW (spOut ps c w m) := by
  induction m with
  | zero => exact hw
  | succ m ih => rw [spOut_succ]; exact spIn_ez hps ih m

def S1 (ps : List Pt) (c : List Int) (b0 : Bool) (t0 t1 : T) (i : Nat) (p : Pt) (w : Rat) (k : Nat) : (List T × List T × Unit × Unit × Int × Unit × List T × Int × Int × List T × Int × Int × Bool × T × T × Bool × List T × List T × T × T × T × T × T × T × T × T × T × Unit) :=
  (ps.map ptT, iL c, (), (), (i : Int), (), ps.map ptT, (ps.length : Int), (i : Int), (ps.take i).map ptT, (i : Int), (k : Int), b0, t0, t1, rNeg w, rNum w, rDen w, .v (.bool (rNeg p.x)), .sl 1 (rNum p.x), .sl 1 (rDen p.x), .v (.bool (rNeg p.y)), .sl 1 (rNum p.y), .sl 1 (rDen p.y), .v (.bool (rNeg p.z)), .sl 1 (rNum p.z), .sl 1 (rDen p.z), ())
def S0 (ps : List Pt) (c : List Int) (b0 : Bool) (t0 t1 : T) (i : Nat) (w : Rat) : (List T × List T × Unit × Unit × List T × Int × Int × Bool × T × T × Bool × List T × List T × Unit) :=
  (ps.map ptT, iL c, (), (), ps.map ptT, (ps.length : Int), (i : Int), b0, t0, t1, rNeg w, rNum w, rDen w, ())
theorem spread_step {ps : List Pt} (hps : ∀ q ∈ ps, SmP q) (hN : ps.length ≤ 1000) {c : List Int} (hc : c.length = ps.length) {b0 : Bool} {t0 t1 : T} {i : Nat} (hi : i < ps.length) {p : Pt} (hp : ps[i]? = some p) {w : Rat} (hw : EzW w) {k : Nat} (hk : k < i) :
    u_sew_spread_l1 (S1 ps c b0 t0 t1 i p w k) = some (.inl (S1 ps c b0 t0 t1 i p (sp1 ps c i w k) (k + 1))) := by
  obtain ⟨q, hq, hqm⟩ := get_of_lt (l := ps) (k := k) (by omega)
  have hpm : p ∈ ps := List.mem_of_getElem? hp
  obtain ⟨ci, hci, _⟩ := get_of_lt (l := c) (k := i) (by omega)
  obtain ⟨ck, hck, _⟩ := get_of_lt (l := c) (k := k) (by omega)
  have wk : wr .i64 ((k : Int) + 1) = ((k + 1 : Nat) : Int) := by rw [wri' (by omega) (by omega)]; push_cast; rfl
  have hlt : decide ((k : Int) < (i : Int)) = true := decide_eq_true (by omega)
  have hgq : ((ps.take i).map ptT)[k]? = some (ptT q) := by rw [List.getElem?_map, List.getElem?_take_of_lt hk, hq]; rfl
  have c0 : T.bool? (T.cell (ptT q) 0) = some (rNeg q.x) := rfl
  have c1 : T.sl? 1 (T.cell (ptT q) 1) = some (rNum q.x) := T_sl _ _
  have c2 : T.sl? 1 (T.cell (ptT q) 2) = some (rDen q.x) := T_sl _ _
  have c3 : T.bool? (T.cell (ptT q) 3) = some (rNeg q.y) := rfl
  have c4 : T.sl? 1 (T.cell (ptT q) 4) = some (rNum q.y) := T_sl _ _
  have c5 : T.sl? 1 (T.cell (ptT q) 5) = some (rDen q.y) := T_sl _ _
  have c6 : T.bool? (T.cell (ptT q) 6) = some (rNeg q.z) := rfl
  have c7 : T.sl? 1 (T.cell (ptT q) 7) = some (rNum q.z) := T_sl _ _
  have c8 : T.sl? 1 (T.cell (ptT q) 8) = some (rDen q.z) := T_sl _ _
  have hgi : c.getD i 0 = ci := by rw [List.getD_eq_getElem?_getD, hci]; rfl
  have hgk : c.getD k 0 = ck := by rw [List.getD_eq_getElem?_getD, hck]; rfl
  have hs := sq_sm (hps _ hpm) (hps _ hqm)
  unfold u_sew_spread_l1 S1 sp1
  simp only [hp, hq, hgi, hgk, ltI_eq, hlt, cond_true, idxL_nat, hgq, obS, iL_get hci, iL_get hck, iT_int, eqI_eq]
  by_cases he : ci = ck
  · rw [if_pos he, decide_eq_true he]
    simp only [cond_true, T_bool, T_sl, obS, c0, c1, c2, c3, c4, c5, c6, c7, c8, p_square (hps _ hpm) (hps _ hqm), p_Max hw.sm hs, onS_l, addI_eq, wk]
  · rw [if_neg he, decide_eq_false he]
    simp only [cond_false, obS, onS_l, addI_eq, wk]
theorem spread_in {ps : List Pt} (hps : ∀ q ∈ ps, SmP q) (hN : ps.length ≤ 1000) {c : List Int} (hc : c.length = ps.length) {b0 : Bool} {t0 t1 : T} {i : Nat} (hi : i < ps.length) {p : Pt} (hp : ps[i]? = some p) {w : Rat} (hw : EzW w) :
    loopU u_sew_spread_l1 (S1 ps c b0 t0 t1 i p w 0) = some (.inl (S0 ps c b0 t0 t1 i (spIn ps c i w i))) := by
  have h := loopU_for (F := u_sew_spread_l1) i (fun k => S1 ps c b0 t0 t1 i p (spIn ps c i w k) k) (fun k hk => by
    rw [spIn_succ]
    exact spread_step hps hN hc hi hp (spIn_ez hps hw k) hk)
  have h0 : spIn ps c i w 0 = w := rfl
  rw [h0] at h
  rw [h]
  refine loopU_out ?_
  have hlt : decide ((i : Int) < (i : Int)) = false := decide_eq_false (by omega)
  unfold u_sew_spread_l1 S1 S0
  simp only [ltI_eq, hlt, cond_false]
theorem spread_out {ps : List Pt} (hps : ∀ q ∈ ps, SmP q) (hN : ps.length ≤ 1000) {c : List Int} (hc : c.length = ps.length) {b0 : Bool} {t0 t1 : T} {i : Nat} (hi : i < ps.length) {w : Rat} (hw : EzW w) :
    u_sew_spread_l0 (S0 ps c b0 t0 t1 i w) = some (.inl (S0 ps c b0 t0 t1 (i + 1) (spIn ps c i w i))) := by
  obtain ⟨p, hp, hpm⟩ := get_of_lt hi
  have wi : wr .i64 ((i : Int) + 1) = ((i + 1 : Nat) : Int) := by rw [wri' (by omega) (by omega)]; push_cast; rfl
  have hlt : decide ((i : Int) < (ps.length : Int)) = true := decide_eq_true (by omega)
  have hgp : (ps.map ptT)[i]? = some (ptT p) := by simp [hp]
  have hcut : cutL (ps.map ptT) (0 : Int) (i : Int) = some ((ps.take i).map ptT) := by
    have := cutL_nat (l := ps.map ptT) (lo := 0) (hi := i) (by omega) (by rw [List.length_map]; omega)
    simp only [Int.natCast_zero] at this
    rw [this]; simp [List.map_take]
  have hcl : (((ps.take i).map ptT).length : Int) = (i : Int) := by rw [List.length_map, List.length_take]; omega
  have fold : (ps.map ptT, iL c, (), (), (i : Int), (), ps.map ptT, (ps.length : Int), (i : Int), (ps.take i).map ptT, (i : Int), (0 : Int), b0, t0, t1, rNeg w, rNum w, rDen w, T.cell (ptT p) 0, T.cell (ptT p) 1, T.cell (ptT p) 2, T.cell (ptT p) 3, T.cell (ptT p) 4, T.cell (ptT p) 5, T.cell (ptT p) 6, T.cell (ptT p) 7, T.cell (ptT p) 8, ()) = S1 ps c b0 t0 t1 i p w 0 := rfl
  have hin := spread_in (b0 := b0) (t0 := t0) (t1 := t1) hps hN hc hi hp hw
  unfold u_sew_spread_l0
  conv => lhs; unfold S0
  simp only [ltI_eq, hlt, cond_true, idxL_nat, hgp, obS, hcut, lenL_eq, hcl, fold, hin, onS_l]
  unfold S0
  simp only [addI_eq, wi]
theorem p_spread {ps : List Pt} (hps : ∀ q ∈ ps, SmP q) (hN : ps.length ≤ 1000) {c : List Int} (hc : c.length = ps.length) :
    u_sew_spread (ps.map ptT, (iL c, ())) = some (rNeg (spOut ps c 0 ps.length), (rNum (spOut ps c 0 ps.length), (rDen (spOut ps c 0 ps.length), ()))) := by
  have h := loopU_for (F := u_sew_spread_l0) ps.length (fun i => S0 ps c false (.v (.slice none 0 0)) (.v (.slice none 0 0)) i (spOut ps c 0 i)) (fun i hi => by
    rw [spOut_succ]
    exact spread_out hps hN hc hi (spOut_ez hps Ez.zero i))
  have hpl : ((ps.map ptT).length : Int) = (ps.length : Int) := by rw [List.length_map]
  have fold : (ps.map ptT, iL c, (), (), ps.map ptT, (ps.length : Int), (0 : Int), false, T.v (Value.slice none 0 0), T.v (Value.slice none 0 0), false, ([] : List T), ([] : List T), ()) = S0 ps c false (.v (.slice none 0 0)) (.v (.slice none 0 0)) 0 (spOut ps c 0 0) := by
    have e : spOut ps c 0 0 = 0 := rfl
    unfold S0
    rw [e, rNeg_zero, rNum_zero, rDen_zero]; rfl
  have hout : loopU u_sew_spread_l0 (S0 ps c false (.v (.slice none 0 0)) (.v (.slice none 0 0)) ps.length (spOut ps c 0 ps.length)) = some (.inl ((), (), false, T.v (Value.slice none 0 0), T.v (Value.slice none 0 0), rNeg (spOut ps c 0 ps.length), rNum (spOut ps c 0 ps.length), rDen (spOut ps c 0 ps.length), ())) := by
    refine loopU_out ?_
    have hlt : decide ((ps.length : Int) < (ps.length : Int)) = false := decide_eq_false (by omega)
    unfold u_sew_spread_l0 S0
    simp only [ltI_eq, hlt, cond_false]
  unfold u_sew_spread
  simp only [lenL_eq, hpl, fold, h, hout, obS, onS_l]
end Go.Eng.Rt

/- The spread of the reference: the same fold; and both as called. -/
namespace Go.Eng.Rt
open Go.Eng Go.Eng.Cls

def R1 (ps : List Pt) (c : List Int) (b0 : Bool) (t0 t1 : T) (i : Nat) (w : Rat) (k : Nat) : (List T × List T × Unit × Unit × Int × Int × Bool × T × T × Bool × List T × List T × Unit) :=
  (ps.map ptT, iL c, (), (), (i : Int), (k : Int), b0, t0, t1, rNeg w, rNum w, rDen w, ())
def R0 (ps : List Pt) (c : List Int) (b0 : Bool) (t0 t1 : T) (i : Nat) (w : Rat) : (List T × List T × Unit × Unit × Int × Bool × T × T × Bool × List T × List T × Unit) :=
  (ps.map ptT, iL c, (), (), (i : Int), b0, t0, t1, rNeg w, rNum w, rDen w, ())
theorem cell0 (q : Pt) : T.bool? (T.cell (ptT q) 0) = some (rNeg q.x) := rfl
theorem cell1 (q : Pt) : T.sl? 1 (T.cell (ptT q) 1) = some (rNum q.x) := T_sl _ _
theorem cell2 (q : Pt) : T.sl? 1 (T.cell (ptT q) 2) = some (rDen q.x) := T_sl _ _
theorem cell3 (q : Pt) : T.bool? (T.cell (ptT q) 3) = some (rNeg q.y) := rfl
theorem cell4 (q : Pt) : T.sl? 1 (T.cell (ptT q) 4) = some (rNum q.y) := T_sl _ _
theorem cell5 (q : Pt) : T.sl? 1 (T.cell (ptT q) 5) = some (rDen q.y) := T_sl _ _
theorem cell6 (q : Pt) : T.bool? (T.cell (ptT q) 6) = some (rNeg q.z) := rfl
theorem cell7 (q : Pt) : T.sl? 1 (T.cell (ptT q) 7) = some (rNum q.z) := T_sl _ _
theorem cell8 (q : Pt) : T.sl? 1 (T.cell (ptT q) 8) = some (rDen q.z) := T_sl _ _
theorem rspread_step {ps : List Pt} (hps : ∀ q ∈ ps, SmP q) (hN : ps.length ≤ 1000) {c : List Int} (hc : c.length = ps.length) {b0 : Bool} {t0 t1 : T} {i : Nat} (hi : i < ps.length) {w : Rat} (hw : EzW w) {k : Nat} (hk : k < i) :
    u_ref41_Spread_l1 (R1 ps c b0 t0 t1 i w k) = some (.inl (R1 ps c b0 t0 t1 i (sp1 ps c i w k) (k + 1))) := by
  obtain ⟨p, hp, hpm⟩ := get_of_lt hi
  obtain ⟨q, hq, hqm⟩ := get_of_lt (l := ps) (k := k) (by omega)
  obtain ⟨ci, hci, _⟩ := get_of_lt (l := c) (k := i) (by omega)
  obtain ⟨ck, hck, _⟩ := get_of_lt (l := c) (k := k) (by omega)
  have wk : wr .i64 ((k : Int) + 1) = ((k + 1 : Nat) : Int) := by rw [wri' (by omega) (by omega)]; push_cast; rfl
  have hlt : decide ((k : Int) < (i : Int)) = true := decide_eq_true (by omega)
  have hgp : (ps.map ptT)[i]? = some (ptT p) := by simp [hp]
  have hgq : (ps.map ptT)[k]? = some (ptT q) := by simp [hq]
  have hgi : c.getD i 0 = ci := by rw [List.getD_eq_getElem?_getD, hci]; rfl
  have hgk : c.getD k 0 = ck := by rw [List.getD_eq_getElem?_getD, hck]; rfl
  have hs := sq_sm (hps _ hpm) (hps _ hqm)
  have k0 := @cell0
  have k1 := @cell1
  have k2 := @cell2
  have k3 := @cell3
  have k4 := @cell4
  have k5 := @cell5
  have k6 := @cell6
  have k7 := @cell7
  have k8 := @cell8
  have obT : ∀ {α R : Type} (a : α) (k : α → Option R), ob (some a) k = k a := fun _ _ => rfl
  have onT : ∀ {α β R : Type} (x : α) (f : α → Option R) (g : β → Option R), onS (.inl x : α ⊕ β) f g = f x := fun _ _ _ => rfl
  unfold u_ref41_Spread_l1 R1 sp1
  simp only [hp, hq, hgi, hgk, ltI_eq, hlt, cond_true, idxL_nat, hgp, hgq, obT, iL_get hci, iL_get hck, iT_int, eqI_eq]
  by_cases he : ci = ck
  · rw [if_pos he, decide_eq_true he]
    simp only [cond_true, obT, k0, k1, k2, k3, k4, k5, k6, k7, k8, r_square (hps _ hpm) (hps _ hqm), r_QMax hw.sm hs, onT, addI_eq, wk]
  · rw [if_neg he, decide_eq_false he]
    simp only [cond_false, obT, onT, addI_eq, wk]
theorem rspread_in {ps : List Pt} (hps : ∀ q ∈ ps, SmP q) (hN : ps.length ≤ 1000) {c : List Int} (hc : c.length = ps.length) {b0 : Bool} {t0 t1 : T} {i : Nat} (hi : i < ps.length) {w : Rat} (hw : EzW w) :
    loopU u_ref41_Spread_l1 (R1 ps c b0 t0 t1 i w 0) = some (.inl (R0 ps c b0 t0 t1 i (spIn ps c i w i))) := by
  have h := loopU_for (F := u_ref41_Spread_l1) i (fun k => R1 ps c b0 t0 t1 i (spIn ps c i w k) k) (fun k hk => by
    rw [spIn_succ]
    exact rspread_step hps hN hc hi (spIn_ez hps hw k) hk)
  have h0 : spIn ps c i w 0 = w := rfl
  rw [h0] at h
  rw [h]
  refine loopU_out ?_
  have hlt : decide ((i : Int) < (i : Int)) = false := decide_eq_false (by omega)
  unfold u_ref41_Spread_l1 R1 R0
  simp only [ltI_eq, hlt, cond_false]
theorem rspread_out {ps : List Pt} (hps : ∀ q ∈ ps, SmP q) (hN : ps.length ≤ 1000) {c : List Int} (hc : c.length = ps.length) {b0 : Bool} {t0 t1 : T} {i : Nat} (hi : i < ps.length) {w : Rat} (hw : EzW w) :
    u_ref41_Spread_l0 (R0 ps c b0 t0 t1 i w) = some (.inl (R0 ps c b0 t0 t1 (i + 1) (spIn ps c i w i))) := by
  have wi : wr .i64 ((i : Int) + 1) = ((i + 1 : Nat) : Int) := by rw [wri' (by omega) (by omega)]; push_cast; rfl
  have hpl : ((ps.map ptT).length : Int) = (ps.length : Int) := by rw [List.length_map]
  have hlt : decide ((i : Int) < (ps.length : Int)) = true := decide_eq_true (by omega)
  have fold : (ps.map ptT, iL c, (), (), (i : Int), (0 : Int), b0, t0, t1, rNeg w, rNum w, rDen w, ()) = R1 ps c b0 t0 t1 i w 0 := rfl
  have hin := rspread_in (b0 := b0) (t0 := t0) (t1 := t1) hps hN hc hi hw
  unfold u_ref41_Spread_l0
  conv => lhs; unfold R0
  simp only [ltI_eq, lenL_eq, hpl, hlt, cond_true, fold, hin, obS, onS_l]
  unfold R0
  simp only [addI_eq, wi]
theorem r_Spread {ps : List Pt} (hps : ∀ q ∈ ps, SmP q) (hN : ps.length ≤ 1000) {c : List Int} (hc : c.length = ps.length) :
    u_ref41_Spread (ps.map ptT, (iL c, ())) = some (rNeg (spOut ps c 0 ps.length), (rNum (spOut ps c 0 ps.length), (rDen (spOut ps c 0 ps.length), ()))) := by
  have h := loopU_for (F := u_ref41_Spread_l0) ps.length (fun i => R0 ps c false (.v (.slice none 0 0)) (.v (.slice none 0 0)) i (spOut ps c 0 i)) (fun i hi => by
    rw [spOut_succ]
    exact rspread_out hps hN hc hi (spOut_ez hps Ez.zero i))
  have hpl : ((ps.map ptT).length : Int) = (ps.length : Int) := by rw [List.length_map]
  have hcl : ((iL c).length : Int) = (ps.length : Int) := by rw [iL_len, hc]
  have fold : (ps.map ptT, iL c, (), (), (0 : Int), false, T.v (Value.slice none 0 0), T.v (Value.slice none 0 0), false, ([] : List T), ([] : List T), ()) = R0 ps c false (.v (.slice none 0 0)) (.v (.slice none 0 0)) 0 (spOut ps c 0 0) := by
    have e : spOut ps c 0 0 = 0 := rfl
    unfold R0
    rw [e, rNeg_zero, rNum_zero, rDen_zero]; rfl
  have hout : loopU u_ref41_Spread_l0 (R0 ps c false (.v (.slice none 0 0)) (.v (.slice none 0 0)) ps.length (spOut ps c 0 ps.length)) = some (.inl ((), (), false, T.v (Value.slice none 0 0), T.v (Value.slice none 0 0), rNeg (spOut ps c 0 ps.length), rNum (spOut ps c 0 ps.length), rDen (spOut ps c 0 ps.length), ())) := by
    refine loopU_out ?_
    have hlt : decide ((ps.length : Int) < (ps.length : Int)) = false := decide_eq_false (by omega)
    unfold u_ref41_Spread_l0 R0
    simp only [ltI_eq, lenL_eq, hpl, hlt, cond_false]

  unfold u_ref41_Spread
  simp only [lenL_eq, hpl, hcl, eqI_eq, decide_true, Bool.not_true, cond_false, fold, h, hout, obS, onS_l]
end Go.Eng.Rt

/- Spread of sew as called: a copy of the fold; and 0 where the lengths differ. -/
namespace Go.Eng.Rt
open Go.Eng Go.Eng.Cls

theorem u_own {w : Rat} (h : EzW w) (h1 : (rNum w).length < 1000000000) (h2 : (rDen w).length < 1000000000) : u_own_Rat (rNeg w, (rNum w, (rDen w, ()))) = some (rNeg w, (rNum w, (rDen w, ()))) := by
  unfold u_own_Rat
  simp only [p_Clone h1, p_Clone h2, obS]
theorem rNum_small {w : Rat} (h : Sm w) : (rNum w).length < 1000000000 := by
  have : (limbs w.num.natAbs).length ≤ 2 := limbs_len.2 (Nat.lt_trans h.1 (by decide))
  unfold rNum lm
  rw [lmL_len]
  omega
theorem rDen_small {w : Rat} (h : Sm w) : (rDen w).length < 1000000000 := by
  have h3 : (limbs (w.den - 1)).length ≤ 2 := limbs_len.2 (Nat.lt_of_le_of_lt (Nat.sub_le _ _) (Nat.lt_trans h.2 (by decide)))
  have h4 : (limbs w.den).length ≤ 2 := limbs_len.2 (Nat.lt_trans h.2 (by decide))
  unfold rDen dn lm
  split
  · simp
  · rw [lmL_len]; omega
theorem p_Spread {ps : List Pt} (hps : ∀ q ∈ ps, SmP q) (hN : ps.length ≤ 1000) {c : List Int} (hc : c.length = ps.length) :
    u_sew_Spread (ps.map ptT, (iL c, ())) = some (rNeg (spOut ps c 0 ps.length), (rNum (spOut ps c 0 ps.length), (rDen (spOut ps c 0 ps.length), ()))) := by
  have hpl : ((ps.map ptT).length : Int) = (ps.length : Int) := by rw [List.length_map]
  have hcl : ((iL c).length : Int) = (ps.length : Int) := by rw [iL_len, hc]
  have he := spOut_ez (c := c) hps (w := 0) Ez.zero ps.length
  have hw := u_own he (rNum_small he.sm) (rDen_small he.sm)
  unfold u_sew_Spread
  simp only [lenL_eq, hpl, hcl, eqI_eq, decide_true, Bool.not_true, cond_false, p_spread hps hN hc, obS, hw]
theorem p_Spread0 {ps : List Pt} {c : List Int} (hc : c.length ≠ ps.length) : u_sew_Spread (ps.map ptT, (iL c, ())) = some (rNeg 0, (rNum 0, (rDen 0, ()))) := by
  have hpl : ((ps.map ptT).length : Int) = (ps.length : Int) := by rw [List.length_map]
  have hcl : ((iL c).length : Int) = (c.length : Int) := by rw [iL_len]
  have he : decide ((ps.length : Int) = (c.length : Int)) = false := decide_eq_false (by omega)
  unfold u_sew_Spread
  simp only [lenL_eq, hpl, hcl, eqI_eq, he, Bool.not_false, cond_true]
  rw [rNeg_zero, rNum_zero, rDen_zero]
end Go.Eng.Rt

/- The closed check of the laws: three points in a row. -/
namespace Go.Eng.Rt
open Go.Eng Go.Eng.Cls

def row3 : List Pt := [⟨((0 : Int) : Rat), ((0 : Int) : Rat), ((0 : Int) : Rat)⟩, ⟨((1 : Int) : Rat), ((0 : Int) : Rat), ((0 : Int) : Rat)⟩, ⟨((2 : Int) : Rat), ((0 : Int) : Rat), ((0 : Int) : Rat)⟩]
theorem int_ez4 {v : Int} (h0 : 0 ≤ v) (h1 : v < 5) : Ez 16 400 (v : Rat) := (int_ez h0 h1).mono (by decide)
theorem row3_sm : ∀ q ∈ row3, SmP q := by
  intro q hq
  simp only [row3, List.mem_cons, List.not_mem_nil, or_false] at hq
  rcases hq with rfl | rfl | rfl
  · exact ⟨int_ez4 (by decide) (by decide), int_ez4 (by decide) (by decide), int_ez4 (by decide) (by decide)⟩
  · exact ⟨int_ez4 (by decide) (by decide), int_ez4 (by decide) (by decide), int_ez4 (by decide) (by decide)⟩
  · exact ⟨int_ez4 (by decide) (by decide), int_ez4 (by decide) (by decide), int_ez4 (by decide) (by decide)⟩
theorem near01 : rel ((1 : Int) : Rat) row3 0 1 = true := by decide +kernel
theorem near12 : rel ((1 : Int) : Rat) row3 1 2 = true := by decide +kernel
theorem cls_zero {N : Nat} {r : Nat → Nat → Bool} (h : 0 < N) : cls N r 0 = 0 := by
  have : lead N r 0 = 0 := Nat.le_zero.1 (lead_le h)
  unfold cls; rw [this]; rfl
theorem row3_cls : (List.range 3).map (fun k => (cls 3 (rel ((1 : Int) : Rat) row3) k : Int)) = [0, 0, 0] := by
  have hs := rel_symm ((1 : Int) : Rat) row3
  have h0 : cls 3 (rel ((1 : Int) : Rat) row3) 0 = 0 := cls_zero (by decide)
  have c1 : Conn 3 (rel ((1 : Int) : Rat) row3) 0 1 := .step (.refl (by decide)) near01 (by decide)
  have c2 : Conn 3 (rel ((1 : Int) : Rat) row3) 0 2 := .step c1 near12 (by decide)
  have h1 := (cls_eq hs (i := 0) (j := 1) (by decide) (by decide)).2 c1
  have h2 := (cls_eq hs (i := 0) (j := 2) (by decide) (by decide)).2 c2
  rw [h0] at h1 h2
  have e : List.range 3 = [0, 1, 2] := rfl
  rw [e]
  simp only [List.map_cons, List.map_nil, h0, ← h1, ← h2]
  rfl
theorem row3_spread : spOut row3 [0, 0, 0] 0 3 = ((4 : Int) : Rat) := by decide +kernel
theorem p_At3 {v : Int} (h0 : 0 ≤ v) (h1 : v < 5) : u_brepkernelmade_At3 (v, ((0 : Int), ((0 : Int), ()))) = some (rNeg (v : Rat), (rNum (v : Rat), (rDen (v : Rat), (rNeg ((0 : Int) : Rat), (rNum ((0 : Int) : Rat), (rDen ((0 : Int) : Rat), (rNeg ((0 : Int) : Rat), (rNum ((0 : Int) : Rat), (rDen ((0 : Int) : Rat), ()))))))))) := by
  unfold u_brepkernelmade_At3
  have hv := r_Int (n := v) (by omega) (by omega)
  have hz := r_Int (n := 0) (by omega) (by omega)
  simp only [hv, hz, obS]
theorem sane_true : u_brepkernellaw41_sane () = some (true, ()) := by
  have a0 := p_At3 (v := 0) (by decide) (by decide)
  have a1 := p_At3 (v := 1) (by decide) (by decide)
  have a2 := p_At3 (v := 2) (by decide) (by decide)
  have i1 := r_Int (n := 1) (by omega) (by omega)
  have i4 := r_Int (n := 4) (by omega) (by omega)
  have hC := p_Classes row3_sm (by decide) (t := ((1 : Int) : Rat)) (int_ez4 (by decide) (by decide))
  have e3 : row3.length = 3 := rfl
  rw [e3, row3_cls] at hC
  have hS := p_Spread row3_sm (by decide) (c := [0, 0, 0]) rfl
  rw [e3, row3_spread] at hS
  have f4 : Sm ((4 : Int) : Rat) := ez_sm (int_ez4 (by decide) (by decide))
  have hsame := r_Same (p := ((4 : Int) : Rat)) (q := ((4 : Int) : Rat)) f4.fit f4.fit
  have obT : ∀ {α R : Type} (a : α) (k : α → Option R), ob (some a) k = k a := fun _ _ => rfl
  have fold : row3.map ptT = [T.agg [T.v (Value.bool (rNeg ((0 : Int) : Rat))), T.sl 1 (rNum ((0 : Int) : Rat)), T.sl 1 (rDen ((0 : Int) : Rat)), T.v (Value.bool (rNeg ((0 : Int) : Rat))), T.sl 1 (rNum ((0 : Int) : Rat)), T.sl 1 (rDen ((0 : Int) : Rat)), T.v (Value.bool (rNeg ((0 : Int) : Rat))), T.sl 1 (rNum ((0 : Int) : Rat)), T.sl 1 (rDen ((0 : Int) : Rat))],
    T.agg [T.v (Value.bool (rNeg ((1 : Int) : Rat))), T.sl 1 (rNum ((1 : Int) : Rat)), T.sl 1 (rDen ((1 : Int) : Rat)), T.v (Value.bool (rNeg ((0 : Int) : Rat))), T.sl 1 (rNum ((0 : Int) : Rat)), T.sl 1 (rDen ((0 : Int) : Rat)), T.v (Value.bool (rNeg ((0 : Int) : Rat))), T.sl 1 (rNum ((0 : Int) : Rat)), T.sl 1 (rDen ((0 : Int) : Rat))],
    T.agg [T.v (Value.bool (rNeg ((2 : Int) : Rat))), T.sl 1 (rNum ((2 : Int) : Rat)), T.sl 1 (rDen ((2 : Int) : Rat)), T.v (Value.bool (rNeg ((0 : Int) : Rat))), T.sl 1 (rNum ((0 : Int) : Rat)), T.sl 1 (rDen ((0 : Int) : Rat)), T.v (Value.bool (rNeg ((0 : Int) : Rat))), T.sl 1 (rNum ((0 : Int) : Rat)), T.sl 1 (rDen ((0 : Int) : Rat))]] := rfl
  rw [fold] at hC hS
  have hl : lenL (iL [0, 0, 0]) = (3 : Int) := by rw [lenL_eq]; rfl
  have g0 : idxL (iL [0, 0, 0]) (0 : Int) = some (iT 0) := by rw [idxL_int _ (by decide)]; rfl
  have g2 : idxL (iL [0, 0, 0]) (2 : Int) = some (iT 0) := by rw [idxL_int _ (by decide)]; rfl
  have q3 : eqI (3 : Int) (3 : Int) = true := by rw [eqI_eq]; rfl
  have q0 : eqI (0 : Int) (0 : Int) = true := by rw [eqI_eq]; rfl
  have hii := iT_int 0
  unfold u_brepkernellaw41_sane
  simp only [a0, a1, a2, i1, i4, obT, hC, hl, q3, cond_true, g0, g2, hii, q0, hS, hsame, decide_true]
end Go.Eng.Rt

/- Least labels: rounds of joining labels lead to the least members of the classes; their numbers in order. Plain. -/
namespace Go.Eng.Cls

section
variable {N : Nat} {r : Nat → Nat → Bool}
/-- Labels: each one is a number of the class, at most the number itself. -/
structure Lb (N : Nat) (r : Nat → Nat → Bool) (lb : List Nat) : Prop where
  len : lb.length = N
  at' : ∀ k, k < N → ∃ v, lb[k]? = some v ∧ v ≤ k ∧ Conn N r k v
/-- One pair. -/
def pr1 (r : Nat → Nat → Bool) (i : Nat) (s : List Nat × Bool) (k : Nat) : List Nat × Bool :=
  if s.1.getD i 0 ≠ s.1.getD k 0 ∧ r i k = true then ((s.1.set i (min (s.1.getD i 0) (s.1.getD k 0))).set k (min (s.1.getD i 0) (s.1.getD k 0)), true) else s
def prIn (r : Nat → Nat → Bool) (i : Nat) (s : List Nat × Bool) (m : Nat) : List Nat × Bool := (List.range m).foldl (pr1 r i) s
def prAll (r : Nat → Nat → Bool) (s : List Nat × Bool) (m : Nat) : List Nat × Bool := (List.range m).foldl (fun s i => prIn r i s i) s
theorem prIn_succ (r : Nat → Nat → Bool) (i : Nat) (s : List Nat × Bool) (m : Nat) : prIn r i s (m + 1) = pr1 r i (prIn r i s m) m := by
  unfold prIn; rw [List.range_succ, List.foldl_append]; rfl
theorem prAll_succ (r : Nat → Nat → Bool) (s : List Nat × Bool) (m : Nat) : prAll r s (m + 1) = prIn r m (prAll r s m) m := by
  unfold prAll; rw [List.range_succ, List.foldl_append]; rfl
theorem getD_of {l : List Nat} {k v : Nat} (h : l[k]? = some v) : l.getD k 0 = v := by rw [List.getD_eq_getElem?_getD, h]; rfl
theorem sum_set {l : List Nat} {k v m : Nat} (h : l[k]? = some v) : (l.set k m).sum + v = l.sum + m := by
  induction l generalizing k with
  | nil => simp at h
  | cons x l ih =>
    cases k with
    | zero => simp only [List.getElem?_cons_zero, Option.some.injEq] at h; subst h; simp only [List.set_cons_zero, List.sum_cons]; omega
    | succ k => simp only [List.getElem?_cons_succ] at h; have := ih h; simp only [List.set_cons_succ, List.sum_cons]; omega
theorem Lb.pr1 (hs : ∀ i j, r i j = r j i) {i k : Nat} (hi : i < N) (hk : k < i) {s : List Nat × Bool} (h : Lb N r s.1) :
    (pr1 r i s k = s ∧ (r i k = true → s.1.getD i 0 = s.1.getD k 0)) ∨ ((Cls.pr1 r i s k).2 = true ∧ (Cls.pr1 r i s k).1.sum < s.1.sum ∧ Lb N r (Cls.pr1 r i s k).1) := by
  unfold Cls.pr1
  by_cases hc : s.1.getD i 0 ≠ s.1.getD k 0 ∧ r i k = true
  · rw [if_pos hc]
    obtain ⟨a, ha, hal, hac⟩ := h.at' i hi
    obtain ⟨b, hb, hbl, hbc⟩ := h.at' k (by omega)
    have hga := getD_of ha
    have hgb := getD_of hb
    rw [hga, hgb] at hc ⊢
    obtain ⟨hab, hr⟩ := hc
    have hik : Conn N r i k := .step (.refl hi) hr (by omega)
    have hki : Conn N r k i := hik.symm hs
    have hlen := h.len
    have hm : min a b ≤ a ∧ min a b ≤ b := ⟨Nat.min_le_left _ _, Nat.min_le_right _ _⟩
    have hmc : Conn N r i (min a b) ∧ Conn N r k (min a b) := by
      rcases Nat.le_total a b with hl | hl
      · rw [Nat.min_eq_left hl]; exact ⟨hac, hki.trans hac⟩
      · rw [Nat.min_eq_right hl]; exact ⟨hik.trans hbc, hbc⟩
    have hk' : (s.1.set i (min a b))[k]? = some b := by rw [List.getElem?_set_ne (by omega)]; exact hb
    have s1 := sum_set (m := min a b) ha
    have s2 := sum_set (m := min a b) hk'
    refine .inr ⟨rfl, ?_, ⟨by simp [hlen], fun j hj => ?_⟩⟩
    · show ((s.1.set i (min a b)).set k (min a b)).sum < s.1.sum
      rcases Nat.lt_or_ge a b with hl | hl
      · rw [Nat.min_eq_left (by omega)] at s1 s2 ⊢; omega
      · rw [Nat.min_eq_right hl] at s1 s2 ⊢; omega
    · show ∃ v, ((s.1.set i (min a b)).set k (min a b))[j]? = some v ∧ v ≤ j ∧ Conn N r j v
      by_cases hjk : j = k
      · subst hjk
        exact ⟨min a b, List.getElem?_set_self (by simp; omega), by omega, hmc.2⟩
      · rw [List.getElem?_set_ne (Ne.symm hjk)]
        by_cases hji : j = i
        · subst hji
          exact ⟨min a b, List.getElem?_set_self (by omega), by omega, hmc.1⟩
        · rw [List.getElem?_set_ne (Ne.symm hji)]; exact h.at' j hj
  · rw [if_neg hc]
    exact .inl ⟨rfl, fun hr => Classical.byContradiction fun hne => hc ⟨hne, hr⟩⟩
/-- What is known within a round that began with the labels lb0; `seen` are the pairs that were looked at. -/
def Rd (N : Nat) (r : Nat → Nat → Bool) (lb0 : List Nat) (s : List Nat × Bool) (seen : Nat → Nat → Prop) : Prop :=
  Lb N r s.1 ∧ ((s.2 = true ∧ s.1.sum < lb0.sum) ∨ (s = (lb0, false) ∧ ∀ a b, seen a b → r a b = true → lb0.getD a 0 = lb0.getD b 0))
theorem Rd.step (hs : ∀ i j, r i j = r j i) {lb0 : List Nat} {s : List Nat × Bool} {seen seen' : Nat → Nat → Prop} {i k : Nat} (hi : i < N) (hk : k < i) (h : Rd N r lb0 s seen) (hseen : ∀ a b, seen' a b → seen a b ∨ (a = i ∧ b = k)) : Rd N r lb0 (pr1 r i s k) seen' := by
  obtain ⟨h1, h2⟩ := h
  rcases Lb.pr1 hs hi hk h1 with ⟨e, hr⟩ | ⟨e1, e2, e3⟩
  · rw [e]
    refine ⟨h1, ?_⟩
    rcases h2 with h2 | ⟨h2, h3⟩
    · exact .inl h2
    · refine .inr ⟨h2, fun a b hab hrab => ?_⟩
      rcases hseen a b hab with hab | ⟨ea, eb⟩
      · exact h3 a b hab hrab
      · subst ea; subst eb; have := hr hrab; rw [h2] at this; exact this
  · refine ⟨e3, .inl ⟨e1, ?_⟩⟩
    rcases h2 with ⟨_, h2⟩ | ⟨h2, _⟩
    · omega
    · rw [h2] at e2
      have : s.1 = lb0 := by rw [h2]
      rw [h2]; exact e2
theorem Rd.in_ (hs : ∀ i j, r i j = r j i) {lb0 : List Nat} {i : Nat} (hi : i < N) {s : List Nat × Bool} (h : Rd N r lb0 s fun a b => a < i ∧ b < a) : ∀ m, m ≤ i → Rd N r lb0 (prIn r i s m) fun a b => (a < i ∧ b < a) ∨ (a = i ∧ b < m) := by
  intro m
  induction m with
  | zero =>
    intro _
    obtain ⟨h1, h2⟩ := h
    refine ⟨h1, ?_⟩
    rcases h2 with h2 | ⟨h2, h3⟩
    · exact .inl h2
    · exact .inr ⟨h2, fun a b hab => h3 a b (hab.resolve_right fun hh => absurd hh.2 (Nat.not_lt_zero _))⟩
  | succ m ih =>
    intro hm
    rw [prIn_succ]
    refine Rd.step hs hi (by omega) (ih (by omega)) fun a b hab => ?_
    rcases hab with hab | ⟨ha, hb⟩
    · exact .inl (.inl hab)
    · rcases Nat.lt_or_ge b m with hl | hl
      · exact .inl (.inr ⟨ha, hl⟩)
      · exact .inr ⟨ha, by omega⟩
theorem Rd.all (hs : ∀ i j, r i j = r j i) {lb0 : List Nat} (h : Lb N r lb0) : ∀ m, m ≤ N → Rd N r lb0 (prAll r (lb0, false) m) fun a b => a < m ∧ b < a := by
  intro m
  induction m with
  | zero => intro _; exact ⟨h, .inr ⟨rfl, fun a b hab => absurd hab.1 (Nat.not_lt_zero _)⟩⟩
  | succ m ih =>
    intro hm
    rw [prAll_succ]
    obtain ⟨h1, h2⟩ := Rd.in_ hs (by omega) (ih (by omega)) m (Nat.le_refl _)
    refine ⟨h1, ?_⟩
    rcases h2 with h2 | ⟨h2, h3⟩
    · exact .inl h2
    · refine .inr ⟨h2, fun a b hab => h3 a b ?_⟩
      rcases Nat.lt_or_ge a m with hl | hl
      · exact .inl ⟨hl, hab.2⟩
      · exact .inr ⟨by omega, by omega⟩
/-- When nothing changes any more, the labels are the least members. -/
theorem Lb.last (hs : ∀ i j, r i j = r j i) {lb : List Nat} (h : Lb N r lb) (hr : ∀ a b, a < N → b < a → r a b = true → lb.getD a 0 = lb.getD b 0) : lb = (List.range N).map (lead N r) := by
  have heq : ∀ a b, Conn N r a b → lb.getD a 0 = lb.getD b 0 := fun a b hc => by
    induction hc with
    | refl _ => rfl
    | step hc hrr hk ih =>
      rename_i j k
      rw [ih]
      rcases Nat.lt_trichotomy j k with hl | hl | hl
      · exact (hr k j hk hl (by rw [hs]; exact hrr)).symm
      · subst hl; rfl
      · exact hr j k hc.lt.2 hl hrr
  apply List.ext_getElem?
  intro k
  rcases Nat.lt_or_ge k N with hk | hk
  · obtain ⟨v, hv, hvk, hvc⟩ := h.at' k hk
    obtain ⟨l1, l2⟩ := lead_spec (r := r) hk
    have hlN := l1.lt.2
    obtain ⟨w, hw, hwl, hwc⟩ := h.at' _ hlN
    have e := heq _ _ l1
    rw [getD_of hv, getD_of hw] at e
    subst e
    have := l2 v hvc
    rw [hv]
    simp [hk]
    omega
  · rw [List.getElem?_eq_none (by rw [h.len]; exact hk)]
    simp [hk]
theorem Lb.start : Lb N r (List.range N) := ⟨by simp, fun k hk => ⟨k, by simp [hk], Nat.le_refl _, .refl hk⟩⟩
theorem prAll_last (hs : ∀ i j, r i j = r j i) {lb : List Nat} (h : Lb N r lb) (he : (prAll r (lb, false) N).2 = false) : (prAll r (lb, false) N).1 = (List.range N).map (lead N r) := by
  obtain ⟨h1, h2⟩ := Rd.all hs h N (Nat.le_refl _)
  rcases h2 with ⟨h2, _⟩ | ⟨h2, h3⟩
  · rw [he] at h2; cases h2
  · rw [h2]
    exact h.last hs fun a b ha hb hr => h3 a b ⟨ha, hb⟩ hr
theorem prAll_more (hs : ∀ i j, r i j = r j i) {lb : List Nat} (h : Lb N r lb) (he : (prAll r (lb, false) N).2 = true) : Lb N r (prAll r (lb, false) N).1 ∧ (prAll r (lb, false) N).1.sum < lb.sum := by
  obtain ⟨h1, h2⟩ := Rd.all hs h N (Nat.le_refl _)
  rcases h2 with ⟨_, h2⟩ | ⟨h2, _⟩
  · exact ⟨h1, h2⟩
  · rw [h2] at he; cases he
theorem prIn_lb (hs : ∀ i j, r i j = r j i) {i : Nat} (hi : i < N) {s : List Nat × Bool} (h : Lb N r s.1) : ∀ m, m ≤ i → Lb N r (prIn r i s m).1 := by
  intro m
  induction m with
  | zero => intro _; exact h
  | succ m ih =>
    intro hm
    rw [prIn_succ]
    rcases Lb.pr1 hs hi (show m < i by omega) (ih (by omega)) with ⟨e, _⟩ | ⟨_, _, e⟩
    · rw [e]; exact ih (by omega)
    · exact e
theorem prAll_lb (hs : ∀ i j, r i j = r j i) {s : List Nat × Bool} (h : Lb N r s.1) : ∀ m, m ≤ N → Lb N r (prAll r s m).1 := by
  intro m
  induction m with
  | zero => intro _; exact h
  | succ m ih => intro hm; rw [prAll_succ]; exact prIn_lb hs (by omega) (ih (by omega)) m (Nat.le_refl _)
/-- Numbers of the least members, in order. -/
noncomputable def numL (N : Nat) (r : Nat → Nat → Bool) (i : Nat) : List Int := (List.range i).map (fun k => (cls N r k : Int)) ++ List.replicate (N - i) 0
theorem numL_len {i : Nat} (h : i ≤ N) : (numL N r i).length = N := by unfold numL; simp; omega
theorem numL_set {i : Nat} (h : i < N) : (numL N r i).set i (cls N r i : Int) = numL N r (i + 1) := by
  unfold numL
  obtain ⟨m, hm⟩ : ∃ m, N - i = m + 1 := ⟨N - i - 1, by omega⟩
  have h2 : N - (i + 1) = m := by omega
  rw [hm, h2, List.set_append_right _ _ (by simp), List.range_succ]
  simp [List.replicate_succ]
theorem numL_get {i k : Nat} (h : k < i) : (numL N r i)[k]? = some (cls N r k : Int) := by
  unfold numL
  rw [List.getElem?_append_left (by simpa using h)]
  simp [h]
theorem numL_own {i : Nat} (h : i < N) : (numL N r i)[i]? = some 0 := by
  unfold numL
  rw [List.getElem?_append_right (by simp)]
  simp [List.getElem?_replicate]
  omega
theorem numL_last : numL N r N = (List.range N).map fun k => (cls N r k : Int) := by unfold numL; simp
theorem cls_lead (hs : ∀ i j, r i j = r j i) {i : Nat} (h : i < N) : cls N r (lead N r i) = cls N r i := by unfold cls; rw [lead_lead hs h]
end
end Go.Eng.Cls

/- ref41.Classes: rounds of least labels, then their numbers: the classes of the relation. -/
namespace Go.Eng.Rt
open Go.Eng Go.Eng.Cls

theorem nL_get {l : List Nat} {k v : Nat} (h : l[k]? = some v) : (nL l)[k]? = some (iT (v : Int)) := by simp [nL, h]
theorem nL_set (l : List Nat) (k v : Nat) : (nL l).set k (iT (v : Int)) = nL (l.set k v) := by simp [nL, List.map_set]
theorem mmI_min (a b : Nat) : mmI Bool.false (a : Int) (b : Int) = ((min a b : Nat) : Int) := by
  unfold mmI
  show min (a : Int) (b : Int) = _
  omega
def L3 (ps : List Pt) (t : Rat) (i : Nat) (s : List Nat × Bool) (k : Nat) : (List T × Unit × List T × Bool × Int × Int × Bool × List T × List T × Unit) :=
  (ps.map ptT, (), nL s.1, s.2, (i : Int), (k : Int), rNeg t, rNum t, rDen t, ())
def L2 (ps : List Pt) (t : Rat) (i : Nat) (s : List Nat × Bool) : (List T × Unit × List T × Bool × Int × Bool × List T × List T × Unit) :=
  (ps.map ptT, (), nL s.1, s.2, (i : Int), rNeg t, rNum t, rDen t, ())
def L1 (ps : List Pt) (t : Rat) (s : List Nat × Bool) : (List T × Unit × List T × Bool × Bool × List T × List T × Unit) :=
  (ps.map ptT, (), nL s.1, s.2, rNeg t, rNum t, rDen t, ())
theorem lab_step {ps : List Pt} (hps : ∀ q ∈ ps, SmP q) (hN : ps.length ≤ 1000) {t : Rat} (ht : Ez 16 400 t) {s : List Nat × Bool} (hs : s.1.length = ps.length) {i k : Nat} (hi : i < ps.length) (hk : k < i) :
    u_ref41_Classes_l3 (L3 ps t i s k) = some (.inl (L3 ps t i (pr1 (rel t ps) i s k) (k + 1))) := by
  obtain ⟨p, hp, hpm⟩ := get_of_lt hi
  obtain ⟨q, hq, hqm⟩ := get_of_lt (l := ps) (k := k) (by omega)
  obtain ⟨a, ha, _⟩ := get_of_lt (l := s.1) (k := i) (by omega)
  obtain ⟨b, hb, _⟩ := get_of_lt (l := s.1) (k := k) (by omega)
  have wk : wr .i64 ((k : Int) + 1) = ((k + 1 : Nat) : Int) := by rw [wri' (by omega) (by omega)]; push_cast; rfl
  have hlt : decide ((k : Int) < (i : Int)) = true := decide_eq_true (by omega)
  have hgp : (ps.map ptT)[i]? = some (ptT p) := by simp [hp]
  have hgq : (ps.map ptT)[k]? = some (ptT q) := by simp [hq]
  have hci : chkI ((nL s.1).length : Int) (i : Int) = some i := chkI_nat (by rw [nL_len]; omega)
  have hck : chkI ((nL s.1).length : Int) (k : Int) = some k := chkI_nat (by rw [nL_len]; omega)
  have hck' : ∀ m : Nat, chkI ((nL (s.1.set i m)).length : Int) (k : Int) = some k := fun m => chkI_nat (by rw [nL_len, List.length_set]; omega)
  have hb' : ∀ m : Nat, (nL (s.1.set i m))[k]? = some (iT (b : Int)) := fun m => nL_get (by rw [List.getElem?_set_ne (by omega)]; exact hb)
  have hga := getD_of ha
  have hgb := getD_of hb
  have k0 : ∀ q : Pt, T.bool? (T.cell (ptT q) 0) = some (rNeg q.x) := fun _ => rfl
  have k1 : ∀ q : Pt, T.sl? 1 (T.cell (ptT q) 1) = some (rNum q.x) := fun _ => T_sl _ _
  have k2 : ∀ q : Pt, T.sl? 1 (T.cell (ptT q) 2) = some (rDen q.x) := fun _ => T_sl _ _
  have k3 : ∀ q : Pt, T.bool? (T.cell (ptT q) 3) = some (rNeg q.y) := fun _ => rfl
  have k4 : ∀ q : Pt, T.sl? 1 (T.cell (ptT q) 4) = some (rNum q.y) := fun _ => T_sl _ _
  have k5 : ∀ q : Pt, T.sl? 1 (T.cell (ptT q) 5) = some (rDen q.y) := fun _ => T_sl _ _
  have k6 : ∀ q : Pt, T.bool? (T.cell (ptT q) 6) = some (rNeg q.z) := fun _ => rfl
  have k7 : ∀ q : Pt, T.sl? 1 (T.cell (ptT q) 7) = some (rNum q.z) := fun _ => T_sl _ _
  have k8 : ∀ q : Pt, T.sl? 1 (T.cell (ptT q) 8) = some (rDen q.z) := fun _ => T_sl _ _
  have obT : ∀ {α R : Type} (a : α) (k : α → Option R), ob (some a) k = k a := fun _ _ => rfl
  have onT : ∀ {α β R : Type} (x : α) (f : α → Option R) (g : β → Option R), onS (.inl x : α ⊕ β) f g = f x := fun _ _ _ => rfl
  have fold : ∀ z : Int, T.v (Value.int .i64 z) = iT z := fun _ => rfl
  unfold u_ref41_Classes_l3 L3 pr1
  simp only [ltI_eq, hlt, cond_true, idxL_nat, hgp, hgq, obT, lenL_eq, hci, hck, idxN_eq, nL_get ha, nL_get hb, iT_int, hga, hgb, eqI_eq]
  by_cases he : a = b
  · have hd : decide ((a : Int) = (b : Int)) = true := decide_eq_true (by omega)
    subst he
    simp only [decide_true, Bool.not_true, cond_false, obT, onT, addI_eq, wk, ne_eq, not_true, false_and, if_false]
  · have hd : decide ((a : Int) = (b : Int)) = false := decide_eq_false (by omega)
    simp only [hd, Bool.not_false, cond_true, obT, k0, k1, k2, k3, k4, k5, k6, k7, k8, r_near ht (hps _ hpm) (hps _ hqm), ne_eq, he, not_false_eq_true, true_and]
    rw [← rel_eq hp hq]
    cases hr : rel t ps i k with
    | true => simp only [cond_true, obT, mmI_min, fold, iT_upd, nL_set, hck', hb', onT, addI_eq, wk, if_true]
    | false => simp only [cond_false, obT, onT, addI_eq, wk, Bool.false_eq_true, if_false]
theorem lab_in {ps : List Pt} (hps : ∀ q ∈ ps, SmP q) (hN : ps.length ≤ 1000) {t : Rat} (ht : Ez 16 400 t) {s : List Nat × Bool} (hs : Lb ps.length (rel t ps) s.1) {i : Nat} (hi : i < ps.length) :
    loopU u_ref41_Classes_l3 (L3 ps t i s 0) = some (.inl (L2 ps t i (prIn (rel t ps) i s i))) := by
  have h := loopU_for (F := u_ref41_Classes_l3) i (fun k => L3 ps t i (prIn (rel t ps) i s k) k) (fun k hk => by
    rw [prIn_succ]
    exact lab_step hps hN ht (prIn_lb (rel_symm t ps) hi hs k (by omega)).len hi hk)
  have h0 : prIn (rel t ps) i s 0 = s := rfl
  rw [h0] at h
  rw [h]
  refine loopU_out ?_
  have hlt : decide ((i : Int) < (i : Int)) = false := decide_eq_false (by omega)
  unfold u_ref41_Classes_l3 L3 L2
  simp only [ltI_eq, hlt, cond_false]
theorem lab_out {ps : List Pt} (hps : ∀ q ∈ ps, SmP q) (hN : ps.length ≤ 1000) {t : Rat} (ht : Ez 16 400 t) {s : List Nat × Bool} (hs : Lb ps.length (rel t ps) s.1) {i : Nat} (hi : i < ps.length) :
    u_ref41_Classes_l2 (L2 ps t i s) = some (.inl (L2 ps t (i + 1) (prIn (rel t ps) i s i))) := by
  have wi : wr .i64 ((i : Int) + 1) = ((i + 1 : Nat) : Int) := by rw [wri' (by omega) (by omega)]; push_cast; rfl
  have hpl : ((ps.map ptT).length : Int) = (ps.length : Int) := by rw [List.length_map]
  have hlt : decide ((i : Int) < (ps.length : Int)) = true := decide_eq_true (by omega)
  have fold : (ps.map ptT, (), nL s.1, s.2, (i : Int), (0 : Int), rNeg t, rNum t, rDen t, ()) = L3 ps t i s 0 := rfl
  have hin := lab_in hps hN ht hs hi
  unfold u_ref41_Classes_l2
  conv => lhs; unfold L2
  simp only [ltI_eq, lenL_eq, hpl, hlt, cond_true, fold, hin, obS, onS_l]
  unfold L2
  simp only [addI_eq, wi]
theorem lab_all {ps : List Pt} (hps : ∀ q ∈ ps, SmP q) (hN : ps.length ≤ 1000) {t : Rat} (ht : Ez 16 400 t) {s : List Nat × Bool} (hs : Lb ps.length (rel t ps) s.1) :
    loopU u_ref41_Classes_l2 (L2 ps t 0 s) = some (.inl (L1 ps t (prAll (rel t ps) s ps.length))) := by
  have h := loopU_for (F := u_ref41_Classes_l2) ps.length (fun i => L2 ps t i (prAll (rel t ps) s i)) (fun i hi => by
    rw [prAll_succ]
    exact lab_out hps hN ht (prAll_lb (rel_symm t ps) hs i (by omega)) hi)
  have h0 : prAll (rel t ps) s 0 = s := rfl
  rw [h0] at h
  rw [h]
  refine loopU_out ?_
  have hpl : ((ps.map ptT).length : Int) = (ps.length : Int) := by rw [List.length_map]
  have hlt : decide ((ps.length : Int) < (ps.length : Int)) = false := decide_eq_false (by omega)
  unfold u_ref41_Classes_l2 L2 L1
  simp only [ltI_eq, lenL_eq, hpl, hlt, cond_false]
theorem lab_round {ps : List Pt} (hps : ∀ q ∈ ps, SmP q) (hN : ps.length ≤ 1000) {t : Rat} (ht : Ez 16 400 t) {lb : List Nat} (hs : Lb ps.length (rel t ps) lb) :
    u_ref41_Classes_l1 (L1 ps t (lb, true)) = some (.inl (L1 ps t (prAll (rel t ps) (lb, false) ps.length))) := by
  have fold : (ps.map ptT, (), nL lb, false, (0 : Int), rNeg t, rNum t, rDen t, ()) = L2 ps t 0 (lb, false) := rfl
  have hin := lab_all hps hN ht (s := (lb, false)) hs
  unfold u_ref41_Classes_l1
  conv => lhs; unfold L1
  simp only [cond_true, fold, hin, obS, onS_l]
theorem lab_end {ps : List Pt} {t : Rat} {lb : List Nat} : u_ref41_Classes_l1 (L1 ps t (lb, false)) = some (.inr (.inl (nL lb, ()))) := by
  unfold u_ref41_Classes_l1 L1
  simp only [cond_false]
theorem lab_loop {ps : List Pt} (hps : ∀ q ∈ ps, SmP q) (hN : ps.length ≤ 1000) {t : Rat} (ht : Ez 16 400 t) : ∀ (m : Nat) (lb : List Nat), lb.sum ≤ m → Lb ps.length (rel t ps) lb →
    loopU u_ref41_Classes_l1 (L1 ps t (lb, true)) = some (.inl (nL ((List.range ps.length).map (lead ps.length (rel t ps))), ())) := by
  intro m
  induction m with
  | zero =>
    intro lb hm hL
    rw [loopU_go (lab_round hps hN ht hL)]
    cases he : (prAll (rel t ps) (lb, false) ps.length).2 with
    | true => have := (prAll_more (rel_symm t ps) hL he).2; omega
    | false =>
      have h1 := prAll_last (rel_symm t ps) hL he
      generalize prAll (rel t ps) (lb, false) ps.length = s at he h1
      obtain ⟨l, b⟩ := s
      simp only at he h1
      rw [he, h1]
      exact loopU_out lab_end
  | succ m ih =>
    intro lb hm hL
    rw [loopU_go (lab_round hps hN ht hL)]
    cases he : (prAll (rel t ps) (lb, false) ps.length).2 with
    | true =>
      obtain ⟨h1, h2⟩ := prAll_more (rel_symm t ps) hL he
      generalize prAll (rel t ps) (lb, false) ps.length = s at he h1 h2
      obtain ⟨l, b⟩ := s
      simp only at he h1 h2
      rw [he]
      exact ih l (by omega) h1
    | false =>
      have h1 := prAll_last (rel_symm t ps) hL he
      generalize prAll (rel t ps) (lb, false) ps.length = s at he h1
      obtain ⟨l, b⟩ := s
      simp only at he h1
      rw [he, h1]
      exact loopU_out lab_end
/-! numbers -/
noncomputable def M0 (N : Nat) (r : Nat → Nat → Bool) (i : Nat) : (List T × List T × Int × Int × Unit) :=
  (nL ((List.range N).map (lead N r)), iL (numL N r i), (rank N r i : Int), (i : Int), ())
theorem num_step {N : Nat} {r : Nat → Nat → Bool} (hs : ∀ i j, r i j = r j i) (hN : N ≤ 1000000) {i : Nat} (hi : i < N) : u_ref27_Number_l0 (M0 N r i) = some (.inl (M0 N r (i + 1))) := by
  have wi : wr .i64 ((i : Int) + 1) = ((i + 1 : Nat) : Int) := by rw [wri' (by omega) (by omega)]; push_cast; rfl
  have hll : ((nL ((List.range N).map (lead N r))).length : Int) = (N : Int) := by rw [nL_len]; simp
  have hlt : decide ((i : Int) < (N : Int)) = true := decide_eq_true (by omega)
  have hg : (nL ((List.range N).map (lead N r)))[i]? = some (iT (lead N r i : Int)) := nL_get (by simp [hi])
  have hnl : ((iL (numL N r i)).length : Int) = (N : Int) := by rw [iL_len, numL_len (by omega)]
  have hci : chkI (N : Int) (i : Int) = some i := chkI_nat (by omega)
  have fold : ∀ z : Int, T.v (Value.int .i64 z) = iT z := fun _ => rfl
  have obT : ∀ {α R : Type} (a : α) (k : α → Option R), ob (some a) k = k a := fun _ _ => rfl
  have onT : ∀ {α β R : Type} (x : α) (f : α → Option R) (g : β → Option R), onS (.inl x : α ⊕ β) f g = f x := fun _ _ _ => rfl
  have hrk : rank N r i ≤ i := rank_le i
  unfold u_ref27_Number_l0 M0
  simp only [ltI_eq, lenL_eq, hll, hlt, cond_true, idxL_nat, hg, obT, iT_int, eqI_eq]
  by_cases he : lead N r i = i
  · have hd : decide ((lead N r i : Int) = (i : Int)) = true := decide_eq_true (by omega)
    have hsucc : rank N r (i + 1) = rank N r i + 1 := by simp only [rank, he, if_true]
    have hcl : cls N r i = rank N r i := by unfold cls; rw [he]
    have wn : wr .i64 ((rank N r i : Int) + 1) = (rank N r (i + 1) : Int) := by rw [wri' (by omega) (by omega), hsucc]; push_cast; rfl
    have hset := numL_set (r := r) hi
    rw [hcl] at hset
    simp only [hd, cond_true, hnl, hci, obT, idxN_eq, iL_get (numL_own hi), fold, iT_upd, iL_set, hset, addI_eq, wn, wi, onT]
  · have hd : decide ((lead N r i : Int) = (i : Int)) = false := decide_eq_false (by omega)
    have hlt' : lead N r i < i := Nat.lt_of_le_of_ne (lead_le hi) he
    have hsucc : rank N r (i + 1) = rank N r i := by simp only [rank, if_neg he, Nat.add_zero]
    have hcl : chkI (N : Int) (lead N r i : Int) = some (lead N r i) := chkI_nat (by omega)
    have hgl : (iL (numL N r i))[lead N r i]? = some (iT (cls N r i : Int)) := by rw [iL_get (numL_get hlt'), cls_lead hs hi]
    have hset := numL_set (r := r) hi
    simp only [hd, cond_false, iT_any, obT, hnl, hcl, hci, idxN_eq, hgl, iT_int, iL_get (numL_own hi), fold, iT_upd, iL_set, hset, addI_eq, wi, hsucc, onT]
theorem r_Number {N : Nat} {r : Nat → Nat → Bool} (hs : ∀ i j, r i j = r j i) (hN : N ≤ 1000000) :
    u_ref27_Number (nL ((List.range N).map (lead N r)), ()) = some (iL ((List.range N).map fun k => (cls N r k : Int)), ()) := by
  have hll : ((nL ((List.range N).map (lead N r))).length : Int) = (N : Int) := by rw [nL_len]; simp
  have hmk : mkLen (N : Int) (N : Int) 8 = some (N, N) := by rw [mkLen_ok (by omega) (by omega) (by omega) (by decide)]; simp
  have hrep : List.replicate N (T.v (Value.int .i64 0)) = iL (numL N r 0) := by unfold numL iL; simp; exact .inr rfl
  have h := loopU_for (F := u_ref27_Number_l0) N (fun i => M0 N r i) (fun i hi => num_step hs hN hi)
  have hout : loopU u_ref27_Number_l0 (M0 N r N) = some (.inl (iL (numL N r N), ())) := by
    refine loopU_out ?_
    have hlt : decide ((N : Int) < (N : Int)) = false := decide_eq_false (by omega)
    unfold u_ref27_Number_l0 M0
    simp only [ltI_eq, lenL_eq, hll, hlt, cond_false]
  have fold : (nL ((List.range N).map (lead N r)), iL (numL N r 0), (0 : Int), (0 : Int), ()) = M0 N r 0 := rfl
  unfold u_ref27_Number
  simp only [lenL_eq, hll, hmk, obS, repL_eq, hrep, fold, h, hout, onS_l, numL_last]
theorem rng_loop {ps : List Pt} (hN : ps.length ≤ 1000) {t : Rat} :
    loopU u_ref41_Classes_l0 (ps.map ptT, (), nL ((List.range 0) ++ List.replicate (ps.length - 0) 0), (0 : Int), rNeg t, rNum t, rDen t, ()) = some (.inl (ps.map ptT, (), nL (List.range ps.length), rNeg t, rNum t, rDen t, ())) := by
  have h := loopU_for (F := u_ref41_Classes_l0) ps.length (fun k => (ps.map ptT, (), nL ((List.range k) ++ List.replicate (ps.length - k) 0), (k : Int), rNeg t, rNum t, rDen t, ())) (fun k hk => by
    have hl : ((nL ((List.range k) ++ List.replicate (ps.length - k) 0)).length : Int) = (ps.length : Int) := by rw [nL_len]; simp; omega
    have hlt : decide ((k : Int) < (ps.length : Int)) = true := decide_eq_true (by omega)
    have hck : chkI (ps.length : Int) (k : Int) = some k := chkI_nat (by omega)
    have wk : wr .i64 ((k : Int) + 1) = ((k + 1 : Nat) : Int) := by rw [wri' (by omega) (by omega)]; push_cast; rfl
    have hg : ((List.range k) ++ List.replicate (ps.length - k) 0)[k]? = some 0 := by
      rw [List.getElem?_append_right (by simp)]
      simp [List.getElem?_replicate]
      omega
    have hset : ((List.range k) ++ List.replicate (ps.length - k) 0).set k k = (List.range (k + 1)) ++ List.replicate (ps.length - (k + 1)) 0 := by
      obtain ⟨m, hm⟩ : ∃ m, ps.length - k = m + 1 := ⟨ps.length - k - 1, by omega⟩
      have h2 : ps.length - (k + 1) = m := by omega
      rw [hm, h2, List.set_append_right _ _ (by simp), List.range_succ]
      simp [List.replicate_succ]
    have fold : ∀ z : Int, T.v (Value.int .i64 z) = iT z := fun _ => rfl
    unfold u_ref41_Classes_l0
    simp only [ltI_eq, lenL_eq, hl, hlt, cond_true, hck, obS, idxN_eq, nL_get hg, fold, iT_upd, nL_set, hset, addI_eq, wk])
  simp only [Int.natCast_zero] at h
  refine Eq.trans h ?_
  refine loopU_out ?_
  have hl : ((nL ((List.range ps.length) ++ List.replicate (ps.length - ps.length) 0)).length : Int) = (ps.length : Int) := by rw [nL_len]; simp
  have hlt : decide ((ps.length : Int) < (ps.length : Int)) = false := decide_eq_false (by omega)
  unfold u_ref41_Classes_l0
  simp only [ltI_eq, lenL_eq, hl, hlt, cond_false]
  simp
/-- ref41.Classes: the classes of the relation. -/
theorem r_Classes {ps : List Pt} (hps : ∀ q ∈ ps, SmP q) (hN : ps.length ≤ 1000) {t : Rat} (ht : Ez 16 400 t) :
    u_ref41_Classes (ps.map ptT, (rNeg t, (rNum t, (rDen t, ())))) = some (iL ((List.range ps.length).map fun k => (cls ps.length (rel t ps) k : Int)), ()) := by
  have hpl : ((ps.map ptT).length : Int) = (ps.length : Int) := by rw [List.length_map]
  have hmk : mkLen (ps.length : Int) (ps.length : Int) 8 = some (ps.length, ps.length) := by
    rw [mkLen_ok (by omega) (by omega) (by omega) (by decide)]; simp
  have hrep : List.replicate ps.length (T.v (Value.int .i64 0)) = nL ((List.range 0) ++ List.replicate (ps.length - 0) 0) := by
    unfold nL iT; simp
  have fold : (ps.map ptT, (), nL (List.range ps.length), true, rNeg t, rNum t, rDen t, ()) = L1 ps t (List.range ps.length, true) := rfl
  have hl := lab_loop hps hN ht _ _ (Nat.le_refl _) (Lb.start (N := ps.length) (r := rel t ps))
  have hn := r_Number (N := ps.length) (rel_symm t ps) (by omega)
  unfold u_ref41_Classes
  simp only [lenL_eq, hpl, hmk, obS, repL_eq, hrep, rng_loop hN, onS_l, fold, hl, hn]
/-- SameInts of a list with itself. -/
theorem r_SameInts {l : List Int} (h : l.length ≤ 1000000) : u_ref41_SameInts (iL l, (iL l, ())) = some (true, ()) := by
  have hl : ((iL l).length : Int) = (l.length : Int) := by rw [iL_len]
  have hloop := loopU_for (F := u_ref41_SameInts_l0) l.length (fun i => (iL l, iL l, (i : Int), ())) (fun i hi => by
    obtain ⟨v, hv, _⟩ := get_of_lt hi
    have hlt : decide ((i : Int) < (l.length : Int)) = true := decide_eq_true (by omega)
    have wi : wr .i64 ((i : Int) + 1) = ((i + 1 : Nat) : Int) := by rw [wri' (by omega) (by omega)]; push_cast; rfl
    unfold u_ref41_SameInts_l0
    simp only [ltI_eq, lenL_eq, hl, hlt, cond_true, idxL_nat, iL_get hv, obS, iT_int, eqI_eq, decide_true, Bool.not_true, cond_false, addI_eq, wi])
  have hout : loopU u_ref41_SameInts_l0 (iL l, iL l, (l.length : Int), ()) = some (.inr (.inl ())) := by
    refine loopU_out ?_
    have hlt : decide ((l.length : Int) < (l.length : Int)) = false := decide_eq_false (by omega)
    unfold u_ref41_SameInts_l0
    simp only [ltI_eq, lenL_eq, hl, hlt, cond_false]
  simp only [Int.natCast_zero] at hloop
  unfold u_ref41_SameInts
  simp only [eqI_eq, decide_true, Bool.not_true, cond_false, hloop, hout, obS, onS_r, onS_l]
end Go.Eng.Rt

/- SewClasses answers true on every list. -/
namespace Go.Eng.Rt
open Go.Eng Go.Eng.Cls
theorem law_classes (zs : List Int) : u_brepkernellaw41_SewClasses (zs.map intT, ()) = some (true, ()) := by
  unfold u_brepkernellaw41_SewClasses
  rw [s_Light]
  simp only [obS, sane_true]
  by_cases hL : (zs.map intT).length ≤ 500
  · rw [decide_eq_true hL]
    simp only [Bool.not_true, cond_false, s_Roll, obS]
    obtain ⟨ps, a1, e1, D1, hp0, hp1, hps⟩ := d_points (L := zs.map intT) (a := 0) ⟨zs, rfl, by simp at hL; omega, by omega, by omega⟩
    obtain ⟨v, a2, e2, v0, v1, D2⟩ := s_Next D1 (n := 20) (by omega) (by omega)
    have hw : wr .i64 (v - 2) = v - 2 := wri' (by omega) (by omega)
    have hf := r_Frac (n := v - 2) (d := 8) (by omega) (by omega) (by omega) (by omega) (by omega)
    have ht : Ez 16 400 (fracQ (v - 2) 8) := by
      rw [fracQ_pos (by omega)]
      exact Ez.frac (by decide) (by decide) (by decide) (by simp; omega)
    generalize fracQ (v - 2) 8 = t at hf ht
    have hC := p_Classes hps (by omega) ht
    have hR := r_Classes hps (by omega) ht
    generalize hc : ((List.range ps.length).map fun k => (cls ps.length (rel t ps) k : Int)) = c at hC hR
    have hcl : c.length = ps.length := by rw [← hc]; simp
    have hSI := r_SameInts (l := c) (by omega)
    have hS := p_Spread hps (by omega) hcl
    have hT := r_Spread hps (by omega) hcl
    have hez := spOut_ez (c := c) hps (w := 0) Ez.zero ps.length
    have hsame := r_Same hez.sm.fit hez.sm.fit
    have hcut : cutL (iL c) (1 : Int) (c.length : Int) = some (iL (c.drop 1)) := by
      rw [show (c.length : Int) = ((iL c).length : Int) by rw [iL_len]]
      have h1 : cutL (iL c) ((1 : Nat) : Int) (((iL c).length : Nat) : Int) = some (((iL c).take (iL c).length).drop 1) := cutL_nat (by rw [iL_len]; omega) (Nat.le_refl _)
      rw [List.take_length] at h1
      refine h1.trans ?_
      unfold iL
      rw [List.map_drop]
    have hS0 := p_Spread0 (ps := ps) (c := c.drop 1) (by rw [List.length_drop]; omega)
    have hsg := r_Sign 0
    have hsg0 : sgnQ 0 = 0 := rfl
    have hl : lenL (iL c) = (c.length : Int) := by rw [lenL_eq, iL_len]
    have hq : eqI (0 : Int) (0 : Int) = true := by rw [eqI_eq]; rfl
    simp only [e1, e2, subI_eq, hw, hf, hC, hR, obS, hSI, cond_true, hS, hT, hsame, decide_true, hl, hcut, hS0, hsg, hsg0, hq]
  · rw [decide_eq_false hL]
    rfl
end Go.Eng.Rt
