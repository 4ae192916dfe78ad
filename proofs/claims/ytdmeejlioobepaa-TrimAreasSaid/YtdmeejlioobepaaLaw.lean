/- The functions and the laws of this seat in plain words; each statement names its conditions. -/
import Derived.Test.YtdmeejlioobepaaEng3
import Derived.Test.YtdmeejlioobepaaGen
set_option linter.unusedSimpArgs false
set_option linter.unusedVariables false

/- Natural numbers as lists of limbs of 32 bits, and rational numbers as the program has them: plain facts. -/
namespace Go.Eng.Rt
open Go.Eng

abbrev BB : Nat := 4294967296
/-- The value of limbs, the lowest first. -/
def val : List Nat → Nat
  | [] => 0
  | a :: l => a + BB * val l
/-- The limbs of a number, none for 0. -/
def limbs (n : Nat) : List Nat := if h : n = 0 then [] else (n % BB) :: limbs (n / BB)
termination_by n
decreasing_by exact Nat.div_lt_self (Nat.pos_of_ne_zero h) (by decide)
/-- All are limbs. -/
def Lim (l : List Nat) : Prop := ∀ x ∈ l, x < BB

theorem limbs_zero : limbs 0 = [] := by rw [limbs]; simp
theorem limbs_pos {n : Nat} (h : n ≠ 0) : limbs n = (n % BB) :: limbs (n / BB) := by rw [limbs]; simp [h]
theorem limbs_one {n : Nat} (h : n ≠ 0) (hn : n < BB) : limbs n = [n] := by
  rw [limbs_pos h, Nat.mod_eq_of_lt hn, Nat.div_eq_of_lt hn, limbs_zero]
theorem limbs_two {n : Nat} (h : BB ≤ n) (hn : n < BB * BB) : limbs n = [n % BB, n / BB] := by
  rw [limbs_pos (by simp only [BB] at h; omega), limbs_one (n := n / BB)]
  · have : 0 < n / BB := Nat.div_pos h (by decide)
    omega
  · exact Nat.div_lt_of_lt_mul hn
theorem val_limbs (n : Nat) : val (limbs n) = n := by
  induction n using Nat.strongRecOn with
  | _ n ih =>
    by_cases h : n = 0
    · subst h; rw [limbs_zero]; rfl
    · rw [limbs_pos h, val, ih _ (Nat.div_lt_self (Nat.pos_of_ne_zero h) (by decide))]
      exact Nat.mod_add_div n BB
theorem lim_limbs (n : Nat) : Lim (limbs n) := by
  induction n using Nat.strongRecOn with
  | _ n ih =>
    by_cases h : n = 0
    · subst h; rw [limbs_zero]; intro x hx; cases hx
    · rw [limbs_pos h]
      intro x hx
      rcases List.mem_cons.1 hx with rfl | hx
      · exact Nat.mod_lt _ (by decide)
      · exact ih _ (Nat.div_lt_self (Nat.pos_of_ne_zero h) (by decide)) x hx
theorem Lim.nil : Lim [] := fun x h => by cases h
theorem Lim.cons {a : Nat} {l : List Nat} (h : a < BB) (hl : Lim l) : Lim (a :: l) := fun x hx => by
  rcases List.mem_cons.1 hx with rfl | hx
  · exact h
  · exact hl x hx
theorem Lim.head {a : Nat} {l : List Nat} (h : Lim (a :: l)) : a < BB := h a (by simp)
theorem Lim.tail {a : Nat} {l : List Nat} (h : Lim (a :: l)) : Lim l := fun x hx => h x (by simp [hx])
theorem Lim.append {l m : List Nat} (h : Lim l) (h' : Lim m) : Lim (l ++ m) := fun x hx => (List.mem_append.1 hx).elim (h x) (h' x)
theorem val_lt {l : List Nat} (h : Lim l) : val l < BB ^ l.length := by
  induction l with
  | nil => simp [val]
  | cons a l ih =>
    have h1 := h.head
    have h2 := ih h.tail
    rw [val, List.length_cons, Nat.pow_succ]
    have h3 : val l + 1 ≤ BB ^ l.length := h2
    have h4 : BB * (val l + 1) ≤ BB * BB ^ l.length := Nat.mul_le_mul_left _ h3
    have h5 : BB * (val l + 1) = BB * val l + BB := by rw [Nat.mul_add]; simp
    rw [Nat.mul_comm (BB ^ l.length)]
    omega
/-- Without leading zeros. -/
def trimN (l : List Nat) : List Nat := (l.reverse.dropWhile (· == 0)).reverse
theorem trimN_nil : trimN [] = [] := rfl
theorem trimN_snoc0 (l : List Nat) : trimN (l ++ [0]) = trimN l := by
  unfold trimN; simp
theorem trimN_snoc {l : List Nat} {a : Nat} (h : a ≠ 0) : trimN (l ++ [a]) = l ++ [a] := by
  unfold trimN; simp [h]
theorem val_append (l m : List Nat) : val (l ++ m) = val l + BB ^ l.length * val m := by
  induction l with
  | nil => simp [val]
  | cons a l ih =>
    rw [List.cons_append, val, val, ih, List.length_cons, Nat.pow_succ, Nat.mul_add, Nat.mul_comm (BB ^ l.length) BB, Nat.mul_assoc]
    omega
theorem limbs_ne {n : Nat} (h : n ≠ 0) : limbs n ≠ [] := by rw [limbs_pos h]; simp
/-- The limbs of a number with one limb more. -/
theorem limbs_snoc {l : List Nat} {a : Nat} (hl : Lim l) (ha : a < BB) (h0 : a ≠ 0) : limbs (val (l ++ [a])) = l ++ [a] := by
  induction l with
  | nil => rw [List.nil_append]; show limbs (a + BB * 0) = [a]; rw [Nat.mul_zero, Nat.add_zero, limbs_one h0 ha]
  | cons b l ih =>
    have h1 := hl.head
    rw [List.cons_append, val]
    have hp : val (l ++ [a]) ≠ 0 := by
      intro h
      have := ih hl.tail
      rw [h, limbs_zero] at this
      simp at this
    rw [limbs_pos (by simp only [BB]; omega), Nat.add_mul_mod_self_left, Nat.mod_eq_of_lt h1, Nat.add_mul_div_left _ _ (by decide), Nat.div_eq_of_lt h1, Nat.zero_add, ih hl.tail]
theorem limbs_val {l : List Nat} (h : Lim l) : limbs (val l) = trimN l := by
  have key : ∀ k (l : List Nat), l.length = k → Lim l → limbs (val l) = trimN l := by
    intro k
    induction k with
    | zero =>
      intro l hl _
      have := List.eq_nil_of_length_eq_zero hl
      subst this
      exact limbs_zero
    | succ k ih =>
      intro l hl h
      have hne : l ≠ [] := by intro e; subst e; simp at hl
      obtain ⟨m, a, rfl⟩ : ∃ m a, l = m ++ [a] := ⟨l.dropLast, l.getLast hne, (List.dropLast_concat_getLast hne).symm⟩
      have hm : Lim m := fun x hx => h x (List.mem_append.2 (.inl hx))
      have ha : a < BB := h a (by simp)
      by_cases h0 : a = 0
      · subst h0
        rw [trimN_snoc0, val_append, show val [0] = 0 from rfl, Nat.mul_zero, Nat.add_zero]
        exact ih m (by simp at hl; exact hl) hm
      · rw [limbs_snoc hm ha h0, trimN_snoc h0]
  exact key _ l rfl h
theorem limbs_inj {a b : Nat} (h : limbs a = limbs b) : a = b := by rw [← val_limbs a, h, val_limbs]
theorem limbs_len {n k : Nat} : (limbs n).length ≤ k ↔ n < BB ^ k := by
  constructor
  · intro h
    have := val_lt (lim_limbs n)
    rw [val_limbs] at this
    exact Nat.lt_of_lt_of_le this (Nat.pow_le_pow_right (by decide) h)
  · intro h
    induction k generalizing n with
    | zero =>
      have : n = 0 := by simpa using h
      subst this; simp [limbs_zero]
    | succ k ih =>
      by_cases h0 : n = 0
      · subst h0; simp [limbs_zero]
      · rw [limbs_pos h0, List.length_cons]
        have := ih (n := n / BB) (Nat.div_lt_of_lt_mul (by rw [Nat.mul_comm, ← Nat.pow_succ]; exact h))
        omega

/-! as trees -/
def limT (n : Nat) : T := .v (.int .u32 (n : Int))
def lmL (l : List Nat) : List T := l.map limT
def lm (n : Nat) : List T := lmL (limbs n)
/-- A denominator: none for 1. -/
def dn (d : Nat) : List T := if d = 1 then [] else lm d
theorem lmL_len (l : List Nat) : (lmL l).length = l.length := by simp [lmL]
theorem lm_zero : lm 0 = [] := by rw [lm, limbs_zero]; rfl
theorem lm_one {n : Nat} (h : n ≠ 0) (hn : n < BB) : lm n = [limT n] := by rw [lm, limbs_one h hn]; rfl
theorem lm_two {n : Nat} (h : BB ≤ n) (hn : n < BB * BB) : lm n = [limT (n % BB), limT (n / BB)] := by rw [lm, limbs_two h hn]; rfl
theorem limT_inj {a b : Nat} (h : limT a = limT b) : a = b := by
  unfold limT at h
  injection h with h
  injection h with _ h
  omega
theorem lmL_inj {a b : List Nat} (h : lmL a = lmL b) : a = b := by
  induction a generalizing b with
  | nil => cases b with
    | nil => rfl
    | cons y b => simp [lmL] at h
  | cons x a ih => cases b with
    | nil => simp [lmL] at h
    | cons y b =>
      simp only [lmL, List.map_cons, List.cons.injEq] at h
      rw [limT_inj h.1, ih h.2]
theorem lm_inj {a b : Nat} (h : lm a = lm b) : a = b := limbs_inj (lmL_inj h)
end Go.Eng.Rt

/- Rational numbers as the program has them. -/
namespace Go.Eng.Rt
open Go.Eng

def rNeg (q : Rat) : Bool := decide (q.num < 0)
def rNum (q : Rat) : List T := lm q.num.natAbs
def rDen (q : Rat) : List T := dn q.den
def sg (neg : Bool) (n : Nat) : Int := if neg then -(n : Int) else n
theorem sg_abs (neg : Bool) (n : Nat) : (sg neg n).natAbs = n := by cases neg <;> simp [sg]
theorem sg_num (q : Rat) : sg (rNeg q) q.num.natAbs = q.num := by
  unfold sg rNeg
  by_cases h : q.num < 0
  · rw [decide_eq_true h, if_pos rfl]; omega
  · rw [decide_eq_false h]; simp; omega
theorem mk_den {n : Int} {d : Nat} (hd : d ≠ 0) : (mkRat n d).den = d / n.natAbs.gcd d := by
  rw [Rat.mkRat_def, dif_neg hd, Rat.normalize_eq]
theorem mk_num {n : Int} {d : Nat} (hd : d ≠ 0) : (mkRat n d).num = n / (n.natAbs.gcd d : Nat) := by
  rw [Rat.mkRat_def, dif_neg hd, Rat.normalize_eq]
theorem mk_abs (neg : Bool) {n d : Nat} (hd : d ≠ 0) : (mkRat (sg neg n) d).num.natAbs = n / n.gcd d := by
  rw [mk_num hd, sg_abs]
  unfold sg
  have hg : 0 < n.gcd d := Nat.gcd_pos_of_pos_right _ (Nat.pos_of_ne_zero hd)
  cases neg with
  | false => simp only [Bool.false_eq_true, if_false]; rw [← Int.natCast_ediv]; exact Int.natAbs_natCast _
  | true =>
    simp only [if_true]
    rw [Int.neg_ediv_of_dvd (Int.natCast_dvd_natCast.2 (Nat.gcd_dvd_left n d)), Int.natAbs_neg, ← Int.natCast_ediv]; exact Int.natAbs_natCast _
theorem mk_neg (neg : Bool) {n d : Nat} (hd : d ≠ 0) (hn : n ≠ 0) : rNeg (mkRat (sg neg n) d) = neg := by
  unfold rNeg
  rw [mk_num hd, sg_abs]
  have hg : 0 < n.gcd d := Nat.gcd_pos_of_pos_right _ (Nat.pos_of_ne_zero hd)
  have hq : 0 < n / n.gcd d := Nat.div_pos (Nat.le_of_dvd (Nat.pos_of_ne_zero hn) (Nat.gcd_dvd_left n d)) hg
  unfold sg
  cases neg with
  | false =>
    simp only [Bool.false_eq_true, if_false]; rw [← Int.natCast_ediv]
    exact decide_eq_false (by omega)
  | true =>
    simp only [if_true]
    rw [Int.neg_ediv_of_dvd (Int.natCast_dvd_natCast.2 (Nat.gcd_dvd_left n d)), ← Int.natCast_ediv]
    exact decide_eq_true (by omega)
theorem mk_zero (neg : Bool) (d : Nat) : mkRat (sg neg 0) d = 0 := by
  cases neg <;> simp [sg, Rat.zero_mkRat]
theorem rNum_mk (neg : Bool) {n d : Nat} (hd : d ≠ 0) : rNum (mkRat (sg neg n) d) = lm (n / n.gcd d) := by unfold rNum; rw [mk_abs neg hd]
theorem rDen_mk (neg : Bool) {n d : Nat} (hd : d ≠ 0) : rDen (mkRat (sg neg n) d) = dn (d / n.gcd d) := by unfold rDen; rw [mk_den hd, sg_abs]
theorem rNeg_zero : rNeg 0 = false := rfl
theorem rNum_zero : rNum 0 = [] := lm_zero
theorem rDen_zero : rDen 0 = [] := rfl
theorem dn_inj {a b : Nat} (ha : a ≠ 0) (hb : b ≠ 0) (h : dn a = dn b) : a = b := by
  unfold dn at h
  split at h <;> split at h
  · omega
  · rw [← lm_zero] at h; exact absurd (lm_inj h).symm hb
  · rw [← lm_zero] at h; exact absurd (lm_inj h) ha
  · exact lm_inj h
theorem rat_ext {p q : Rat} (h1 : rNeg p = rNeg q) (h2 : p.num.natAbs = q.num.natAbs) (h3 : p.den = q.den) : p = q := by
  have : p.num = q.num := by rw [← sg_num p, h1, h2, sg_num q]
  cases p; cases q
  simp only at this h3
  subst this; subst h3; rfl
theorem rat_eq {p q : Rat} (h1 : rNeg p = rNeg q) (h2 : rNum p = rNum q) (h3 : rDen p = rDen q) : p = q :=
  rat_ext h1 (lm_inj h2) (dn_inj p.den_nz q.den_nz h3)
theorem add_mk (p q : Rat) : p + q = mkRat (p.num * q.den + q.num * p.den) (p.den * q.den) := by
  rw [Rat.add_def, Rat.mkRat_def, dif_neg (Nat.mul_ne_zero p.den_nz q.den_nz)]
theorem mul_mk (p q : Rat) : p * q = mkRat (p.num * q.num) (p.den * q.den) := by
  rw [Rat.mul_def, Rat.mkRat_def, dif_neg (Nat.mul_ne_zero p.den_nz q.den_nz)]
theorem sgn_mul (a : Bool) (n : Nat) (m : Nat) : sg a n * (m : Int) = sg a (n * m) := by
  cases a <;> simp [sg, Int.neg_mul]
theorem sg_add (a : Bool) (n m : Nat) : sg a n + sg a m = sg a (n + m) := by
  cases a <;> simp [sg] <;> omega
theorem sg_sub {a b : Bool} (hab : a ≠ b) {n m : Nat} (h : m ≤ n) : sg a n + sg b m = sg a (n - m) := by
  cases a <;> cases b <;> simp [sg] at hab ⊢ <;> omega
/-- The sum by sizes. -/
theorem add_same {p q : Rat} (h : rNeg p = rNeg q) : p + q = mkRat (sg (rNeg q) (p.num.natAbs * q.den + q.num.natAbs * p.den)) (p.den * q.den) := by
  rw [add_mk]
  congr 1
  rw [← sg_add, ← sgn_mul, ← sgn_mul, sg_num, ← h, sg_num]
theorem add_diff {p q : Rat} (h : rNeg p ≠ rNeg q) (hle : q.num.natAbs * p.den ≤ p.num.natAbs * q.den) : p + q = mkRat (sg (rNeg p) (p.num.natAbs * q.den - q.num.natAbs * p.den)) (p.den * q.den) := by
  rw [add_mk]
  congr 1
  rw [← sg_sub h hle, ← sgn_mul, ← sgn_mul, sg_num, sg_num]
theorem mul_sg (p q : Rat) : p * q = mkRat (sg (rNeg p != rNeg q) (p.num.natAbs * q.num.natAbs)) (p.den * q.den) := by
  rw [mul_mk]
  congr 1
  have h1 := sg_num p
  have h2 := sg_num q
  generalize p.num.natAbs = a at *
  generalize q.num.natAbs = b at *
  rw [← h1, ← h2]
  cases rNeg p <;> cases rNeg q <;> simp [sg, Int.neg_mul, Int.mul_neg]
/-- Small: both of one limb, with a bit to spare. -/
def Sm (q : Rat) : Prop := q.num.natAbs < 2147483648 ∧ q.den < 2147483648
theorem Sm.zero : Sm 0 := ⟨by decide, by decide⟩
theorem rNum_sm {q : Rat} (h : q.num.natAbs < BB) : rNum q = if q.num.natAbs = 0 then [] else [limT q.num.natAbs] := by
  unfold rNum
  split
  · rename_i e; rw [e, lm_zero]
  · rename_i e; rw [lm_one e h]
theorem rDen_sm {q : Rat} (h : q.den < BB) : rDen q = if q.den = 1 then [] else [limT q.den] := by
  unfold rDen dn
  split
  · rfl
  · rw [lm_one q.den_nz h]
theorem num_zero {q : Rat} : q.num.natAbs = 0 ↔ q = 0 := by
  constructor
  · intro h; exact Rat.num_eq_zero.1 (by omega)
  · rintro rfl; rfl
theorem neg_num0 {q : Rat} (h : rNeg q = true) : q.num.natAbs ≠ 0 := by
  unfold rNeg at h
  have := of_decide_eq_true h
  omega
/-- The order by sizes. -/
theorem lt_sizes {p q : Rat} : p < q ↔ p.num * q.den < q.num * p.den := Rat.lt_iff p q
end Go.Eng.Rt

/- Sums of small fractions stay small. -/
namespace Go.Eng.Rt
open Go.Eng

/-- m / D with m at most k, not negative. -/
def En (D k : Nat) (q : Rat) : Prop := ∃ m : Nat, m ≤ k ∧ q = mkRat (m : Int) D
theorem En.add {D a b : Nat} {p q : Rat} (hD : D ≠ 0) (hp : En D a p) (hq : En D b q) : En D (a + b) (p + q) := by
  obtain ⟨m, hm, rfl⟩ := hp
  obtain ⟨n, hn, rfl⟩ := hq
  refine ⟨m + n, by omega, ?_⟩
  rw [Rat.mkRat_add_mkRat _ _ hD hD, Rat.mkRat_eq_iff (Nat.mul_ne_zero hD hD) hD]
  push_cast
  rw [← Int.add_mul, Int.mul_assoc]
theorem En.zero {D k : Nat} : En D k 0 := ⟨0, Nat.zero_le _, by simp [Rat.zero_mkRat]⟩
theorem En.mono {D a b : Nat} {q : Rat} (h : En D a q) (hab : a ≤ b) : En D b q := by
  obtain ⟨m, hm, e⟩ := h; exact ⟨m, by omega, e⟩
theorem En.sm {D k : Nat} {q : Rat} (hD : D ≠ 0) (hD' : D < 2147483648) (hk : k < 2147483648) (h : En D k q) : Sm q := by
  obtain ⟨m, hm, rfl⟩ := h
  have e : (m : Int) = sg false m := rfl
  constructor
  · rw [e, mk_abs false hD]
    exact Nat.lt_of_le_of_lt (Nat.div_le_self _ _) (by omega)
  · rw [mk_den hD]
    exact Nat.lt_of_le_of_lt (Nat.div_le_self _ _) hD'
theorem En.nn {D k : Nat} {q : Rat} (hD : D ≠ 0) (h : En D k q) : rNeg q = false := by
  obtain ⟨m, hm, rfl⟩ := h
  by_cases h0 : m = 0
  · subst h0; simp [Rat.zero_mkRat]; rfl
  · exact mk_neg false hD h0
theorem En.frac {n d D k : Nat} (hd : d ≠ 0) (hD : D ≠ 0) (hdD : d ∣ D) (h : n * (D / d) ≤ k) : En D k (mkRat (n : Int) d) := by
  refine ⟨n * (D / d), h, ?_⟩
  rw [Rat.mkRat_eq_iff hd hD]
  obtain ⟨c, rfl⟩ := hdD
  rw [Nat.mul_div_cancel_left _ (Nat.pos_of_ne_zero hd)]
  push_cast
  rw [Int.mul_assoc, Int.mul_comm (c : Int) d]
end Go.Eng.Rt

/- Machine numbers on limbs; lists that change at a place. -/
namespace Go.Eng.Rt
open Go.Eng

abbrev B64 : Nat := 18446744073709551616
theorem wr32n (n : Nat) : wr .u32 (n : Int) = ((n % BB : Nat) : Int) := by
  unfold wr IntKind.wrap
  simp only [IntKind.bits, IntKind.signed, Bool.false_and, Bool.false_eq_true, if_false]
  rw [show ((2 : Int) ^ 32) = ((BB : Nat) : Int) from rfl]
  omega
theorem wr64n (n : Nat) : wr .u64 (n : Int) = ((n % B64 : Nat) : Int) := by
  unfold wr IntKind.wrap
  simp only [IntKind.bits, IntKind.signed, Bool.false_and, Bool.false_eq_true, if_false]
  rw [show ((2 : Int) ^ 64) = ((B64 : Nat) : Int) from rfl]
  omega
theorem wr64s {n : Nat} (h : n < B64) : wr .u64 (n : Int) = (n : Int) := by rw [wr64n, Nat.mod_eq_of_lt h]
theorem wr32s {n : Nat} (h : n < BB) : wr .u32 (n : Int) = (n : Int) := by rw [wr32n, Nat.mod_eq_of_lt h]
theorem wri {n : Nat} (h : n < 4611686018427387904) : wr .i64 (n : Int) = (n : Int) := wr64 (by omega) (by omega)
theorem wri' {n : Int} (h0 : -4611686018427387904 < n) (h : n < 4611686018427387904) : wr .i64 n = n := wr64 (by omega) (by omega)
theorem shr32 (n : Nat) : shrI .u64 (n : Int) 32 = ((n / BB : Nat) : Int) := by
  unfold shrI
  rw [show ((2 : Int) ^ (min (Int.toNat 32) (IntKind.bits .u64))) = ((BB : Nat) : Int) from rfl, Int.fdiv_eq_ediv_of_nonneg _ (by omega)]
  exact (Int.natCast_ediv n BB).symm
theorem shl32 (n : Nat) : shlI .u64 (n : Int) 32 = ((n * BB : Nat) : Int) := by
  unfold shlI
  rw [show ((2 : Int) ^ (min (Int.toNat 32) (IntKind.bits .u64))) = ((BB : Nat) : Int) from rfl]
  exact (Int.natCast_mul n BB).symm
theorem nn32 : nn (32 : Int) = some 32 := by unfold nn; rfl
theorem or_disj {a b : Nat} (h : a < BB) : a ||| (b * BB) = a + b * BB := by
  rw [Nat.or_comm, Nat.add_comm, show b * BB = b <<< 32 by rw [Nat.shiftLeft_eq]]
  exact (Nat.shiftLeft_add_eq_or_of_lt (by simpa using h) b).symm
theorem or64 {a b : Nat} (ha : a < BB) (hb : b < BB) : bitI .or .u64 (a : Int) ((b * BB : Nat) : Int) = ((a + b * BB : Nat) : Int) := by
  have hlt : a + b * BB < B64 := by simp only [BB, B64] at *; omega
  unfold bitI
  have e : ∀ n : Nat, n < B64 → (BitVec.ofInt 64 (n : Int)).toNat = n := fun n hn => by
    rw [BitVec.ofInt_natCast, BitVec.toNat_ofNat]
    exact Nat.mod_eq_of_lt (by simp only [B64] at hn; omega)
  show IntKind.wrap .u64 (((BitVec.ofInt 64 (a : Int) ||| BitVec.ofInt 64 ((b * BB : Nat) : Int)).toNat : Nat) : Int) = _
  rw [BitVec.toNat_or, e a (by simp only [BB, B64] at *; omega), e (b * BB) (by simp only [BB, B64] at *; omega), or_disj ha]
  have := wr64s hlt
  unfold wr at this
  exact this
theorem or64' {a b : Nat} (ha : a < BB) (hb : b < BB) : bitI .or .u64 ((b * BB : Nat) : Int) (a : Int) = ((a + b * BB : Nat) : Int) := by
  rw [← or64 ha hb]
  unfold bitI
  simp only [BitVec.or_comm]

/-! lists of limbs -/
theorem lmL_get (l : List Nat) (i : Nat) : (lmL l)[i]? = (l[i]?).map limT := by simp [lmL]
theorem limT_cell (n : Nat) : T.cell (limT n) 0 = limT n := rfl
theorem limT_int (n : Nat) : T.int? .u32 (limT n) = some (n : Int) := by unfold limT; simp
theorem limT_any (n : Nat) : T.anyInt? (limT n) = some (n : Int) := rfl
theorem limT_upd (x : T) (n : Nat) (h : ∃ m, x = limT m) : T.upd 1 x 0 [T.v (.int .u32 (n : Int))] = limT n := by
  obtain ⟨m, rfl⟩ := h
  exact T_upd1 _ _
theorem lmL_set (l : List Nat) (i n : Nat) : (lmL l).set i (limT n) = lmL (l.set i n) := by unfold lmL; rw [List.map_set]
theorem lmL_append (a b : List Nat) : lmL a ++ lmL b = lmL (a ++ b) := by unfold lmL; simp
theorem lmL_take (l : List Nat) (k : Nat) : (lmL l).take k = lmL (l.take k) := by unfold lmL; simp
theorem lmL_drop (l : List Nat) (k : Nat) : (lmL l).drop k = lmL (l.drop k) := by unfold lmL; simp
theorem rep_lmL (n : Nat) : List.replicate n (T.v (.int .u32 (0 : Int))) = lmL (List.replicate n 0) := by unfold lmL; simp [limT]
theorem Lim.take {l : List Nat} (h : Lim l) (k : Nat) : Lim (l.take k) := fun x hx => h x (List.mem_of_mem_take hx)
theorem Lim.drop {l : List Nat} (h : Lim l) (k : Nat) : Lim (l.drop k) := fun x hx => h x (List.mem_of_mem_drop hx)
theorem Lim.get {l : List Nat} (h : Lim l) {i : Nat} {x : Nat} (hi : l[i]? = some x) : x < BB := h x (List.mem_of_getElem? hi)
theorem Lim.set {l : List Nat} (h : Lim l) {x : Nat} (hx : x < BB) (i : Nat) : Lim (l.set i x) := fun y hy => by
  rcases List.mem_or_eq_of_mem_set hy with h1 | h1
  · exact h y h1
  · subst h1; exact hx
theorem Lim.rep (n : Nat) : Lim (List.replicate n 0) := fun x hx => by rw [List.eq_of_mem_replicate hx]; decide
theorem val_rep (n : Nat) : val (List.replicate n 0) = 0 := by
  induction n with
  | zero => rfl
  | succ n ih => rw [List.replicate_succ, val, ih, Nat.mul_zero]
theorem val_set {l : List Nat} {i x y : Nat} (hi : l[i]? = some y) : val (l.set i x) + BB ^ i * y = val l + BB ^ i * x := by
  induction l generalizing i with
  | nil => simp at hi
  | cons a l ih =>
    cases i with
    | zero =>
      simp only [List.getElem?_cons_zero, Option.some.injEq] at hi
      subst hi
      simp only [List.set_cons_zero, val, Nat.pow_zero, Nat.one_mul]
      omega
    | succ i =>
      simp only [List.getElem?_cons_succ] at hi
      have := ih hi
      simp only [List.set_cons_succ, val, Nat.pow_succ]
      rw [Nat.mul_comm (BB ^ i) BB, Nat.mul_assoc, Nat.mul_assoc]
      have h1 : BB * (val (l.set i x) + BB ^ i * y) = BB * (val l + BB ^ i * x) := by rw [this]
      rw [Nat.mul_add, Nat.mul_add] at h1
      omega
theorem val_take_succ {l : List Nat} {i x : Nat} (hi : l[i]? = some x) : val (l.take (i + 1)) = val (l.take i) + BB ^ i * x := by
  have hlt : i < l.length := (List.getElem?_eq_some_iff.1 hi).1
  have hx : l[i] = x := by rw [List.getElem?_eq_getElem hlt] at hi; exact Option.some.inj hi
  rw [List.take_succ_eq_append_getElem hlt, val_append, hx]
  simp only [List.length_take, Nat.min_eq_left (Nat.le_of_lt hlt), val, Nat.mul_zero, Nat.add_zero]
theorem trimN_pre (l : List Nat) : trimN l <+: l := by
  unfold trimN
  have := List.dropWhile_suffix (l := l.reverse) (· == 0)
  have h2 := List.reverse_prefix.2 this
  simpa using h2
theorem trimN_take (l : List Nat) : l.take (trimN l).length = trimN l := (List.prefix_iff_eq_take.1 (trimN_pre l)).symm
theorem trimN_le (l : List Nat) : (trimN l).length ≤ l.length := (trimN_pre l).length_le
theorem lim_trim {l : List Nat} (h : Lim l) : lmL (trimN l) = lm (val l) := by rw [lm, limbs_val h]
theorem lm_len (n : Nat) : (lm n).length = (limbs n).length := by simp [lm, lmL]
theorem lm_len0 {n : Nat} : (lm n).length = 0 ↔ n = 0 := by
  rw [lm_len]
  constructor
  · intro h
    rcases Nat.eq_zero_or_pos n with h0 | h0
    · exact h0
    · rw [limbs_pos (by omega)] at h; simp at h
  · intro h; subst h; rw [limbs_zero]; rfl
theorem lm_le1 {n : Nat} : (lm n).length ≤ 1 ↔ n < BB := by rw [lm_len, limbs_len]; simp
theorem lm_le2 {n : Nat} : (lm n).length ≤ 2 ↔ n < B64 := by rw [lm_len, limbs_len, show BB ^ 2 = B64 from by decide]
def cmpN (a b : Nat) : Int := if a < b then -1 else if a = b then 0 else 1
/-- Values are compared from above. -/
theorem val_split {l : List Nat} {i x : Nat} (hi : l[i]? = some x) : val l = val (l.take i) + BB ^ i * (x + BB * val (l.drop (i + 1))) := by
  have hlt : i < l.length := (List.getElem?_eq_some_iff.1 hi).1
  have hx : l[i] = x := by rw [List.getElem?_eq_getElem hlt] at hi; exact Option.some.inj hi
  have h1 : val (l.take i ++ l.drop i) = val l := by rw [List.take_append_drop]
  rw [← h1, val_append, List.drop_eq_getElem_cons hlt, hx, val, List.length_take, Nat.min_eq_left (Nat.le_of_lt hlt)]
theorem val_lt_of {a b : List Nat} (ha : Lim a) {i x y : Nat} (hx : a[i]? = some x) (hy : b[i]? = some y) (hxy : x < y) (hd : a.drop (i + 1) = b.drop (i + 1)) : val a < val b := by
  rw [val_split hx, val_split hy, hd]
  have hlt : i < a.length := (List.getElem?_eq_some_iff.1 hx).1
  have h1 := val_lt (ha.take i)
  rw [List.length_take, Nat.min_eq_left (Nat.le_of_lt hlt)] at h1
  have h2 : BB ^ i * (x + 1 + BB * val (b.drop (i + 1))) ≤ BB ^ i * (y + BB * val (b.drop (i + 1))) := Nat.mul_le_mul_left _ (by omega)
  rw [show x + 1 + BB * val (b.drop (i + 1)) = (x + BB * val (b.drop (i + 1))) + 1 by omega, Nat.mul_add] at h2
  omega
end Go.Eng.Rt

/- The reference's numbers (brepkernelref01, brepkernelref02): what they give. -/
namespace Go.Eng.Rt
open Go.Eng

abbrev LM : Nat := 1000000
theorem r_trim_loop (l : List Nat) (hl : l.length < LM) : ∀ n, n ≤ l.length → loopU u_ref01_Trim_l0 (lmL l, ((n : Int), ())) = some (.inl (lmL l, ((((trimN (l.take n)).length : Nat) : Int), ()))) := by
  intro n
  induction n with
  | zero => intro _; exact loopU_out (by simp [u_ref01_Trim_l0, trimN])
  | succ n ih =>
    intro hn
    have hlt : n < l.length := hn
    have ht : l.take (n + 1) = l.take n ++ [l[n]] := List.take_succ_eq_append_getElem hlt
    have step : u_ref01_Trim_l0 (lmL l, (((n + 1 : Nat) : Int), ())) = if l[n] = 0 then some (.inl (lmL l, ((n : Int), ()))) else some (.inr (.inl (lmL l, (((n + 1 : Nat) : Int), ())))) := by
      unfold u_ref01_Trim_l0
      simp only [ltI_eq, subI_eq]
      rw [decide_eq_true (by omega), show ((n + 1 : Nat) : Int) - 1 = (n : Int) by omega, wri (by simp only [LM] at hl; omega), idxL_nat, lmL_get, List.getElem?_eq_getElem hlt]
      simp only [cond_true, Option.map_some, obS, limT_cell, limT_int, eqI_eq]
      by_cases h0 : l[n] = 0
      · rw [if_pos h0, decide_eq_true (by omega)]; rfl
      · rw [if_neg h0, decide_eq_false (by omega)]; rfl
    rw [ht]
    by_cases h0 : l[n] = 0
    · rw [if_pos h0] at step
      rw [loopU_go step, ih (by omega), h0, trimN_snoc0]
    · rw [if_neg h0] at step
      rw [loopU_out step, trimN_snoc h0]
      simp only [List.length_append, List.length_take, Nat.min_eq_left (Nat.le_of_lt hlt), List.length_cons, List.length_nil]
theorem lm_val_len {l : List Nat} (h : Lim l) : (lm (val l)).length ≤ l.length := by rw [← lim_trim h, lmL_len]; exact trimN_le l
theorem r_Trim {l : List Nat} (h : Lim l) (hl : l.length < LM) : u_ref01_Trim (lmL l, ()) = some (lm (val l), ()) := by
  unfold u_ref01_Trim
  have e := r_trim_loop l hl l.length (Nat.le_refl _)
  rw [List.take_length] at e
  simp only [lenL_eq, lmL_len, e, obS, onS_l]
  rw [cutL_int (by omega) (by omega) (by rw [lmL_len]; have := trimN_le l; omega)]
  simp only [Int.toNat_natCast, Int.toNat_zero, List.drop_zero, obS, lmL_take, trimN_take, lim_trim h]
  have hlen := lm_val_len h
  rw [room_ok (by simp only [List.length_nil]; simp only [LM] at hl; omega) (by decide)]
  rfl
theorem r_Trim' {n : Nat} (h : (limbs n).length < LM) : u_ref01_Trim (lm n, ()) = some (lm n, ()) := by
  have := r_Trim (lim_limbs n) h
  rw [val_limbs] at this
  exact this
theorem lm_small {n : Nat} (h : n < B64) : (limbs n).length < LM := by
  have : (limbs n).length ≤ 2 := limbs_len.2 h
  simp only [LM]; omega
theorem r_Of {n : Nat} (h : n < B64) : u_ref01_Of ((n : Int), ()) = some (lm n, ()) := by
  unfold u_ref01_Of
  simp only [nn32, obS, wr32n, shr32]
  have hd : n / BB < BB := Nat.div_lt_of_lt_mul h
  have e := r_Trim (l := [n % BB, n / BB % BB]) (Lim.cons (Nat.mod_lt _ (by decide)) (Lim.cons (Nat.mod_lt _ (by decide)) Lim.nil)) (by simp only [List.length_cons, List.length_nil, LM]; omega)
  have hv : val [n % BB, n / BB % BB] = n := by
    rw [Nat.mod_eq_of_lt hd]
    simp only [val, Nat.mul_zero, Nat.add_zero]
    exact Nat.mod_add_div n BB
  rw [hv] at e
  simp only [lmL, List.map_cons, List.map_nil, limT] at e
  rw [e]
  rfl
theorem r_small {l : List Nat} (h : Lim l) : u_ref01_small (lmL l, ()) = some (if l.length ≤ 2 then (val l : Int) else 0, (decide (l.length ≤ 2), ())) := by
  match l, h with
  | [], _ => unfold u_ref01_small; simp [lmL, val]
  | [a], h =>
    have ha := h.head
    unfold u_ref01_small
    simp only [lenL_eq, lmL_len, List.length_cons, List.length_nil, eqI_eq]
    rw [idxL_int _ (by omega)]
    simp [lmL, limT_cell, limT_any, val, wr64s (show a < B64 by simp only [BB, B64] at *; omega)]
  | [a, b], h =>
    have ha := h.head
    have hb := h.tail.head
    unfold u_ref01_small
    simp only [lenL_eq, lmL_len, List.length_cons, List.length_nil, eqI_eq]
    rw [idxL_int _ (by omega), idxL_int _ (by omega)]
    have e1 : wr .u64 (a : Int) = (a : Int) := wr64s (by simp only [BB, B64] at *; omega)
    have e2 : wr .u64 (b : Int) = (b : Int) := wr64s (by simp only [BB, B64] at *; omega)
    have e3 : wr .u64 ((b * BB : Nat) : Int) = ((b * BB : Nat) : Int) := wr64s (by simp only [BB, B64] at *; omega)
    have g0 : (lmL [a, b])[(0 : Int).toNat]? = some (limT a) := rfl
    have g1 : (lmL [a, b])[(1 : Int).toNat]? = some (limT b) := rfl
    rw [g0, g1, decide_eq_false (by omega), decide_eq_false (by omega), decide_eq_true (by omega)]
    simp only [cond_false, cond_true, obS, limT_cell, limT_any, nn32, e1, e2, shl32, e3, or64 ha hb]
    rw [if_pos (by omega), decide_eq_true (by omega)]
    simp only [val, Nat.mul_zero, Nat.add_zero]
    rw [Nat.mul_comm b BB]
  | a :: b :: c :: l, h =>
    unfold u_ref01_small
    simp only [lenL_eq, lmL_len, List.length_cons, eqI_eq]
    rw [decide_eq_false (by omega), decide_eq_false (by omega), decide_eq_false (by omega), if_neg (by omega), decide_eq_false (by omega)]
    rfl
theorem r_cmp_loop {a b : List Nat} (ha : Lim a) (hb : Lim b) (hl : a.length = b.length) (hm : a.length < LM) : ∀ n, n ≤ a.length → a.drop n = b.drop n →
    loopU u_ref01_Cmp_l0 (lmL a, (lmL b, ((n : Int) - 1, ()))) = some (if val a = val b then .inr (.inl ()) else .inl (cmpN (val a) (val b), ())) := by
  intro n
  induction n with
  | zero =>
    intro _ hd
    have : a = b := by simpa using hd
    subst this
    rw [if_pos rfl]
    exact loopU_out (by unfold u_ref01_Cmp_l0; simp only [leI_eq]; rw [decide_eq_false (by omega)]; rfl)
  | succ n ih =>
    intro hn hd
    have h1 : n < a.length := hn
    have h2 : n < b.length := by omega
    have ga := List.getElem?_eq_getElem h1
    have gb := List.getElem?_eq_getElem h2
    have step : u_ref01_Cmp_l0 (lmL a, (lmL b, (((n + 1 : Nat) : Int) - 1, ()))) = if a[n] < b[n] then some (.inr (.inl (-1, ()))) else if b[n] < a[n] then some (.inr (.inl (1, ()))) else some (.inl (lmL a, (lmL b, ((n : Int) - 1, ())))) := by
      unfold u_ref01_Cmp_l0
      rw [show ((n + 1 : Nat) : Int) - 1 = (n : Int) by omega]
      simp only [leI_eq, ltI_eq, subI_eq]
      rw [decide_eq_true (by omega), idxL_nat, idxL_nat, lmL_get, lmL_get, ga, gb, wri' (by omega) (by simp only [LM] at hm; omega)]
      simp only [cond_true, Option.map_some, obS, limT_cell, limT_int]
      by_cases c1 : a[n] < b[n]
      · rw [if_pos c1, decide_eq_true (by omega)]; rfl
      · rw [if_neg c1, decide_eq_false (by omega)]
        by_cases c2 : b[n] < a[n]
        · rw [if_pos c2, decide_eq_true (by omega)]; rfl
        · rw [if_neg c2, decide_eq_false (by omega)]; rfl
    by_cases c1 : a[n] < b[n]
    · rw [if_pos c1] at step
      have := val_lt_of ha ga gb c1 hd
      rw [loopU_out step, if_neg (by omega)]
      unfold cmpN
      rw [if_pos this]
    · rw [if_neg c1] at step
      by_cases c2 : b[n] < a[n]
      · rw [if_pos c2] at step
        have := val_lt_of hb gb ga c2 hd.symm
        rw [loopU_out step, if_neg (by omega)]
        unfold cmpN
        rw [if_neg (by omega), if_neg (by omega)]
      · rw [if_neg c2] at step
        rw [loopU_go step]
        refine ih (by omega) ?_
        rw [List.drop_eq_getElem_cons h1, List.drop_eq_getElem_cons h2, hd, show a[n] = b[n] by omega]
theorem len_lt {x y : Nat} (h : (limbs x).length < (limbs y).length) : x < y := by
  have h1 : x < BB ^ (limbs x).length := limbs_len.1 (Nat.le_refl _)
  have h2 : ¬ y < BB ^ (limbs x).length := fun hh => by
    have := limbs_len.2 hh
    omega
  omega
theorem r_Cmp {x y : Nat} (hx : (limbs x).length < LM) (hy : (limbs y).length < LM) : u_ref01_Cmp (lm x, (lm y, ())) = some (cmpN x y, ()) := by
  unfold u_ref01_Cmp
  simp only [lenL_eq, lm_len, eqI_eq, ltI_eq, subI_eq]
  by_cases hl : (limbs x).length = (limbs y).length
  · rw [decide_eq_true (by omega), wri' (by omega) (by simp only [LM] at hx; omega)]
    have := r_cmp_loop (lim_limbs x) (lim_limbs y) hl hx (limbs x).length (Nat.le_refl _) (by rw [List.drop_length, hl, List.drop_length])
    rw [val_limbs, val_limbs] at this
    simp only [lm, Bool.not_true, cond_false, this, obS]
    by_cases he : x = y
    · subst he; simp [cmpN]
    · rw [if_neg he]; rfl
  · rw [decide_eq_false (by omega)]
    simp only [Bool.not_false, cond_true]
    by_cases hc : (limbs x).length < (limbs y).length
    · have := len_lt hc
      rw [decide_eq_true (by omega)]
      unfold cmpN
      rw [if_pos this]; rfl
    · have := len_lt (x := y) (y := x) (by omega)
      rw [decide_eq_false (by omega)]
      unfold cmpN
      rw [if_neg (by omega), if_neg (by omega)]; rfl

/-! products -/
theorem mul_step {a b o : List Nat} (ha : Lim a) (hb : Lim b) (ho : Lim o) {i j x y z c : Nat} (hi : a[i]? = some x) (hj : b[j]? = some y) (hz : o[i + j]? = some z) (hc : c < BB) (hla : a.length < LM) (hlb : b.length < LM) :
    u_ref01_Mul_l1 (lmL a, (lmL b, (lmL o, ((i : Int), ((c : Int), ((j : Int), ())))))) = some (.inl (lmL a, (lmL b, (lmL (o.set (i + j) ((c + (x * y + z)) % BB)), ((i : Int), ((((c + (x * y + z)) / BB : Nat) : Int), (((j + 1 : Nat) : Int), ()))))))) := by
  have hx := ha.get hi
  have hy := hb.get hj
  have hzb := ho.get hz
  have h1 : i < a.length := (List.getElem?_eq_some_iff.1 hi).1
  have h2 : j < b.length := (List.getElem?_eq_some_iff.1 hj).1
  have h3 : i + j < o.length := (List.getElem?_eq_some_iff.1 hz).1
  have hxy : x * y ≤ (BB - 1) * (BB - 1) := Nat.mul_le_mul (by omega) (by omega)
  have hbound : (BB - 1) * (BB - 1) + (BB - 1) + (BB - 1) < B64 := by decide
  unfold u_ref01_Mul_l1
  simp only [ltI_eq, lenL_eq, lmL_len, addI_eq, mulI_eq]
  rw [decide_eq_true (by omega)]
  simp only [cond_true, idxL_nat, lmL_get, hi, hj, Option.map_some, obS, limT_cell, limT_any]
  rw [show (i : Int) + (j : Int) = ((i + j : Nat) : Int) by omega, wri (by simp only [LM] at *; omega), chkI_nat (by omega)]
  simp only [obS, idxN_eq, lmL_get, hz, Option.map_some, limT_cell, limT_any, nn32]
  rw [wr64s (n := x) (by simp only [BB, B64] at *; omega), wr64s (n := y) (by simp only [BB, B64] at *; omega), wr64s (n := z) (by simp only [BB, B64] at *; omega)]
  rw [show (x : Int) * (y : Int) = ((x * y : Nat) : Int) by push_cast; rfl, wr64s (n := x * y) (by simp only [BB, B64] at *; omega)]
  rw [show ((x * y : Nat) : Int) + (z : Int) = ((x * y + z : Nat) : Int) by omega, wr64s (n := x * y + z) (by simp only [BB, B64] at *; omega)]
  rw [show (c : Int) + ((x * y + z : Nat) : Int) = ((c + (x * y + z) : Nat) : Int) by omega, wr64s (n := c + (x * y + z)) (by simp only [BB, B64] at *; omega)]
  rw [wr32n, shr32, show (j : Int) + 1 = ((j + 1 : Nat) : Int) by omega, wri (by simp only [LM] at *; omega), limT_upd _ _ ⟨z, rfl⟩, lmL_set]
theorem mul_inner {a b o : List Nat} (ha : Lim a) (hb : Lim b) (ho : Lim o) {i x : Nat} (hi : a[i]? = some x) (hlo : o.length = a.length + b.length) (hla : a.length < LM) (hlb : b.length < LM) :
    ∀ k, k ≤ b.length → ∃ (o' : List Nat) (c : Nat), loopU u_ref01_Mul_l1 (lmL a, (lmL b, (lmL o, ((i : Int), ((0 : Int), ((0 : Int), ())))))) = loopU u_ref01_Mul_l1 (lmL a, (lmL b, (lmL o', ((i : Int), ((c : Int), ((k : Int), ())))))) ∧
      o'.length = o.length ∧ Lim o' ∧ c < BB ∧ val o' + BB ^ (i + k) * c = val o + BB ^ i * (x * val (b.take k)) ∧ ∀ m, i + k ≤ m → o'[m]? = o[m]? := by
  intro k
  induction k with
  | zero => intro _; exact ⟨o, 0, rfl, rfl, ho, by decide, by simp [val], fun _ _ => rfl⟩
  | succ k ih =>
    intro hk
    obtain ⟨o', c, h1, h2, h3, h4, h5, h6⟩ := ih (by omega)
    have hik : i < a.length := (List.getElem?_eq_some_iff.1 hi).1
    have hj := List.getElem?_eq_getElem (show k < b.length from hk)
    have hz := List.getElem?_eq_getElem (show i + k < o'.length by omega)
    have hs := mul_step ha hb h3 hi hj hz h4 hla hlb
    refine ⟨_, _, h1.trans (loopU_go hs), by rw [List.length_set, h2], h3.set (Nat.mod_lt _ (by decide)) _, ?_, ?_, fun m hm => ?_⟩
    · have hx := ha.get hi
      have hy := hb.get hj
      have hzb := h3.get hz
      have hxy : x * b[k] ≤ (BB - 1) * (BB - 1) := Nat.mul_le_mul (by omega) (by omega)
      have hbound : (BB - 1) * (BB - 1) + (BB - 1) + (BB - 1) < BB * BB := by decide
      exact Nat.div_lt_of_lt_mul (by omega)
    · have hv := val_set (x := (c + (x * b[k] + o'[i + k])) % BB) hz
      rw [val_take_succ hj]
      have hm := Nat.mod_add_div (c + (x * b[k] + o'[i + k])) BB
      generalize (c + (x * b[k] + o'[i + k])) % BB = r at *
      generalize (c + (x * b[k] + o'[i + k])) / BB = q at *
      generalize o'[i + k] = z at *
      generalize b[k] = y at *
      generalize val (o'.set (i + k) r) = v' at *
      have e1 : BB ^ (i + (k + 1)) * q = BB ^ (i + k) * (BB * q) := by rw [← Nat.add_assoc, Nat.pow_succ, Nat.mul_assoc]
      have e2 : BB ^ (i + k) * (r + BB * q) = BB ^ (i + k) * (c + (x * y + z)) := by rw [hm]
      have e3 : BB ^ i * (x * (val (b.take k) + BB ^ k * y)) = BB ^ i * (x * val (b.take k)) + BB ^ (i + k) * (x * y) := by
        rw [Nat.mul_add, Nat.mul_add, Nat.pow_add, Nat.mul_assoc (BB ^ i) (BB ^ k), ← Nat.mul_assoc x (BB ^ k) y, Nat.mul_comm x (BB ^ k), Nat.mul_assoc (BB ^ k) x y]
      rw [e1, e3]
      rw [Nat.mul_add, Nat.mul_add, Nat.mul_add] at e2
      omega
    · rw [List.getElem?_set_ne (by omega)]
      exact h6 m (by omega)
theorem mul_outer_step {a b o : List Nat} (ha : Lim a) (hb : Lim b) (ho : Lim o) {i : Nat} (hi : i < a.length) (hlo : o.length = a.length + b.length) (hla : a.length < LM) (hlb : b.length < LM) (hv : val o = val (a.take i) * val b) (h0 : ∀ m, i + b.length ≤ m → m < o.length → o[m]? = some 0) :
    ∃ o', u_ref01_Mul_l0 (lmL a, (lmL b, (lmL o, ((i : Int), ())))) = some (.inl (lmL a, (lmL b, (lmL o', (((i + 1 : Nat) : Int), ()))))) ∧ o'.length = o.length ∧ Lim o' ∧ val o' = val (a.take (i + 1)) * val b ∧ ∀ m, i + 1 + b.length ≤ m → m < o'.length → o'[m]? = some 0 := by
  have gi := List.getElem?_eq_getElem hi
  obtain ⟨o', c, h1, h2, h3, h4, h5, h6⟩ := mul_inner ha hb ho gi hlo hla hlb b.length (Nat.le_refl _)
  have hend : u_ref01_Mul_l1 (lmL a, (lmL b, (lmL o', ((i : Int), ((c : Int), ((b.length : Int), ())))))) = some (.inr (.inl (lmL a, (lmL b, (lmL o', ((i : Int), ((c : Int), ()))))))) := by
    unfold u_ref01_Mul_l1
    simp only [ltI_eq, lenL_eq, lmL_len]
    rw [decide_eq_false (by omega)]; rfl
  have hz : o'[i + b.length]? = some 0 := by rw [h6 _ (Nat.le_refl _)]; exact h0 _ (Nat.le_refl _) (by omega)
  refine ⟨o'.set (i + b.length) c, ?_, by rw [List.length_set, h2], h3.set h4 _, ?_, fun m hm hlt => ?_⟩
  · unfold u_ref01_Mul_l0
    simp only [ltI_eq, lenL_eq, lmL_len, addI_eq]
    rw [decide_eq_true (by omega)]
    simp only [cond_true]
    rw [h1.trans (loopU_out hend)]
    simp only [obS, onS_l, lmL_len]
    rw [show (i : Int) + (b.length : Int) = ((i + b.length : Nat) : Int) by omega, wri (by simp only [LM] at *; omega), chkI_nat (by omega)]
    simp only [obS, idxN_eq, lmL_get, hz, Option.map_some]
    rw [wr32s h4, show (i : Int) + 1 = ((i + 1 : Nat) : Int) by omega, wri (by simp only [LM] at *; omega), limT_upd _ _ ⟨0, rfl⟩, lmL_set]
  · have e1 := val_set (x := c) hz
    rw [val_take_succ gi, Nat.add_mul, ← hv]
    rw [List.take_length] at h5
    rw [Nat.mul_assoc]
    omega
  · rw [List.getElem?_set_ne (by omega), h6 m (by omega)]
    rw [List.length_set, h2] at hlt
    exact h0 m (by omega) hlt
theorem r_MulL {a b : List Nat} (ha : Lim a) (hb : Lim b) (hab : a.length + b.length < LM) : u_ref01_Mul (lmL a, (lmL b, ())) = some (lm (val a * val b), ()) := by
  have hla : a.length < LM := by omega
  have hlb : b.length < LM := by omega
  have key : ∀ k, k ≤ a.length → ∃ o, loopU u_ref01_Mul_l0 (lmL a, (lmL b, (lmL (List.replicate (a.length + b.length) 0), ((0 : Int), ())))) = loopU u_ref01_Mul_l0 (lmL a, (lmL b, (lmL o, ((k : Int), ())))) ∧
      o.length = a.length + b.length ∧ Lim o ∧ val o = val (a.take k) * val b ∧ ∀ m, k + b.length ≤ m → m < o.length → o[m]? = some 0 := by
    intro k
    induction k with
    | zero =>
      intro _
      refine ⟨_, rfl, by simp, Lim.rep _, by simp [val_rep, val], fun m _ hm => ?_⟩
      rw [List.getElem?_replicate, if_pos (by simpa using hm)]
    | succ k ih =>
      intro hk
      obtain ⟨o, h1, h2, h3, h4, h5⟩ := ih (by omega)
      obtain ⟨o', g1, g2, g3, g4, g5⟩ := mul_outer_step ha hb h3 (show k < a.length from hk) h2 hla hlb h4 h5
      exact ⟨o', h1.trans (loopU_go g1), g2.trans h2, g3, g4, g5⟩
  obtain ⟨o, h1, h2, h3, h4, _⟩ := key a.length (Nat.le_refl _)
  have hend : u_ref01_Mul_l0 (lmL a, (lmL b, (lmL o, ((a.length : Int), ())))) = some (.inr (.inl (lmL o, ()))) := by
    unfold u_ref01_Mul_l0
    simp only [ltI_eq, lenL_eq, lmL_len]
    rw [decide_eq_false (by omega)]; rfl
  unfold u_ref01_Mul
  simp only [lenL_eq, lmL_len, addI_eq]
  rw [show (a.length : Int) + (b.length : Int) = ((a.length + b.length : Nat) : Int) by omega, wri (by simp only [LM] at *; omega), mkLen_ok (by omega) (by omega) (by simp only [LM] at *; omega) (by decide)]
  simp only [obS, Int.toNat_natCast, repL_eq, rep_lmL]
  rw [h1.trans (loopU_out hend)]
  simp only [obS, onS_l]
  rw [r_Trim h3 (by omega)]
  rw [List.take_length] at h4
  simp only [obS, h4]
theorem r_Mul {x y : Nat} (h : (limbs x).length + (limbs y).length < LM) : u_ref01_Mul (lm x, (lm y, ())) = some (lm (x * y), ()) := by
  have := r_MulL (lim_limbs x) (lim_limbs y) h
  rw [val_limbs, val_limbs] at this
  exact this

/-! quotients and divisors of numbers of two limbs -/
theorem r_smallN {n : Nat} (h : n < B64) : u_ref01_small (lm n, ()) = some ((n : Int), (true, ())) := by
  have h2 : (limbs n).length ≤ 2 := limbs_len.2 h
  have := r_small (lim_limbs n)
  rw [if_pos h2, decide_eq_true h2, val_limbs] at this
  exact this
theorem tdivN (a b : Nat) : (a : Int).tdiv (b : Int) = ((a / b : Nat) : Int) := rfl
theorem tmodN (a b : Nat) : (a : Int).tmod (b : Int) = ((a % b : Nat) : Int) := rfl
theorem r_Div {a b : Nat} (ha : a < B64) (hb : b < B64) (h0 : b ≠ 0) : u_ref01_Div (lm a, (lm b, ())) = some (lm (a / b), (lm (a % b), (0, ()))) := by
  unfold u_ref01_Div
  simp only [lenL_eq, eqI_eq, ltI_eq]
  have hbl : (lm b).length ≠ 0 := fun h => h0 (lm_len0.1 h)
  rw [decide_eq_false (by omega)]
  simp only [cond_false, r_Cmp (lm_small ha) (lm_small hb), obS]
  unfold cmpN
  by_cases hlt : a < b
  · rw [if_pos hlt, decide_eq_true (by omega)]
    simp only [cond_true, r_Trim' (lm_small ha), obS]
    rw [Nat.div_eq_of_lt hlt, Nat.mod_eq_of_lt hlt, lm_zero]
  · rw [if_neg hlt]
    have : decide ((if a = b then (0 : Int) else 1) < 0) = false := decide_eq_false (by split <;> omega)
    rw [this]
    simp only [cond_false, r_smallN ha, r_smallN hb, obS, cond_true, divI_eq, modI_eq, tdivN, tmodN]
    rw [nz_eq (by omega)]
    have hd : a / b < B64 := Nat.lt_of_le_of_lt (Nat.div_le_self _ _) ha
    have hm : a % b < B64 := Nat.lt_of_le_of_lt (Nat.mod_le _ _) ha
    simp only [obS, tdivN, tmodN, wr64s hd, r_Of hd, r_Of hm]
theorem gcd_loop {a b : Nat} : loopU u_ref01_Gcd_l1 ((a : Int), ((b : Int), ())) = some (.inl (((a.gcd b : Nat) : Int), ())) := by
  induction b using Nat.strongRecOn generalizing a with
  | _ b ih =>
    by_cases h0 : b = 0
    · subst h0
      exact loopU_out (by unfold u_ref01_Gcd_l1; simp [Nat.gcd_zero_right])
    · have step : u_ref01_Gcd_l1 ((a : Int), ((b : Int), ())) = some (.inl ((b : Int), (((a % b : Nat) : Int), ()))) := by
        unfold u_ref01_Gcd_l1
        simp only [eqI_eq, modI_eq]
        rw [decide_eq_false (by omega), nz_eq (by omega)]
        rfl
      rw [loopU_go step, ih (a % b) (Nat.mod_lt _ (Nat.pos_of_ne_zero h0)), Nat.gcd_comm a b, Nat.gcd_rec b a, Nat.gcd_comm]
theorem r_Gcd {a b : Nat} (ha : a < B64) (hb : b < B64) : u_ref01_Gcd (lm a, (lm b, ())) = some (lm (a.gcd b), ()) := by
  unfold u_ref01_Gcd
  simp only [r_Trim' (lm_small ha), r_Trim' (lm_small hb), obS]
  by_cases h0 : b = 0
  · subst h0
    rw [loopU_out (e := .inr (.inl (lm a, ()))) (by unfold u_ref01_Gcd_l0; simp [lm_zero])]
    simp [Nat.gcd_zero_right]
  · have hbl : (lm b).length ≠ 0 := fun h => h0 (lm_len0.1 h)
    have hg : a.gcd b < B64 := Nat.lt_of_le_of_lt (Nat.gcd_le_right _ (Nat.pos_of_ne_zero h0)) hb
    rw [loopU_out (e := .inl (lm (a.gcd b), ())) (by
      unfold u_ref01_Gcd_l0
      simp only [ltI_eq, lenL_eq]
      rw [decide_eq_true (by omega)]
      simp only [cond_true, r_smallN ha, r_smallN hb, obS, gcd_loop, onS_l, r_Of hg])]
    rfl

/-! rational numbers -/
theorem dn_of_lm {d : Nat} (hd : d < B64) (h0 : d ≠ 0) : (match (lm d : List T) with
    | [x] => if T.int? .u32 x = some 1 then ([] : List T) else [x]
    | l => l) = dn d := by
  unfold dn
  by_cases h1 : d = 1
  · subst h1; rw [if_pos rfl, lm_one (by decide) (by decide)]; rfl
  · rw [if_neg h1]
    by_cases h2 : d < BB
    · rw [lm_one h0 h2]
      show (if T.int? .u32 (limT d) = some 1 then ([] : List T) else [limT d]) = [limT d]
      rw [limT_int, if_neg (by intro h; injection h with h; omega)]
    · rw [lm_two (by omega) hd]
theorem one_len {d : Nat} (hd : d < B64) (h0 : d ≠ 0) : (lm d).length = 1 ↔ d < BB := by
  constructor
  · intro h; exact lm_le1.1 (by omega)
  · intro h; rw [lm_one h0 h]; rfl
theorem r_reduce (neg : Bool) {n d : Nat} (hn : n < B64) (hd : d < B64) (h0 : d ≠ 0) : u_ref02_reduce (neg, (lm n, (lm d, ()))) = some (rNeg (mkRat (sg neg n) d), (rNum (mkRat (sg neg n) d), (rDen (mkRat (sg neg n) d), ()))) := by
  unfold u_ref02_reduce
  simp only [r_Trim' (lm_small hn), r_Trim' (lm_small hd), obS, lenL_eq, eqI_eq]
  by_cases hz : n = 0
  · subst hz
    rw [decide_eq_true (by rw [lm_zero]; rfl), mk_zero, rNeg_zero, rNum_zero, rDen_zero]
    rfl
  · have hnl : (lm n).length ≠ 0 := fun h => hz (lm_len0.1 h)
    have hg : n.gcd d < B64 := Nat.lt_of_le_of_lt (Nat.gcd_le_right _ (Nat.pos_of_ne_zero h0)) hd
    have hg0 : n.gcd d ≠ 0 := Nat.gcd_ne_zero_right h0
    rw [decide_eq_false (by omega), mk_neg neg h0 hz, rNum_mk neg h0, rDen_mk neg h0]
    have hq0 : d / n.gcd d ≠ 0 := by
      have := Nat.div_pos (Nat.le_of_dvd (Nat.pos_of_ne_zero h0) (Nat.gcd_dvd_right n d)) (Nat.pos_of_ne_zero hg0)
      omega
    have hq : d / n.gcd d < B64 := Nat.lt_of_le_of_lt (Nat.div_le_self _ _) hd
    -- the second half
    have fin : ∀ (N : List T) (e : Nat), e < B64 → e ≠ 0 → (ob (α := ((Bool × List T × List T × Unit × Bool × T × T × Unit) ⊕ Empty)) (bif (eqI (lenL (lm e)) (1 : Int)) then (ob (idxL (lm e) (0 : Int)) fun x11 => (ob (T.int? .u32 (T.cell x11 0)) fun x12 => (bif (eqI x12 (1 : Int)) then (some (Sum.inl (neg, (N, ([], ((), (false, ((T.v (.slice none 0 0)), ((T.v (.slice none 0 0)), ()))))))))) else (some (Sum.inl (neg, (N, (lm e, ((), (false, ((T.v (.slice none 0 0)), ((T.v (.slice none 0 0)), ())))))))))))) else (some (Sum.inl (neg, (N, (lm e, ((), (false, ((T.v (.slice none 0 0)), ((T.v (.slice none 0 0)), ()))))))))))
        fun q13 => onS q13 (fun t14 => (some (t14.1, (t14.2.1, (t14.2.2.1, ()))))) fun q15 => noS q15) = some (neg, (N, (dn e, ()))) := by
      intro N e he he0
      simp only [lenL_eq, eqI_eq]
      by_cases h1 : e < BB
      · rw [decide_eq_true (by rw [lm_one he0 h1]; rfl)]
        simp only [cond_true]
        rw [lm_one he0 h1, idxL_int _ (by omega)]
        simp only [Int.toNat_zero, List.getElem?_cons_zero, obS, limT_cell, limT_int]
        unfold dn
        by_cases h2 : e = 1
        · subst h2; rfl
        · rw [if_neg h2, decide_eq_false (by omega), lm_one he0 h1]; rfl
      · rw [decide_eq_false (by have := (one_len he he0).1; omega)]
        unfold dn
        rw [if_neg (by simp only [BB] at h1; omega)]
        rfl
    simp only [cond_false, r_Gcd hn hd, obS, lenL_eq]
    have tail := fin (lm (n / n.gcd d)) (d / n.gcd d) hq hq0
    simp only [lenL_eq, eqI_eq] at tail
    by_cases h1 : n.gcd d = 1
    · have e1 : lm (n.gcd d) = [limT 1] := by rw [h1]; exact lm_one (by decide) (by decide)
      rw [e1]
      rw [h1, Nat.div_one, Nat.div_one] at tail ⊢
      simp only [List.length_cons, List.length_nil]
      rw [decide_eq_true (by omega), idxL_int _ (by omega)]
      simp only [Bool.not_true, cond_false, Int.toNat_zero, List.getElem?_cons_zero, obS, limT_cell, limT_int]
      rw [decide_eq_true (by omega)]
      simp only [Bool.not_true, cond_false, obS, onS_l]
      exact tail
    · by_cases h2 : n.gcd d < BB
      · have e1 : lm (n.gcd d) = [limT (n.gcd d)] := lm_one hg0 h2
        rw [decide_eq_true (by rw [e1]; rfl)]
        have e2 : idxL (lm (n.gcd d)) 0 = some (limT (n.gcd d)) := by rw [e1, idxL_int _ (by omega)]; rfl
        simp only [Bool.not_true, cond_false, e2, obS, limT_cell, limT_int]
        rw [decide_eq_false (by omega)]
        simp only [Bool.not_false, cond_true, r_Div hn hg hg0, r_Div hd hg hg0, obS, onS_l]
        exact tail
      · rw [decide_eq_false (by have := (one_len hg hg0).1; omega)]
        simp only [Bool.not_false, cond_true, r_Div hn hg hg0, r_Div hd hg hg0, obS, onS_l]
        exact tail
theorem r_size {n : Int} (h1 : -4611686018427387904 < n) (h2 : n < 4611686018427387904) : u_ref02_size (n, ()) = some (lm n.natAbs, (decide (n < 0), ())) := by
  unfold u_ref02_size
  simp only [ltI_eq, addI_eq, subI_eq]
  by_cases h : n < 0
  · rw [decide_eq_true h]
    have e : wr .u64 (wr .u64 (wr .i64 (0 - wr .i64 (n + 1))) + 1) = ((n.natAbs : Nat) : Int) := by
      rw [wri' (n := n + 1) (by omega) (by omega), wri' (by omega) (by omega), show 0 - (n + 1) = ((n.natAbs - 1 : Nat) : Int) by omega, wr64s (by simp only [B64]; omega),
        show ((n.natAbs - 1 : Nat) : Int) + 1 = ((n.natAbs : Nat) : Int) by omega, wr64s (by simp only [B64]; omega)]
    simp only [cond_true, e, r_Of (n := n.natAbs) (by simp only [B64]; omega), obS]
  · rw [decide_eq_false h]
    have e : wr .u64 n = ((n.natAbs : Nat) : Int) := by
      rw [show n = ((n.natAbs : Nat) : Int) by omega, wr64s (by simp only [B64]; omega)]; rfl
    simp only [cond_false, e, r_Of (n := n.natAbs) (by simp only [B64]; omega), obS]
def fracQ (n d : Int) : Rat := mkRat (sg (decide (n < 0) != decide (d < 0)) n.natAbs) d.natAbs
theorem bneq (a b : Bool) : (!(a == b)) = (a != b) := rfl
theorem r_Make {n d : Int} (h1 : -4611686018427387904 < n) (h2 : n < 4611686018427387904) (h3 : -4611686018427387904 < d) (h4 : d < 4611686018427387904) (h0 : d ≠ 0) :
    u_ref02_Make (n, (d, ())) = some (rNeg (fracQ n d), (rNum (fracQ n d), (rDen (fracQ n d), (0, ())))) := by
  unfold u_ref02_Make
  simp only [eqI_eq]
  rw [decide_eq_false h0]
  simp only [cond_false, r_size h1 h2, r_size h3 h4, obS, eqB_eq, bneq]
  rw [r_reduce _ (by simp only [B64]; omega) (by simp only [B64]; omega) (by omega)]
  rfl
theorem r_Frac {n d : Int} (h1 : -4611686018427387904 < n) (h2 : n < 4611686018427387904) (h3 : -4611686018427387904 < d) (h4 : d < 4611686018427387904) (h0 : d ≠ 0) :
    u_ref02_Frac (n, (d, ())) = some (rNeg (fracQ n d), (rNum (fracQ n d), (rDen (fracQ n d), ()))) := by
  unfold u_ref02_Frac
  simp only [r_Make h1 h2 h3 h4 h0, obS]
theorem fracQ_pos {n d : Int} (hd : 0 < d) : fracQ n d = mkRat n d.natAbs := by
  unfold fracQ
  rw [decide_eq_false (show ¬ d < 0 by omega)]
  congr 1
  unfold sg
  by_cases h : n < 0
  · rw [decide_eq_true h]; simp; omega
  · rw [decide_eq_false h]; simp; omega
/-- Numbers of a length that the model holds. -/
def Fit (q : Rat) : Prop := (limbs q.num.natAbs).length < LM ∧ (limbs q.den).length < LM
theorem Sm.fit {q : Rat} (h : Sm q) : Fit q := ⟨lm_small (by have := h.1; simp only [B64]; omega), lm_small (by have := h.2; simp only [B64]; omega)⟩
theorem dn_lm (d : Nat) : ∃ m, dn d = lm m ∧ (m = d ∨ m = 0) := by
  unfold dn
  split
  · exact ⟨0, lm_zero.symm, .inr rfl⟩
  · exact ⟨d, rfl, .inl rfl⟩
theorem cmpN_zero {a b : Nat} : cmpN a b = 0 ↔ a = b := by
  unfold cmpN
  by_cases h1 : a < b
  · rw [if_pos h1]; omega
  · rw [if_neg h1]; split <;> omega
theorem r_Same {p q : Rat} (hp : Fit p) (hq : Fit q) : u_ref02_Same (rNeg p, (rNum p, (rDen p, (rNeg q, (rNum q, (rDen q, ())))))) = some (decide (p = q), ()) := by
  unfold u_ref02_Same
  simp only [eqB_eq]
  by_cases hn : rNeg p = rNeg q
  · rw [hn]
    simp only [beq_self_eq_true, cond_true]
    unfold rNum
    rw [r_Cmp hp.1 hq.1]
    simp only [obS, eqI_eq]
    by_cases h1 : p.num.natAbs = q.num.natAbs
    · rw [decide_eq_true (cmpN_zero.2 h1)]
      simp only [cond_true]
      obtain ⟨m, e1, c1⟩ := dn_lm p.den
      obtain ⟨m', e2, c2⟩ := dn_lm q.den
      have l1 : (limbs m).length < LM := by rcases c1 with rfl | rfl; exact hp.2; rw [limbs_zero]; decide
      have l2 : (limbs m').length < LM := by rcases c2 with rfl | rfl; exact hq.2; rw [limbs_zero]; decide
      unfold rDen
      rw [e1, e2, r_Cmp l1 l2]
      simp only [obS]
      congr 2
      rw [decide_eq_decide, cmpN_zero]
      constructor
      · intro h
        exact rat_ext hn h1 (dn_inj p.den_nz q.den_nz (by rw [e1, e2, h]))
      · intro h
        subst h
        exact lm_inj (e1.symm.trans e2)
    · rw [decide_eq_false (fun h => h1 (cmpN_zero.1 h)), decide_eq_false (fun h => h1 (by rw [h]))]
      rfl
  · have hb : (rNeg p == rNeg q) = false := by simpa using hn
    rw [hb, decide_eq_false (fun h => hn (by rw [h]))]
    rfl
def sgnQ (q : Rat) : Int := if q = 0 then 0 else if rNeg q then -1 else 1
theorem rNum_len {q : Rat} : (rNum q).length = 0 ↔ q = 0 := by unfold rNum; rw [lm_len0, num_zero]
theorem neg_parts (q : Rat) : rNum (-q) = rNum q ∧ rDen (-q) = rDen q ∧ rNeg (-q) = (!rNeg q && decide (q ≠ 0)) := by
  refine ⟨by unfold rNum; rw [Rat.neg_num, Int.natAbs_neg], by unfold rDen; rw [Rat.neg_den], ?_⟩
  unfold rNeg
  rw [Rat.neg_num]
  have h0 : q.num = 0 ↔ q = 0 := Rat.num_eq_zero
  by_cases h : q = 0
  · subst h; rfl
  · have : q.num ≠ 0 := fun hh => h (h0.1 hh)
    rw [decide_eq_true h, Bool.and_true]
    by_cases hl : q.num < 0
    · rw [decide_eq_true hl, decide_eq_false (by omega)]; rfl
    · rw [decide_eq_false hl, decide_eq_true (by omega)]; rfl
theorem r_Neg (q : Rat) : u_ref02_Neg (rNeg q, (rNum q, (rDen q, ()))) = some (rNeg (-q), (rNum (-q), (rDen (-q), ()))) := by
  obtain ⟨e1, e2, e3⟩ := neg_parts q
  unfold u_ref02_Neg
  simp only [ltI_eq, lenL_eq, e1, e2, e3]
  cases hn : rNeg q with
  | true => simp
  | false =>
    simp only [Bool.not_false, cond_true, Bool.true_and]
    congr 3
    apply propext
    have := rNum_len (q := q)
    constructor
    · intro h hq; have := this.2 hq; omega
    · intro h; have : (rNum q).length ≠ 0 := fun hh => h (this.1 hh); omega
end Go.Eng.Rt

/- The program's numbers (natural, rational) on numbers of one limb: what they give. -/
namespace Go.Eng.Rt
open Go.Eng

theorem n_trim_loop (l : List Nat) (hl : l.length < LM) : ∀ n, n ≤ l.length → loopU u_natural_trim_l0 (lmL l, ((n : Int), ())) = some (.inl (lmL l, ((((trimN (l.take n)).length : Nat) : Int), ()))) :=
  r_trim_loop l hl
theorem n_trim {l : List Nat} (h : Lim l) (hl : l.length < LM) : u_natural_trim (lmL l, ()) = some (lm (val l), ()) := by
  unfold u_natural_trim
  have e := n_trim_loop l hl l.length (Nat.le_refl _)
  rw [List.take_length] at e
  simp only [lenL_eq, lmL_len, e, obS, onS_l]
  rw [cutL_int (by omega) (by omega) (by rw [lmL_len]; have := trimN_le l; omega)]
  simp only [Int.toNat_natCast, Int.toNat_zero, List.drop_zero, obS, lmL_take, trimN_take, lim_trim h]
theorem n_trim' {n : Nat} (h : (limbs n).length < LM) : u_natural_trim (lm n, ()) = some (lm n, ()) := by
  have := n_trim (lim_limbs n) h
  rw [val_limbs] at this
  exact this

/-! binary digits -/
def lenBody (s : ByteArray) (t : (Int × Unit)) : Option (Int × Unit) :=
  (ob (α := ((Int × Int × Unit) ⊕ Empty)) (bif (leI (65536 : Int) t.1) then (ob (nn (16 : Int)) fun x0 => (some (Sum.inl ((shrI .u32 t.1 x0), ((16 : Int), ()))))) else (some (Sum.inl (t.1, ((0 : Int), ()))))) fun q1 => onS q1 (fun t2 => (ob (α := ((Int × Int × Unit) ⊕ Empty)) (bif (leI (256 : Int) t2.1) then (ob (nn (8 : Int)) fun x3 => (some (Sum.inl ((shrI .u32 t2.1 x3), ((wr .i64 (addI t2.2.1 (8 : Int))), ()))))) else (some (Sum.inl (t2.1, (t2.2.1, ()))))) fun q4 => onS q4 (fun t5 => (ob (idxS s (wr .u8 t5.1)) fun x6 => (some ((wr .i64 (addI t5.2.1 (wr .i64 x6))), ())))) fun q7 => noS q7)) fun q8 => noS q8)
def tabOK (s : ByteArray) : Bool := (List.range 256).all fun y => match idxS s (y : Int) with
  | some k => decide (0 ≤ k) && decide (k ≤ 8) && (y == 0 || decide (1 ≤ k))
  | none => false
theorem len_tab : ∃ s, (∀ t, u_math_bits_Len32 t = lenBody s t) ∧ tabOK s = true := ⟨_, fun _ => rfl, by decide +kernel⟩
theorem shr16 (n : Nat) : shrI .u32 (n : Int) 16 = ((n / 65536 : Nat) : Int) := by
  unfold shrI
  rw [show ((2 : Int) ^ (min (Int.toNat 16) (IntKind.bits .u32))) = ((65536 : Nat) : Int) from rfl, Int.fdiv_eq_ediv_of_nonneg _ (by omega)]
  exact (Int.natCast_ediv n _).symm
theorem shr8 (n : Nat) : shrI .u32 (n : Int) 8 = ((n / 256 : Nat) : Int) := by
  unfold shrI
  rw [show ((2 : Int) ^ (min (Int.toNat 8) (IntKind.bits .u32))) = ((256 : Nat) : Int) from rfl, Int.fdiv_eq_ediv_of_nonneg _ (by omega)]
  exact (Int.natCast_ediv n _).symm
theorem n_Len32 {x : Nat} (hx : x < BB) : ∃ k : Nat, u_math_bits_Len32 ((x : Int), ()) = some ((k : Int), ()) ∧ k ≤ 32 ∧ (x ≠ 0 → k ≠ 0) := by
  obtain ⟨s, hs, ht⟩ := len_tab
  have tab : ∀ y : Nat, y < 256 → ∃ k : Nat, idxS s (wr .u8 (y : Int)) = some (k : Int) ∧ k ≤ 8 ∧ (y ≠ 0 → k ≠ 0) := fun y hy => by
    have := List.all_eq_true.1 ht y (List.mem_range.2 hy)
    rw [wrU8 (by omega) (by omega)]
    cases hi : idxS s (y : Int) with
    | none => rw [hi] at this; cases this
    | some k =>
      rw [hi] at this
      simp only [Bool.and_eq_true, decide_eq_true_eq, Bool.or_eq_true, beq_iff_eq] at this
      obtain ⟨k', rfl⟩ := Int.eq_ofNat_of_zero_le this.1.1
      exact ⟨k', rfl, by omega, fun h => by omega⟩
  rw [hs]
  unfold lenBody
  have n16 : nn (16 : Int) = some 16 := by unfold nn; rfl
  have n8 : nn (8 : Int) = some 8 := by unfold nn; rfl
  simp only [leI_eq, addI_eq]
  have last : ∀ (y c : Nat), y < 256 → c ≤ 24 → ∃ k : Nat, (ob (idxS s (wr .u8 (y : Int))) fun x6 => (some ((wr .i64 ((c : Int) + (wr .i64 x6))), ()))) = some ((k : Int), ()) ∧ k ≤ 32 ∧ (y ≠ 0 ∨ c ≠ 0 → k ≠ 0) := fun y c hy hc => by
    obtain ⟨k, h1, h2, h3⟩ := tab y hy
    rw [h1]
    simp only [obS]
    rw [wri (n := k) (by omega), show (c : Int) + (k : Int) = ((c + k : Nat) : Int) by omega, wri (by omega)]
    exact ⟨c + k, rfl, by omega, fun h => by omega⟩
  by_cases h1 : 65536 ≤ x
  · rw [decide_eq_true (by omega)]
    simp only [cond_true, n16, obS, shr16, onS_l]
    by_cases h2 : 256 ≤ x / 65536
    · rw [decide_eq_true (by omega)]
      simp only [cond_true, n8, obS, shr8, onS_l]
      rw [show (16 : Int) + 8 = ((24 : Nat) : Int) from rfl, wri (by omega)]
      obtain ⟨k, e1, e2, e3⟩ := last (x / 65536 / 256) 24 (by simp only [BB] at hx; omega) (by omega)
      exact ⟨k, e1, e2, fun _ => e3 (.inr (by omega))⟩
    · rw [decide_eq_false (by omega)]
      simp only [cond_false, obS, onS_l]
      obtain ⟨k, e1, e2, e3⟩ := last (x / 65536) 16 (by omega) (by omega)
      exact ⟨k, e1, e2, fun _ => e3 (.inr (by omega))⟩
  · rw [decide_eq_false (by omega)]
    simp only [cond_false, obS, onS_l]
    by_cases h2 : 256 ≤ x
    · rw [decide_eq_true (by omega)]
      simp only [cond_true, n8, obS, shr8, onS_l]
      rw [show (0 : Int) + 8 = ((8 : Nat) : Int) from rfl, wri (by omega)]
      obtain ⟨k, e1, e2, e3⟩ := last (x / 256) 8 (by omega) (by omega)
      exact ⟨k, e1, e2, fun _ => e3 (.inr (by omega))⟩
    · rw [decide_eq_false (by omega)]
      simp only [cond_false, obS, onS_l]
      obtain ⟨k, e1, e2, e3⟩ := last x 0 (by omega) (by omega)
      exact ⟨k, e1, e2, fun h => e3 (.inl h)⟩
theorem limbs_last {n : Nat} (h : n ≠ 0) : ∃ x, (limbs n)[(limbs n).length - 1]? = some x ∧ x ≠ 0 ∧ x < BB := by
  have hne : limbs n ≠ [] := limbs_ne h
  obtain ⟨m, a, e⟩ : ∃ m a, limbs n = m ++ [a] := ⟨(limbs n).dropLast, (limbs n).getLast hne, (List.dropLast_concat_getLast hne).symm⟩
  have hl := lim_limbs n
  refine ⟨a, by rw [e]; simp, ?_, hl a (by rw [e]; simp)⟩
  intro h0
  subst h0
  have h1 : limbs (val (limbs n)) = trimN (limbs n) := limbs_val hl
  rw [val_limbs, e, trimN_snoc0] at h1
  have h2 := congrArg List.length h1
  have h3 := trimN_le m
  simp at h2
  omega
theorem n_Bits {n : Nat} (h : (limbs n).length < LM) : ∃ k : Nat, u_natural_Bits (lm n, ()) = some ((k : Int), ()) ∧ (k = 0 ↔ n = 0) := by
  unfold u_natural_Bits
  simp only [n_trim' h, obS, lenL_eq, eqI_eq, subI_eq, mulI_eq, addI_eq]
  by_cases h0 : n = 0
  · subst h0
    rw [decide_eq_true (by rw [lm_zero]; rfl)]
    exact ⟨0, rfl, by simp⟩
  · have hl : (lm n).length ≠ 0 := fun hh => h0 (lm_len0.1 hh)
    obtain ⟨x, h1, h2, h3⟩ := limbs_last h0
    obtain ⟨k, g1, g2, g3⟩ := n_Len32 h3
    rw [decide_eq_false (by omega), wri' (by omega) (by rw [lm_len]; simp only [LM] at h; omega)]
    have hll := lm_len n
    rw [show ((lm n).length : Int) - 1 = (((limbs n).length - 1 : Nat) : Int) by omega]
    simp only [cond_false, idxL_nat]
    unfold lm
    simp only [lmL_get, h1, Option.map_some, obS, limT_cell, limT_int, g1]
    rw [show (32 : Int) * (((limbs n).length - 1 : Nat) : Int) = ((32 * ((limbs n).length - 1) : Nat) : Int) by push_cast; rfl, wri (by simp only [LM] at h; omega),
      show ((32 * ((limbs n).length - 1) : Nat) : Int) + (k : Int) = ((32 * ((limbs n).length - 1) + k : Nat) : Int) by omega, wri (by simp only [LM] at h; omega)]
    exact ⟨_, rfl, by constructor <;> intro hh <;> have := g3 h2 <;> omega⟩
theorem n_cmp_loop {a b : List Nat} (ha : Lim a) (hb : Lim b) (hl : a.length = b.length) (hm : a.length < LM) : ∀ n, n ≤ a.length → a.drop n = b.drop n →
    loopU u_natural_Cmp_l0 (lmL a, (lmL b, ((n : Int) - 1, ()))) = some (if val a = val b then .inr (.inl ()) else .inl (cmpN (val a) (val b), ())) := by
  intro n
  induction n with
  | zero =>
    intro _ hd
    have : a = b := by simpa using hd
    subst this
    rw [if_pos rfl]
    exact loopU_out (by unfold u_natural_Cmp_l0; simp only [leI_eq]; rw [decide_eq_false (by omega)]; rfl)
  | succ n ih =>
    intro hn hd
    have h1 : n < a.length := hn
    have h2 : n < b.length := by omega
    have ga := List.getElem?_eq_getElem h1
    have gb := List.getElem?_eq_getElem h2
    have step : u_natural_Cmp_l0 (lmL a, (lmL b, (((n + 1 : Nat) : Int) - 1, ()))) = if a[n] < b[n] then some (.inr (.inl (-1, ()))) else if b[n] < a[n] then some (.inr (.inl (1, ()))) else some (.inl (lmL a, (lmL b, ((n : Int) - 1, ())))) := by
      unfold u_natural_Cmp_l0
      rw [show ((n + 1 : Nat) : Int) - 1 = (n : Int) by omega]
      simp only [leI_eq, ltI_eq, subI_eq, eqI_eq]
      rw [decide_eq_true (by omega), idxL_nat, idxL_nat, lmL_get, lmL_get, ga, gb, wri' (by omega) (by simp only [LM] at hm; omega)]
      simp only [cond_true, Option.map_some, obS, limT_cell, limT_int]
      by_cases c1 : a[n] < b[n]
      · rw [if_pos c1, decide_eq_false (by omega), decide_eq_true (by omega)]; rfl
      · rw [if_neg c1]
        by_cases c2 : b[n] < a[n]
        · rw [if_pos c2, decide_eq_false (by omega), decide_eq_false (by omega)]; rfl
        · rw [if_neg c2, decide_eq_true (by omega)]; rfl
    by_cases c1 : a[n] < b[n]
    · rw [if_pos c1] at step
      have := val_lt_of ha ga gb c1 hd
      rw [loopU_out step, if_neg (by omega)]
      unfold cmpN
      rw [if_pos this]
    · rw [if_neg c1] at step
      by_cases c2 : b[n] < a[n]
      · rw [if_pos c2] at step
        have := val_lt_of hb gb ga c2 hd.symm
        rw [loopU_out step, if_neg (by omega)]
        unfold cmpN
        rw [if_neg (by omega), if_neg (by omega)]
      · rw [if_neg c2] at step
        rw [loopU_go step]
        refine ih (by omega) ?_
        rw [List.drop_eq_getElem_cons h1, List.drop_eq_getElem_cons h2, hd, show a[n] = b[n] by omega]
theorem n_Cmp {x y : Nat} (hx : (limbs x).length < LM) (hy : (limbs y).length < LM) : u_natural_Cmp (lm x, (lm y, ())) = some (cmpN x y, ()) := by
  unfold u_natural_Cmp
  simp only [n_trim' hx, n_trim' hy, obS, lenL_eq, lm_len, eqI_eq, ltI_eq, subI_eq]
  by_cases hl : (limbs x).length = (limbs y).length
  · rw [decide_eq_true (by omega), wri' (by omega) (by simp only [LM] at hx; omega)]
    have := n_cmp_loop (lim_limbs x) (lim_limbs y) hl hx (limbs x).length (Nat.le_refl _) (by rw [List.drop_length, hl, List.drop_length])
    rw [val_limbs, val_limbs] at this
    simp only [lm, Bool.not_true, cond_false, this, obS]
    by_cases he : x = y
    · subst he; simp [cmpN]
    · rw [if_neg he]; rfl
  · rw [decide_eq_false (by omega)]
    simp only [Bool.not_false, cond_true]
    by_cases hc : (limbs x).length < (limbs y).length
    · have := len_lt hc
      rw [decide_eq_true (by omega)]
      unfold cmpN
      rw [if_pos this]; rfl
    · have := len_lt (x := y) (y := x) (by omega)
      rw [decide_eq_false (by omega)]
      unfold cmpN
      rw [if_neg (by omega), if_neg (by omega)]; rfl

/-! short numbers -/
theorem p_word {n : Nat} (h : n < BB) : u_rational_word (lm n, ()) = some ((n : Int), ()) := by
  unfold u_rational_word
  by_cases h0 : n = 0
  · subst h0
    rw [lm_zero]
    rw [loopU_out (e := .inl (0, ())) (by simp [u_rational_word_l0, wri'])]
    rfl
  · rw [lm_one h0 h]
    have e : bitI .or .u64 (0 : Int) (n : Int) = (n : Int) := by
      have := or64' (a := n) (b := 0) h (by decide)
      simpa using this
    rw [loopU_go (s' := ([limT n], ((n : Int), (-1, ())))) (by
      unfold u_rational_word_l0
      simp only [leI_eq, lenL_eq, subI_eq, List.length_cons, List.length_nil]
      rw [wri' (by omega) (by omega), decide_eq_true (by omega), idxL_int _ (by omega), wri' (by omega) (by omega)]
      simp only [cond_true, nn32, obS]
      have e2 : shlI .u64 (0 : Int) 32 = 0 := by have := shl32 0; simpa using this
      have e3 : wr .u64 (0 : Int) = 0 := wr64s (n := 0) (by decide)
      simp [limT_cell, limT_any, e2, e3, wr64s (show n < B64 by simp only [BB, B64] at *; omega), e])]
    rw [loopU_out (e := .inl ((n : Int), ())) (by simp [u_rational_word_l0])]
    rfl
def S1q (q : Rat) : Prop := q.num.natAbs < BB ∧ q.den < BB
theorem Sm.s1 {q : Rat} (h : Sm q) : S1q q := ⟨by have := h.1; simp only [BB]; omega, by have := h.2; simp only [BB]; omega⟩
theorem p_parts {q : Rat} (h : S1q q) (b : Bool) : u_rational_parts (b, (rNum q, (rDen q, ()))) = some ((q.num.natAbs : Int), ((q.den : Int), (true, ()))) := by
  obtain ⟨h1, h2⟩ := h
  have hd := q.den_nz
  have l1 : (rNum q).length ≤ 1 := lm_le1.2 h1
  unfold u_rational_parts
  simp only [ltI_eq, lenL_eq, eqI_eq]
  rw [decide_eq_false (by omega)]
  have w : u_rational_word (rNum q, ()) = some ((q.num.natAbs : Int), ()) := p_word h1
  rw [rDen_sm h2]
  by_cases hd1 : q.den = 1
  · rw [if_pos hd1]
    simp only [List.length_nil]
    rw [decide_eq_false (by omega), decide_eq_false (by omega)]
    simp only [cond_false, obS, onS_l, w]
    rw [hd1]; rfl
  · rw [if_neg hd1]
    simp only [List.length_cons, List.length_nil]
    rw [decide_eq_false (by omega), decide_eq_true (by omega), idxL_int _ (by omega)]
    simp only [cond_false, cond_true, Int.toNat_zero, List.getElem?_cons_zero, obS, limT_cell, limT_any, onS_l, w]
    rw [wr64s (by simp only [BB, B64] at *; omega), decide_eq_false (by omega)]
    rfl
theorem p_divisor (a b : Nat) : u_rational_divisor ((a : Int), ((b : Int), ())) = some (((a.gcd b : Nat) : Int), ()) := by
  unfold u_rational_divisor
  have : loopU u_rational_divisor_l0 ((a : Int), ((b : Int), ())) = some (.inl (((a.gcd b : Nat) : Int), ())) := gcd_loop
  rw [this]; rfl

/-! short -/
theorem cutN_eq {α : Type} (l : List α) (a n : Nat) : cutN l a n = (l.drop a).take n := by unfold cutN; rfl
theorem cut3_nat {L l h : Nat} (h1 : l ≤ h) (h2 : h ≤ L) : cut3 (L : Int) (l : Int) (h : Int) (h : Int) = some (l, h - l) := by
  unfold cut3
  rw [if_pos ⟨by omega, by omega, rfl, by omega⟩]
  simp
theorem cutI_nat {L l h : Nat} (h1 : l ≤ h) (h2 : h ≤ L) : cutI (L : Int) (l : Int) (h : Int) = some (l, h - l) := by
  unfold cutI
  rw [if_pos ⟨by omega, by omega, by omega⟩]
  simp
theorem natI_eq (n : Nat) : natI n = (n : Int) := by unfold natI; rfl
theorem addN_eq (a b : Nat) : addN a b = a + b := by unfold addN; rfl
theorem rep4 : repL 4 (T.v (.int .u32 (0 : Int))) = [limT 0, limT 0, limT 0, limT 0] := by rw [repL_eq]; rfl
theorem mkLen4 : mkLen (4 : Int) 4 4 = some (4, 4) := by unfold mkLen; rfl
theorem chk0 {n : Int} (h : 0 < n) : chkI n 0 = some 0 := by rw [chkI_int (by omega) h]; rfl
theorem chk1 {n : Int} (h : 1 < n) : chkI n 1 = some 1 := by rw [chkI_int (by omega) h]; rfl
theorem lim_wr (n : Nat) : T.v (.int .u32 (wr .u32 (n : Int))) = limT (n % BB) := by rw [wr32n]; rfl
theorem upd0 (n m : Nat) : T.upd 1 (limT n) 0 [limT m] = limT m := T_upd1 _ _
theorem k1 : cut3 4 0 1 1 = some (0, 1) := by unfold cut3; rfl
theorem k2 : cut3 4 1 2 2 = some (1, 1) := by unfold cut3; rfl
theorem k3 : cut3 4 1 3 3 = some (1, 2) := by unfold cut3; rfl
theorem k4 : cut3 4 0 2 2 = some (0, 2) := by unfold cut3; rfl
theorem k5 : cut3 4 2 3 3 = some (2, 1) := by unfold cut3; rfl
theorem k6 : cut3 4 2 4 4 = some (2, 2) := by unfold cut3; rfl
theorem k7 : cutI 4 1 4 = some (1, 3) := by unfold cutI; rfl
theorem k8 : cutI 4 2 4 = some (2, 2) := by unfold cutI; rfl
theorem k9 : wr .i64 (1 + 1) = 2 := wr64 (by omega) (by omega)
theorem k10 : wr .i64 (1 + 2) = 3 := wr64 (by omega) (by omega)
theorem k11 : wr .i64 (2 + 1) = 3 := wr64 (by omega) (by omega)
theorem k12 : wr .i64 (2 + 2) = 4 := wr64 (by omega) (by omega)
theorem k19 : natI 3 = 3 := by unfold natI; rfl
theorem k20 : natI 2 = 2 := by unfold natI; rfl
theorem k13 : chkI 4 0 = some 0 := by unfold chkI; rfl
theorem k14 : chkI 4 1 = some 1 := by unfold chkI; rfl
theorem k15 : chkI 3 0 = some 0 := by unfold chkI; rfl
theorem k16 : chkI 3 1 = some 1 := by unfold chkI; rfl
theorem k17 : chkI 2 0 = some 0 := by unfold chkI; rfl
theorem k18 : chkI 2 1 = some 1 := by unfold chkI; rfl
theorem p_short (neg : Bool) {n d : Nat} (hn : n < B64) (hd : d < B64) (h0 : d ≠ 0) :
    u_rational_short (neg, ((n : Int), ((d : Int), ()))) = some (rNeg (mkRat (sg neg n) d), (rNum (mkRat (sg neg n) d), (rDen (mkRat (sg neg n) d), ()))) := by
  unfold u_rational_short
  simp only [eqI_eq]
  by_cases hz : n = 0
  · subst hz
    rw [decide_eq_true (by omega), mk_zero, rNeg_zero, rNum_zero, rDen_zero]
    rfl
  · rw [decide_eq_false (by omega)]
    have hg0 : n.gcd d ≠ 0 := Nat.gcd_ne_zero_right h0
    have hq1 : n / n.gcd d ≠ 0 := by
      have := Nat.div_pos (Nat.le_of_dvd (Nat.pos_of_ne_zero hz) (Nat.gcd_dvd_left n d)) (Nat.pos_of_ne_zero hg0)
      omega
    have hq2 : d / n.gcd d ≠ 0 := by
      have := Nat.div_pos (Nat.le_of_dvd (Nat.pos_of_ne_zero h0) (Nat.gcd_dvd_right n d)) (Nat.pos_of_ne_zero hg0)
      omega
    have b1 : n / n.gcd d < B64 := Nat.lt_of_le_of_lt (Nat.div_le_self _ _) hn
    have b2 : d / n.gcd d < B64 := Nat.lt_of_le_of_lt (Nat.div_le_self _ _) hd
    rw [mk_neg neg h0 hz, rNum_mk neg h0, rDen_mk neg h0]
    simp only [cond_false, p_divisor, obS, nz_eq (show ((n.gcd d : Nat) : Int) ≠ 0 by omega), mkLen4, rep4, lenL_eq, List.length_cons, List.length_nil, divI_eq, tdivN, wr64s b1, wr64s b2]
    generalize n / n.gcd d = N at *
    generalize d / n.gcd d = M at *
    clear hn hd hz h0 hg0
    have m1 : N % BB < BB := Nat.mod_lt _ (by decide)
    have m2 : M % BB < BB := Nat.mod_lt _ (by decide)
    have c1 : N / BB < BB := Nat.div_lt_of_lt_mul b1
    have c2 : M / BB < BB := Nat.div_lt_of_lt_mul b2
    rw [chk0 (by omega)]
    simp only [obS, idxN_eq, List.getElem?_cons_zero, nn32, shr32, lim_wr, upd0, List.set_cons_zero, ltI_eq, addI_eq]
    -- the cases
    have l4 : ∀ a b c d : T, (([a, b, c, d] : List T).length : Int) = 4 := fun _ _ _ _ => rfl
    have dm : ∀ (m : Nat), m < B64 → decide (((m / BB : Nat) : Int) = 0) = decide (m < BB) := fun m hm => by
      rw [decide_eq_decide]
      constructor
      · intro h
        have : m / BB = 0 := by omega
        exact (Nat.div_eq_zero_iff.1 this).resolve_left (by decide)
      · intro h; rw [Nat.div_eq_of_lt h]; rfl
    have d1 : decide ((1 : Int) < (M : Int)) = !decide (M = 1) := by
      by_cases h : M = 1
      · subst h; rfl
      · rw [decide_eq_true (by omega), decide_eq_false h]; rfl
    rw [dm N b1]
    have r1 : N / BB % BB = N / BB := Nat.mod_eq_of_lt c1
    have r2 : M / BB % BB = M / BB := Nat.mod_eq_of_lt c2
    have two : ∀ m : Nat, ¬ m < BB → m < B64 → lm m = [limT (m % BB), limT (m / BB)] := fun m h1 h2 => lm_two (by omega) h2
    unfold dn
    have fN : N < BB → lm N = [limT (N % BB)] := fun h => by rw [Nat.mod_eq_of_lt h, lm_one hq1 h]
    have fM : M < BB → lm M = [limT (M % BB)] := fun h => by rw [Nat.mod_eq_of_lt h, lm_one hq2 h]
    have e1 : decide (M = 1) = true ∨ decide (M = 1) = false := by cases decide (M = 1) <;> simp
    have e2 : decide (N < BB) = true ∧ lm N = [limT (N % BB)] ∨ decide (N < BB) = false ∧ lm N = [limT (N % BB), limT (N / BB)] := by
      by_cases h : N < BB
      · exact .inl ⟨decide_eq_true h, fN h⟩
      · exact .inr ⟨decide_eq_false h, two N h b1⟩
    have e3 : decide (M < BB) = true ∧ lm M = [limT (M % BB)] ∨ decide (M < BB) = false ∧ lm M = [limT (M % BB), limT (M / BB)] := by
      by_cases h : M < BB
      · exact .inl ⟨decide_eq_true h, fM h⟩
      · exact .inr ⟨decide_eq_false h, two M h b2⟩
    have e4 : (if M = 1 then ([] : List T) else lm M) = bif decide (M = 1) then [] else lm M := by
      by_cases h : M = 1
      · rw [if_pos h, decide_eq_true h]; rfl
      · rw [if_neg h, decide_eq_false h]; rfl
    rw [e4, d1, dm M b2]
    rcases e1 with h1 | h1 <;> rcases e2 with ⟨h2, g2⟩ | ⟨h2, g2⟩ <;> rcases e3 with ⟨h3, g3⟩ | ⟨h3, g3⟩
    all_goals simp only [h1, h2, h3, g2, g3, Bool.not_true, Bool.not_false, cond_true, cond_false, k1, k2, k3, k4, k5, k6, k7, k8, k9, k10, k11, k12, k13, k14, k15, k16, k17, k18, k19, k20, obS, l4, idxN_eq, List.length_set, List.set_cons_zero, List.set_cons_succ, List.getElem?_cons_zero, List.getElem?_cons_succ, addN_eq, Nat.add_zero, Nat.reduceAdd, upd0, r1, r2, onS_l, cutN_eq, List.drop_zero, List.drop_succ_cons, List.take_succ_cons, List.take_zero]

/-! equality, signs, order -/
theorem n_Equal {a b : List Nat} (ha : a.length < LM) : u_slices_Equal___uint32_uint32_ (lmL a, (lmL b, ())) = some (decide (a = b), ()) := by
  unfold u_slices_Equal___uint32_uint32_
  simp only [lenL_eq, lmL_len, eqI_eq]
  by_cases hl : a.length = b.length
  · rw [decide_eq_true (by omega)]
    simp only [Bool.not_true, cond_false]
    have key : ∀ d i, i + d = a.length → a.take i = b.take i → loopU u_slices_Equal___uint32_uint32__l0 (lmL a, (lmL b, ((a.length : Int), ((i : Int), ())))) = some (if a = b then .inr (.inl ()) else .inl (false, ())) := by
      intro d
      induction d with
      | zero =>
        intro i hi ht
        have : i = a.length := by omega
        subst this
        rw [List.take_length, hl, List.take_length] at ht
        rw [if_pos ht]
        exact loopU_out (by unfold u_slices_Equal___uint32_uint32__l0; simp only [ltI_eq]; rw [decide_eq_false (by omega)]; rfl)
      | succ d ih =>
        intro i hi ht
        have h1 : i < a.length := by omega
        have h2 : i < b.length := by omega
        have ga := List.getElem?_eq_getElem h1
        have gb := List.getElem?_eq_getElem h2
        have step : u_slices_Equal___uint32_uint32__l0 (lmL a, (lmL b, ((a.length : Int), ((i : Int), ())))) = if a[i] = b[i] then some (.inl (lmL a, (lmL b, ((a.length : Int), (((i + 1 : Nat) : Int), ()))))) else some (.inr (.inl (false, ()))) := by
          unfold u_slices_Equal___uint32_uint32__l0
          simp only [ltI_eq, addI_eq, eqI_eq]
          rw [decide_eq_true (by omega), idxL_nat, idxL_nat, lmL_get, lmL_get, ga, gb, show (i : Int) + 1 = ((i + 1 : Nat) : Int) by omega, wri (by simp only [LM] at ha; omega)]
          simp only [cond_true, Option.map_some, obS, limT_cell, limT_int]
          by_cases h : a[i] = b[i]
          · rw [if_pos h, decide_eq_true (by omega)]; rfl
          · rw [if_neg h, decide_eq_false (by omega)]; rfl
        by_cases h : a[i] = b[i]
        · rw [if_pos h] at step
          rw [loopU_go step]
          refine ih (i + 1) (by omega) ?_
          rw [List.take_succ_eq_append_getElem h1, List.take_succ_eq_append_getElem h2, ht, h]
        · rw [if_neg h] at step
          rw [loopU_out step, if_neg]
          intro hab
          subst hab
          exact h rfl
    have := key a.length 0 (by omega) (by simp)
    rw [show ((0 : Nat) : Int) = 0 from rfl] at this
    rw [this]
    by_cases hab : a = b
    · rw [if_pos hab, decide_eq_true hab]; rfl
    · rw [if_neg hab, decide_eq_false hab]; rfl
  · rw [decide_eq_false (by omega), decide_eq_false (fun h => hl (by rw [h]))]
    rfl
theorem p_one : u_rational_one () = some ([limT 1], ()) := rfl
theorem p_Sign {q : Rat} (h : Fit q) : u_rational_Sign (rNeg q, (rNum q, (rDen q, ()))) = some (sgnQ q, ()) := by
  unfold u_rational_Sign
  obtain ⟨k, h1, h2⟩ := n_Bits h.1
  have h1' : u_natural_Bits (rNum q, ()) = some ((k : Int), ()) := h1
  simp only [h1', obS, eqI_eq]
  unfold sgnQ
  by_cases h0 : q = 0
  · rw [if_pos h0, decide_eq_true (by have := h2.2 (num_zero.2 h0); omega)]; rfl
  · rw [if_neg h0, decide_eq_false (fun hh => h0 (num_zero.1 (h2.1 (by omega))))]
    cases rNeg q <;> rfl
theorem sgnQ_vals (q : Rat) : (sgnQ q = 0 ∧ q = 0) ∨ (sgnQ q = -1 ∧ q.num < 0) ∨ (sgnQ q = 1 ∧ 0 < q.num) := by
  unfold sgnQ
  by_cases h : q = 0
  · exact .inl ⟨if_pos h, h⟩
  · have h0 : q.num ≠ 0 := fun hh => h (Rat.num_eq_zero.1 hh)
    rw [if_neg h]
    unfold rNeg
    by_cases hl : q.num < 0
    · rw [decide_eq_true hl]; exact .inr (.inl ⟨rfl, hl⟩)
    · rw [decide_eq_false hl]; exact .inr (.inr ⟨rfl, by omega⟩)
def cmpQ (p q : Rat) : Int := if p < q then -1 else if p = q then 0 else 1
theorem cmpQ_of {p q : Rat} : (p.num * q.den < q.num * p.den → cmpQ p q = -1) ∧ (p.num * q.den = q.num * p.den → cmpQ p q = 0) ∧ (q.num * p.den < p.num * q.den → cmpQ p q = 1) := by
  refine ⟨fun h => ?_, fun h => ?_, fun h => ?_⟩
  · unfold cmpQ; rw [if_pos (lt_sizes.2 h)]
  · have e : p = q := by
      rw [← Rat.mkRat_self p, ← Rat.mkRat_self q]
      exact (Rat.mkRat_eq_iff p.den_nz q.den_nz).2 h
    unfold cmpQ
    rw [if_neg (fun hh => by have := lt_sizes.1 hh; omega), if_pos e]
  · unfold cmpQ
    rw [if_neg (fun hh => by have := lt_sizes.1 hh; omega), if_neg (fun hh => by subst hh; omega)]
theorem p_Cmp {p q : Rat} (hp : Sm p) (hq : Sm q) : u_rational_Cmp (rNeg p, (rNum p, (rDen p, (rNeg q, (rNum q, (rDen q, ())))))) = some (cmpQ p q, ()) := by
  have p0 := p.den_nz
  have q0 := q.den_nz
  unfold u_rational_Cmp
  simp only [p_Sign hp.fit, p_Sign hq.fit, obS, eqI_eq, ltI_eq, subI_eq]
  have pd : (0 : Int) < p.den := by omega
  have qd : (0 : Int) < q.den := by omega
  have key : ∀ s : Int, (s < 0 → s * q.den < 0) ∧ (0 < s → 0 < s * q.den) := fun s => ⟨fun h => Int.mul_neg_of_neg_of_pos h qd, fun h => Int.mul_pos h qd⟩
  have key' : ∀ s : Int, (s < 0 → s * p.den < 0) ∧ (0 < s → 0 < s * p.den) := fun s => ⟨fun h => Int.mul_neg_of_neg_of_pos h pd, fun h => Int.mul_pos h pd⟩
  obtain ⟨c1, c2, c3⟩ := cmpQ_of (p := p) (q := q)
  have zp : p = 0 → p.num * q.den = 0 := fun h => by subst h; simp
  have zq : q = 0 → q.num * p.den = 0 := fun h => by subst h; simp
  by_cases hs : sgnQ p = sgnQ q
  · rw [decide_eq_true hs]
    simp only [Bool.not_true, cond_false, p_parts hp.s1, p_parts hq.s1, obS]
    obtain ⟨m1, f1, g1⟩ := dn_lm p.den
    obtain ⟨m2, f2, g2⟩ := dn_lm q.den
    have eqd : u_slices_Equal___uint32_uint32_ (rDen p, (rDen q, ())) = some (decide (p.den = q.den), ()) := by
      have l1 : (limbs m1).length < LM := by rcases g1 with rfl | rfl; exact hp.fit.2; rw [limbs_zero]; decide
      unfold rDen
      rw [f1, f2]
      have := n_Equal (a := limbs m1) (b := limbs m2) l1
      unfold lm
      rw [this]
      congr 2
      rw [decide_eq_decide]
      constructor
      · intro h; exact dn_inj p0 q0 (by rw [f1, f2, limbs_inj h])
      · intro h; rw [h] at f1; exact congrArg limbs (lm_inj (f1.symm.trans f2))
    have natc : u_natural_Cmp (rNum p, (rNum q, ())) = some (cmpN p.num.natAbs q.num.natAbs, ()) := n_Cmp hp.fit.1 hq.fit.1
    -- both of one sign: sizes
    have sizes : ∀ (x y : Int) (a b : Nat), x = sg (rNeg p) a → y = sg (rNeg p) b → p.num * q.den = x → q.num * p.den = y → some ((bif rNeg p then 0 - cmpN a b else cmpN a b), ()) = some (cmpQ p q, ()) := fun x y a b hx hy e1 e2 => by
      rw [e1, e2] at c1 c2 c3
      congr 2
      unfold cmpN
      cases hn : rNeg p with
      | true =>
        rw [hn] at hx hy
        simp only [sg, if_true] at hx hy
        simp only [cond_true]
        by_cases h1 : a < b
        · rw [if_pos h1, c3 (by omega)]; rfl
        · rw [if_neg h1]
          by_cases h2 : a = b
          · rw [if_pos h2, c2 (by omega)]; rfl
          · rw [if_neg h2, c1 (by omega)]; rfl
      | false =>
        rw [hn] at hx hy
        simp only [sg, Bool.false_eq_true, if_false] at hx hy
        simp only [cond_false]
        by_cases h1 : a < b
        · rw [if_pos h1, c1 (by omega)]
        · rw [if_neg h1]
          by_cases h2 : a = b
          · rw [if_pos h2, c2 (by omega)]
          · rw [if_neg h2, c3 (by omega)]
    have hneg : rNeg p = rNeg q := by
      unfold rNeg
      rcases sgnQ_vals p with ⟨a1, a2⟩ | ⟨a1, a2⟩ | ⟨a1, a2⟩ <;> rcases sgnQ_vals q with ⟨b1, b2⟩ | ⟨b1, b2⟩ | ⟨b1, b2⟩ <;> first
        | (rw [a1, b1] at hs; cases hs; done)
        | (subst a2; subst b2; rfl)
        | (rw [decide_eq_true a2, decide_eq_true b2])
        | (rw [decide_eq_false (by omega), decide_eq_false (by omega)])
    have wc : ∀ a b : Nat, wr .i64 (0 - cmpN a b) = 0 - cmpN a b := fun a b => by
      have : cmpN a b = -1 ∨ cmpN a b = 0 ∨ cmpN a b = 1 := by
        unfold cmpN
        by_cases h1 : a < b
        · rw [if_pos h1]; exact .inl rfl
        · rw [if_neg h1]
          by_cases h2 : a = b
          · rw [if_pos h2]; exact .inr (.inl rfl)
          · rw [if_neg h2]; exact .inr (.inr rfl)
      exact wri' (by omega) (by omega)
    rw [eqd]
    simp only [obS]
    have hpn := sg_num p
    have hqn := sg_num q
    by_cases hd : p.den = q.den
    · rw [decide_eq_true hd]
      simp only [cond_true, natc, obS, onS_l, wc]
      have pos : ∀ s : Bool, sg s p.num.natAbs * (q.den : Int) = sg s (p.num.natAbs * q.den) := fun s => sgn_mul s _ _
      have hcm : cmpN p.num.natAbs q.num.natAbs = cmpN (p.num.natAbs * q.den) (q.num.natAbs * p.den) := by
        rw [hd]
        unfold cmpN
        have i1 : p.num.natAbs * q.den < q.num.natAbs * q.den ↔ p.num.natAbs < q.num.natAbs := Nat.mul_lt_mul_right (Nat.pos_of_ne_zero q0)
        have i2 : p.num.natAbs * q.den = q.num.natAbs * q.den ↔ p.num.natAbs = q.num.natAbs := Nat.mul_left_inj q0
        simp only [i1, i2]
      rw [hcm]
      have fin := sizes _ _ (p.num.natAbs * q.den) (q.num.natAbs * p.den) rfl rfl (by rw [← sgn_mul, hpn]) (by rw [← sgn_mul, hneg, hqn])
      cases hn : rNeg p <;> rw [hn] at fin <;> exact fin
    · rw [decide_eq_false hd]
      have bp := hp.1; have bq := hq.1; have bpd := hp.2; have bqd := hq.2
      have m1 : p.num.natAbs * q.den < 2147483648 * 2147483648 := Nat.mul_lt_mul'' bp bqd
      have m2 : q.num.natAbs * p.den < 2147483648 * 2147483648 := Nat.mul_lt_mul'' bq bpd
      simp only [cond_false, cond_true, obS, mulI_eq]
      rw [show ((p.num.natAbs : Nat) : Int) * (q.den : Int) = ((p.num.natAbs * q.den : Nat) : Int) from (Int.natCast_mul _ _).symm, show ((q.num.natAbs : Nat) : Int) * (p.den : Int) = ((q.num.natAbs * p.den : Nat) : Int) from (Int.natCast_mul _ _).symm,
        wr64s (by simp only [B64]; omega), wr64s (by simp only [B64]; omega)]
      have fin := sizes _ _ (p.num.natAbs * q.den) (q.num.natAbs * p.den) rfl rfl (by rw [← sgn_mul, hpn]) (by rw [← sgn_mul, hneg, hqn])
      generalize p.num.natAbs * q.den = a at *
      generalize q.num.natAbs * p.den = b at *
      by_cases h1 : a < b
      · rw [decide_eq_true (by omega)]
        have hc : cmpN a b = -1 := by unfold cmpN; rw [if_pos h1]
        rw [hc] at fin
        simp only [cond_true, obS, onS_l]
        rw [wri' (n := 0 - -1) (by omega) (by omega)]
        cases hn : rNeg p <;> rw [hn] at fin <;> exact fin
      · rw [decide_eq_false (by omega)]
        by_cases h2 : b < a
        · rw [decide_eq_true (by omega)]
          have hc : cmpN a b = 1 := by unfold cmpN; rw [if_neg h1, if_neg (by omega)]
          rw [hc] at fin
          simp only [cond_false, cond_true, obS, onS_l]
          rw [wri' (n := 0 - 1) (by omega) (by omega)]
          cases hn : rNeg p <;> rw [hn] at fin <;> exact fin
        · rw [decide_eq_false (by omega)]
          have hc : cmpN a b = 0 := cmpN_zero.2 (by omega)
          rw [hc] at fin
          simp only [cond_false, obS, onS_l]
          rw [wri' (n := 0 - 0) (by omega) (by omega)]
          cases hn : rNeg p <;> rw [hn] at fin <;> exact fin
  · rw [decide_eq_false hs]
    simp only [Bool.not_false, cond_true]
    rcases sgnQ_vals p with ⟨a1, a2⟩ | ⟨a1, a2⟩ | ⟨a1, a2⟩ <;> rcases sgnQ_vals q with ⟨b1, b2⟩ | ⟨b1, b2⟩ | ⟨b1, b2⟩ <;> rw [a1, b1]
    · exact absurd (a1.trans b1.symm) hs
    · have := (key' _).1 b2
      rw [c3 (by rw [zp a2]; exact this)]; rfl
    · have := (key' _).2 b2
      rw [c1 (by rw [zp a2]; exact this)]; rfl
    · have := (key _).1 a2
      rw [c1 (by rw [zq b2]; exact this)]; rfl
    · exact absurd (a1.trans b1.symm) hs
    · have h1 := (key _).1 a2
      have h2 := (key' _).2 b2
      rw [c1 (by omega)]; rfl
    · have := (key _).2 a2
      rw [c3 (by rw [zq b2]; exact this)]; rfl
    · have h1 := (key _).2 a2
      have h2 := (key' _).1 b2
      rw [c3 (by omega)]; rfl
    · exact absurd (a1.trans b1.symm) hs

/-! sums -/
theorem add64S0 (a b : Nat) : add64S (a : Int) (b : Int) 0 = some (((a + b) % B64 : Nat) : Int) := by
  unfold add64S
  rw [if_pos ⟨by omega, by omega, by omega, by omega⟩]
  congr 1
theorem add64C0 {a b : Nat} (h : a + b < B64) : add64C (a : Int) (b : Int) 0 = 0 := by
  unfold add64C
  simp only [B64] at h
  omega
theorem p_add {p q : Rat} (hp : Sm p) (hq : Sm q) (neg : Bool) : u_rational_add (rNeg p, (rNum p, (rDen p, (rNeg q, (rNum q, (rDen q, (neg, ()))))))) =
    (let r := mkRat (sg (rNeg p) (p.num.natAbs * q.den) + sg neg (q.num.natAbs * p.den)) (p.den * q.den); some (rNeg r, (rNum r, (rDen r, ())))) := by
  have p0 := p.den_nz
  have q0 := q.den_nz
  have bp := hp.1; have bq := hq.1; have bpd := hp.2; have bqd := hq.2
  have m1 : p.num.natAbs * q.den < 2147483648 * 2147483648 := Nat.mul_lt_mul'' bp bqd
  have m2 : q.num.natAbs * p.den < 2147483648 * 2147483648 := Nat.mul_lt_mul'' bq bpd
  have m3 : p.den * q.den < 2147483648 * 2147483648 := Nat.mul_lt_mul'' bpd bqd
  have d0 : p.den * q.den ≠ 0 := Nat.mul_ne_zero p0 q0
  unfold u_rational_add
  simp only [p_parts hp.s1, p_parts hq.s1, obS, cond_true, mulI_eq, subI_eq, leI_eq, eqI_eq, eqB_eq]
  rw [show ((p.num.natAbs : Nat) : Int) * (q.den : Int) = ((p.num.natAbs * q.den : Nat) : Int) from (Int.natCast_mul _ _).symm, show ((q.num.natAbs : Nat) : Int) * (p.den : Int) = ((q.num.natAbs * p.den : Nat) : Int) from (Int.natCast_mul _ _).symm,
    show ((p.den : Nat) : Int) * (q.den : Int) = ((p.den * q.den : Nat) : Int) from (Int.natCast_mul _ _).symm, wr64s (n := p.num.natAbs * q.den) (by simp only [B64]; omega), wr64s (n := q.num.natAbs * p.den) (by simp only [B64]; omega), wr64s (n := p.den * q.den) (by simp only [B64]; omega)]
  generalize p.num.natAbs * q.den = a at *
  generalize q.num.natAbs * p.den = b at *
  generalize p.den * q.den = d at *
  rw [add64S0, add64C0 (by simp only [B64]; omega), Nat.mod_eq_of_lt (by simp only [B64]; omega)]
  simp only [obS]
  by_cases hn : rNeg p = neg
  · rw [hn]
    simp only [beq_self_eq_true, cond_true, decide_true]
    rw [p_short neg (by simp only [B64]; omega) (by simp only [B64]; omega) d0]
    simp only [obS, onS_l, sg_add]
  · have hb : (rNeg p == neg) = false := by simpa using hn
    simp only [hb, cond_false, Bool.not_false, cond_true]
    by_cases hle : b ≤ a
    · rw [decide_eq_true (by omega), show (a : Int) - (b : Int) = ((a - b : Nat) : Int) by omega, wr64s (n := a - b) (by simp only [B64]; omega), p_short (rNeg p) (by simp only [B64]; omega) (by simp only [B64]; omega) d0]
      simp only [cond_true, obS, onS_l, sg_sub hn hle]
    · rw [decide_eq_false (by omega), show (b : Int) - (a : Int) = ((b - a : Nat) : Int) by omega, wr64s (n := b - a) (by simp only [B64]; omega), p_short neg (by simp only [B64]; omega) (by simp only [B64]; omega) d0]
      simp only [cond_false, obS, onS_l]
      rw [Int.add_comm, sg_sub (Ne.symm hn) (by omega)]
theorem p_Add {p q : Rat} (hp : Sm p) (hq : Sm q) : u_rational_Add (rNeg p, (rNum p, (rDen p, (rNeg q, (rNum q, (rDen q, ())))))) = some (rNeg (p + q), (rNum (p + q), (rDen (p + q), ()))) := by
  unfold u_rational_Add
  simp only [p_add hp hq, obS]
  rw [← sgn_mul, ← sgn_mul, sg_num, sg_num, ← add_mk]

/-! copies -/
theorem p_Clone {l : List T} (h : l.length < 1000000000) : u_slices_Clone___uint32_uint32_ (l, ()) = some (l, ()) := by
  have hr : room [] l 4 = some l := by rw [room_ok (by simp only [List.length_nil]; omega) (by decide)]; rfl
  unfold u_slices_Clone___uint32_uint32_
  simp only [hr, obS]
  unfold nilL
  cases l with
  | nil => exact bothU_eq rfl rfl
  | cons a l => rfl
theorem fit_num {q : Rat} (h : Fit q) : (rNum q).length < 1000000000 := by
  have := h.1
  unfold rNum
  rw [lm_len]
  simp only [LM] at this; omega
theorem fit_den {q : Rat} (h : Fit q) : (rDen q).length < 1000000000 := by
  obtain ⟨m, e, c⟩ := dn_lm q.den
  unfold rDen
  rw [e, lm_len]
  rcases c with rfl | rfl
  · have := h.2; simp only [LM] at this; omega
  · rw [limbs_zero]; decide
end Go.Eng.Rt

/- More of the numbers: sums, differences, products, the order, by the reference and by the program. -/
namespace Go.Eng.Rt
open Go.Eng

/-! sums of limbs (reference) -/
def at0 (l : List Nat) (i : Nat) : Nat := l.getD i 0
theorem at0_lt {l : List Nat} (h : Lim l) (i : Nat) : at0 l i < BB := by
  unfold at0
  rw [List.getD_eq_getElem?_getD]
  cases hg : l[i]? with
  | none => decide
  | some x => exact h.get hg
theorem at0_get {l : List Nat} {i : Nat} (h : i < l.length) : l[i]? = some (at0 l i) := by
  unfold at0; rw [List.getD_eq_getElem?_getD, List.getElem?_eq_getElem h]; rfl
theorem at0_out {l : List Nat} {i : Nat} (h : l.length ≤ i) : at0 l i = 0 := by
  unfold at0; rw [List.getD_eq_getElem?_getD, List.getElem?_eq_none h]; rfl
theorem val_take0 (l : List Nat) (i : Nat) : val (l.take (i + 1)) = val (l.take i) + BB ^ i * at0 l i := by
  by_cases h : i < l.length
  · exact val_take_succ (at0_get h)
  · rw [at0_out (by omega), List.take_of_length_le (by omega), List.take_of_length_le (by omega)]; simp
theorem add_step {a b : List Nat} (ha : Lim a) (hb : Lim b) (hla : a.length < LM) (hlb : b.length < LM) {o : List Nat} {c i : Nat} (hc : c < BB) (hi : i < LM) (ho : o.length = i) :
    u_ref01_Add_l0 (lmL a, (lmL b, (lmL o, ((c : Int), ((i : Int), ()))))) = if i < a.length ∨ i < b.length ∨ c ≠ 0 then
      some (.inl (lmL a, (lmL b, (lmL (o ++ [(c + at0 a i + at0 b i) % BB]), ((((c + at0 a i + at0 b i) / BB : Nat) : Int), (((i + 1 : Nat) : Int), ())))))) else some (.inr (.inl (lmL o, ()))) := by
  have xa := at0_lt ha i
  have xb := at0_lt hb i
  have hroom : ∀ n : Nat, room (lmL o) [T.v (.int .u32 ((n % BB : Nat) : Int))] 4 = some (lmL (o ++ [n % BB])) := fun n => by
    rw [room_ok (by rw [lmL_len, ho]; simp only [List.length_cons, List.length_nil, LM] at *; omega) (by decide)]
    rw [← lmL_append]; rfl
  have wi : wr .i64 ((i : Int) + 1) = ((i + 1 : Nat) : Int) := by rw [show (i : Int) + 1 = ((i + 1 : Nat) : Int) by omega, wri (by simp only [LM] at *; omega)]
  have w1 : wr .u64 ((at0 a i : Nat) : Int) = ((at0 a i : Nat) : Int) := wr64s (by simp only [BB, B64] at *; omega)
  have w2 : wr .u64 ((at0 b i : Nat) : Int) = ((at0 b i : Nat) : Int) := wr64s (by simp only [BB, B64] at *; omega)
  have w3 : wr .u64 ((c : Int) + ((at0 a i : Nat) : Int)) = ((c + at0 a i : Nat) : Int) := by rw [show (c : Int) + ((at0 a i : Nat) : Int) = ((c + at0 a i : Nat) : Int) by omega, wr64s (by simp only [BB, B64] at *; omega)]
  have w4 : wr .u64 (((c + at0 a i : Nat) : Int) + ((at0 b i : Nat) : Int)) = ((c + at0 a i + at0 b i : Nat) : Int) := by rw [show ((c + at0 a i : Nat) : Int) + ((at0 b i : Nat) : Int) = ((c + at0 a i + at0 b i : Nat) : Int) by omega, wr64s (by simp only [BB, B64] at *; omega)]
  have w5 : wr .u64 ((c : Int) + ((at0 b i : Nat) : Int)) = ((c + at0 b i : Nat) : Int) := by rw [show (c : Int) + ((at0 b i : Nat) : Int) = ((c + at0 b i : Nat) : Int) by omega, wr64s (by simp only [BB, B64] at *; omega)]
  unfold u_ref01_Add_l0
  simp only [ltI_eq, lenL_eq, lmL_len, addI_eq, eqI_eq]
  by_cases h1 : i < a.length <;> by_cases h2 : i < b.length
  · rw [decide_eq_true (show (i : Int) < (a.length : Int) by omega), if_pos (.inl h1)]
    simp only [cond_true, idxL_nat, lmL_get, at0_get h1, at0_get h2, Option.map_some, obS, limT_cell, limT_any, onS_l, w1, w2, w3, w4, lmL_len]
    rw [decide_eq_true (show (i : Int) < (b.length : Int) by omega)]
    simp only [cond_true, idxL_nat, lmL_get, at0_get h1, at0_get h2, Option.map_some, obS, limT_cell, limT_any, onS_l, w1, w2, w3, w4, nn32, wr32n, hroom, shr32, wi]
  · rw [decide_eq_true (show (i : Int) < (a.length : Int) by omega), if_pos (.inl h1)]
    simp only [cond_true, idxL_nat, lmL_get, at0_get h1, Option.map_some, obS, limT_cell, limT_any, onS_l, w1, w3, lmL_len]
    rw [decide_eq_false (show ¬ (i : Int) < (b.length : Int) by omega)]
    simp only [cond_false, obS, onS_l, nn32, wr32n, hroom, shr32, wi, at0_out (show b.length ≤ i by omega), Nat.add_zero]
  · rw [decide_eq_false (show ¬ (i : Int) < (a.length : Int) by omega), decide_eq_true (show (i : Int) < (b.length : Int) by omega), if_pos (.inr (.inl h2))]
    simp only [cond_false, cond_true, obS, onS_l, lmL_len]
    rw [decide_eq_true (show (i : Int) < (b.length : Int) by omega)]
    simp only [cond_true, idxL_nat, lmL_get, at0_get h2, Option.map_some, obS, limT_cell, limT_any, onS_l, w2, w5, nn32, wr32n, hroom, shr32, wi, at0_out (show a.length ≤ i by omega), Nat.add_zero]
  · rw [decide_eq_false (show ¬ (i : Int) < (a.length : Int) by omega), decide_eq_false (show ¬ (i : Int) < (b.length : Int) by omega)]
    by_cases h3 : c = 0
    · subst h3
      rw [decide_eq_true (by omega), if_neg (by omega)]
      rfl
    · rw [decide_eq_false (by omega), if_pos (.inr (.inr h3))]
      simp only [cond_false, cond_true, Bool.not_false, obS, onS_l, lmL_len]
      rw [decide_eq_false (show ¬ (i : Int) < (b.length : Int) by omega)]
      simp only [cond_false, obS, onS_l, nn32, wr32n, hroom, shr32, wi, at0_out (show a.length ≤ i by omega), at0_out (show b.length ≤ i by omega), Nat.add_zero]
/-- No leading zero. -/
def Top (l : List Nat) : Prop := ∀ x, l.getLast? = some x → x ≠ 0
theorem top_limbs (n : Nat) : Top (limbs n) := fun x hx => by
  by_cases h : n = 0
  · subst h; rw [limbs_zero] at hx; cases hx
  · obtain ⟨y, h1, h2, _⟩ := limbs_last h
    rw [List.getLast?_eq_getElem?] at hx
    rw [hx] at h1
    cases h1
    exact h2
theorem limbs_top {l : List Nat} (h : Lim l) (ht : Top l) : limbs (val l) = l := by
  rw [limbs_val h]
  by_cases hne : l = []
  · subst hne; rfl
  · obtain ⟨m, a, rfl⟩ : ∃ m a, l = m ++ [a] := ⟨l.dropLast, l.getLast hne, (List.dropLast_concat_getLast hne).symm⟩
    exact trimN_snoc (ht a (by simp))
theorem r_Add {x y : Nat} (hx : (limbs x).length < 100000) (hy : (limbs y).length < 100000) : u_ref01_Add (lm x, (lm y, ())) = some (lm (x + y), ()) := by
  have ha := lim_limbs x
  have hb := lim_limbs y
  have ta := top_limbs x
  have tb := top_limbs y
  have va := val_limbs x
  have vb := val_limbs y
  unfold lm
  generalize limbs x = a at *
  generalize limbs y = b at *
  let N := max a.length b.length
  have key : ∀ i, i ≤ N → ∃ (o : List Nat) (c : Nat), loopU u_ref01_Add_l0 (lmL a, (lmL b, (lmL [], ((0 : Int), ((0 : Int), ()))))) = loopU u_ref01_Add_l0 (lmL a, (lmL b, (lmL o, ((c : Int), ((i : Int), ()))))) ∧
      o.length = i ∧ Lim o ∧ c < 2 ∧ val o + BB ^ i * c = val (a.take i) + val (b.take i) ∧ (∀ x, o.getLast? = some x → i = N → c = 0 → x ≠ 0) := by
    intro i
    induction i with
    | zero => intro _; exact ⟨[], 0, rfl, rfl, Lim.nil, by decide, by simp [val], fun x hx => by cases hx⟩
    | succ i ih =>
      intro hi
      obtain ⟨o, c, h1, h2, h3, h4, h5, _⟩ := ih (by omega)
      have hs := add_step ha hb (by simp only [LM]; omega) (by simp only [LM]; omega) (o := o) (c := c) (i := i) (by simp only [BB]; omega) (by simp only [LM]; omega) h2
      rw [if_pos (by omega)] at hs
      have xa := at0_lt ha i
      have xb := at0_lt hb i
      have hm := Nat.mod_add_div (c + at0 a i + at0 b i) BB
      refine ⟨_, _, h1.trans (loopU_go hs), by rw [List.length_append, h2]; rfl, h3.append (Lim.cons (Nat.mod_lt _ (by decide)) Lim.nil), ?_, ?_, ?_⟩
      · simp only [BB] at *; omega
      · rw [val_append, h2, val_take0, val_take0]
        simp only [val, Nat.mul_zero, Nat.add_zero]
        generalize (c + at0 a i + at0 b i) % BB = r at *
        generalize (c + at0 a i + at0 b i) / BB = q at *
        have e1 : BB ^ (i + 1) * q = BB ^ i * (BB * q) := by rw [Nat.pow_succ, Nat.mul_assoc]
        have e2 : BB ^ i * (r + BB * q) = BB ^ i * (c + at0 a i + at0 b i) := by rw [hm]
        rw [e1]
        rw [Nat.mul_add, Nat.mul_add, Nat.mul_add] at e2
        omega
      · intro z hz hN hq
        simp at hz
        have hsum : c + at0 a i + at0 b i < BB := by
          rcases Nat.lt_or_ge (c + at0 a i + at0 b i) BB with h | h
          · exact h
          · have := Nat.div_pos h (show 0 < BB by decide); omega
        rw [Nat.mod_eq_of_lt hsum] at hz
        -- one of the two has its last limb here
        have hlast : at0 a i ≠ 0 ∨ at0 b i ≠ 0 := by
          have : a.length = i + 1 ∨ b.length = i + 1 := by omega
          rcases this with hl | hl
          · left
            exact ta _ (by rw [List.getLast?_eq_getElem?, hl, Nat.add_sub_cancel, at0_get (by omega)])
          · right
            exact tb _ (by rw [List.getLast?_eq_getElem?, hl, Nat.add_sub_cancel, at0_get (by omega)])
        omega
  obtain ⟨o, c, h1, h2, h3, h4, h5, h6⟩ := key N (Nat.le_refl _)
  have hN1 : a.length ≤ N := Nat.le_max_left _ _
  have hN2 : b.length ≤ N := Nat.le_max_right _ _
  have hNl : N < 100000 := by omega
  rw [List.take_of_length_le hN1, List.take_of_length_le hN2, va, vb] at h5
  have hs := add_step ha hb (by simp only [LM]; omega) (by simp only [LM]; omega) (o := o) (c := c) (i := N) (by simp only [BB]; omega) (by simp only [LM]; omega) h2
  unfold u_ref01_Add
  rw [show ([] : List T) = lmL [] from rfl, h1]
  by_cases hc : c = 0
  · subst hc
    rw [if_neg (by omega)] at hs
    rw [loopU_out hs]
    simp only [obS, onS_l]
    rw [← limbs_top h3 (fun z hz => h6 z hz rfl rfl)]
    rw [show val o = x + y by simpa using h5]
  · rw [if_pos (by omega), at0_out hN1, at0_out hN2] at hs
    have c1 : c = 1 := by omega
    subst c1
    rw [loopU_go hs]
    have hs2 := add_step ha hb (by simp only [LM]; omega) (by simp only [LM]; omega) (o := o ++ [(1 + 0 + 0) % BB]) (c := 0) (i := N + 1) (by decide) (by simp only [LM]; omega) (by rw [List.length_append, h2]; rfl)
    rw [if_neg (by omega)] at hs2
    have e0 : ((1 + 0 + 0) / BB : Nat) = 0 := by decide
    rw [e0, loopU_out hs2]
    simp only [obS, onS_l]
    have e1 : (1 + 0 + 0) % BB = 1 := by decide
    rw [e1]
    have hl : Lim (o ++ [1]) := h3.append (Lim.cons (by decide) Lim.nil)
    rw [← limbs_top hl (fun z hz => by simp at hz; omega)]
    have hv : val (o ++ [1]) = x + y := by
      rw [val_append, h2]
      simp only [val, Nat.mul_zero, Nat.add_zero]
      exact h5
    rw [hv]

/-! differences of limbs (reference) -/
theorem minus_step {a b : List Nat} (ha : Lim a) (hb : Lim b) (hla : a.length < LM) (hlb : b.length < LM) {o : List Nat} {c i : Nat} (hc : c ≤ 1) (hi : i < a.length) (ho : o.length = a.length) (hz : o[i]? = some 0) :
    ∃ c' d, c' ≤ 1 ∧ d < BB ∧ d + (c + at0 b i) = at0 a i + BB * c' ∧
      u_ref01_minus_l0 (lmL a, (lmL b, (lmL o, ((c : Int), ((i : Int), ()))))) = some (.inl (lmL a, (lmL b, (lmL (o.set i d), ((c' : Int), (((i + 1 : Nat) : Int), ())))))) := by
  have xa := at0_lt ha i
  have xb := at0_lt hb i
  have wi : wr .i64 ((i : Int) + 1) = ((i + 1 : Nat) : Int) := by rw [show (i : Int) + 1 = ((i + 1 : Nat) : Int) by omega, wri (by simp only [LM] at *; omega)]
  have w1 : wr .u64 ((at0 a i : Nat) : Int) = ((at0 a i : Nat) : Int) := wr64s (by simp only [BB, B64] at *; omega)
  have w2 : wr .u64 ((at0 b i : Nat) : Int) = ((at0 b i : Nat) : Int) := wr64s (by simp only [BB, B64] at *; omega)
  have w3 : wr .u64 ((c : Int) + ((at0 b i : Nat) : Int)) = ((c + at0 b i : Nat) : Int) := by rw [show (c : Int) + ((at0 b i : Nat) : Int) = ((c + at0 b i : Nat) : Int) by omega, wr64s (by simp only [BB, B64] at *; omega)]
  have w4 : wr .u64 (((at0 a i : Nat) : Int) + 4294967296) = ((at0 a i + BB : Nat) : Int) := by rw [show ((at0 a i : Nat) : Int) + 4294967296 = ((at0 a i + BB : Nat) : Int) by simp only [BB]; omega, wr64s (by simp only [BB, B64] at *; omega)]
  -- what is taken away
  have first : ∀ (R : Type) (k : (List T × List T × List T × Int × Int × Unit) → Option R), (ob (α := ((List T × List T × List T × Int × Int × Unit) ⊕ Empty)) (bif decide ((i : Int) < (b.length : Int)) then (ob ((b[i]?).map limT) fun x2 => (ob (T.anyInt? (T.cell x2 0)) fun x3 => (some (Sum.inl (lmL a, (lmL b, (lmL o, ((i : Int), ((wr .u64 ((c : Int) + (wr .u64 x3))), ()))))))))) else (some (Sum.inl (lmL a, (lmL b, (lmL o, ((i : Int), ((c : Int), ()))))))))
      fun q4 => onS q4 k fun q13 => noS q13) = k (lmL a, (lmL b, (lmL o, ((i : Int), (((c + at0 b i : Nat) : Int), ()))))) := fun R k => by
    by_cases h2 : i < b.length
    · rw [decide_eq_true (by omega)]
      simp only [cond_true, at0_get h2, Option.map_some, obS, limT_cell, limT_any, w2, w3, onS_l]
    · rw [decide_eq_false (by omega), at0_out (show b.length ≤ i by omega)]
      rfl
  have e : u_ref01_minus_l0 (lmL a, (lmL b, (lmL o, ((c : Int), ((i : Int), ()))))) = if at0 a i < c + at0 b i then some (.inl (lmL a, (lmL b, (lmL (o.set i (at0 a i + BB - (c + at0 b i))), ((1 : Int), (((i + 1 : Nat) : Int), ()))))))
      else some (.inl (lmL a, (lmL b, (lmL (o.set i (at0 a i - (c + at0 b i))), ((0 : Int), (((i + 1 : Nat) : Int), ())))))) := by
    unfold u_ref01_minus_l0
    simp only [ltI_eq, lenL_eq, lmL_len, addI_eq, subI_eq]
    rw [decide_eq_true (show (i : Int) < (a.length : Int) by omega)]
    simp only [cond_true, idxL_nat, lmL_get]
    rw [first]
    simp only [idxL_nat, lmL_get, at0_get hi, Option.map_some, obS, limT_cell, limT_any, w1]
    by_cases h3 : at0 a i < c + at0 b i
    · rw [if_pos h3, decide_eq_true (by omega)]
      simp only [cond_true, obS, onS_l, w4, lmL_len]
      rw [chkI_nat (by omega), show ((at0 a i + BB : Nat) : Int) - ((c + at0 b i : Nat) : Int) = ((at0 a i + BB - (c + at0 b i) : Nat) : Int) by simp only [BB] at *; omega, wr64s (by simp only [BB, B64] at *; omega), wr32s (by simp only [BB] at *; omega)]
      simp only [obS, idxN_eq, lmL_get, hz, Option.map_some, wi]
      rw [limT_upd _ _ ⟨0, rfl⟩, lmL_set]
    · rw [if_neg h3, decide_eq_false (by omega)]
      simp only [cond_false, obS, onS_l, lmL_len]
      rw [chkI_nat (by omega), show ((at0 a i : Nat) : Int) - ((c + at0 b i : Nat) : Int) = ((at0 a i - (c + at0 b i) : Nat) : Int) by omega, wr64s (by simp only [BB, B64] at *; omega), wr32s (by simp only [BB] at *; omega)]
      simp only [obS, idxN_eq, lmL_get, hz, Option.map_some, wi]
      rw [limT_upd _ _ ⟨0, rfl⟩, lmL_set]
  by_cases h3 : at0 a i < c + at0 b i
  · rw [if_pos h3] at e
    exact ⟨1, at0 a i + BB - (c + at0 b i), by omega, by simp only [BB] at *; omega, by simp only [BB] at *; omega, e⟩
  · rw [if_neg h3] at e
    exact ⟨0, at0 a i - (c + at0 b i), by omega, by simp only [BB] at *; omega, by omega, e⟩
theorem r_minus {x y : Nat} (hx : (limbs x).length < LM) (hxy : y ≤ x) : u_ref01_minus (lm x, (lm y, ())) = some (lm (x - y), ()) := by
  have ha := lim_limbs x
  have hb := lim_limbs y
  have va := val_limbs x
  have vb := val_limbs y
  have hll : (limbs y).length ≤ (limbs x).length := limbs_len.2 (Nat.lt_of_le_of_lt hxy (limbs_len.1 (Nat.le_refl _)))
  unfold lm
  have fin : ∀ d, lmL (limbs d) = lm d := fun _ => rfl
  rw [fin (x - y)]
  generalize limbs x = a at *
  generalize limbs y = b at *
  have key : ∀ i, i ≤ a.length → ∃ (o : List Nat) (c : Nat), loopU u_ref01_minus_l0 (lmL a, (lmL b, (lmL (List.replicate a.length 0), ((0 : Int), ((0 : Int), ()))))) = loopU u_ref01_minus_l0 (lmL a, (lmL b, (lmL o, ((c : Int), ((i : Int), ()))))) ∧
      o.length = a.length ∧ Lim o ∧ c ≤ 1 ∧ val o + val (b.take i) = val (a.take i) + BB ^ i * c ∧ ∀ m, i ≤ m → m < a.length → o[m]? = some 0 := by
    intro i
    induction i with
    | zero =>
      intro _
      refine ⟨_, 0, rfl, by simp, Lim.rep _, by decide, by simp [val, val_rep], fun m _ hm => ?_⟩
      rw [List.getElem?_replicate, if_pos hm]
    | succ i ih =>
      intro hi
      obtain ⟨o, c, h1, h2, h3, h4, h5, h6⟩ := ih (by omega)
      have hz := h6 i (Nat.le_refl _) hi
      obtain ⟨c', d, g1, g2, g3, g4⟩ := minus_step ha hb hx (by omega) h4 hi h2 hz
      refine ⟨_, c', h1.trans (loopU_go g4), by rw [List.length_set, h2], h3.set g2 _, g1, ?_, fun m hm hlt => ?_⟩
      · have hv := val_set (x := d) hz
        rw [val_take0, val_take0]
        have e1 : BB ^ (i + 1) * c' = BB ^ i * (BB * c') := by rw [Nat.pow_succ, Nat.mul_assoc]
        have e2 : BB ^ i * (d + (c + at0 b i)) = BB ^ i * (at0 a i + BB * c') := by rw [g3]
        rw [e1]
        rw [Nat.mul_add, Nat.mul_add, Nat.mul_add] at e2
        omega
      · rw [List.getElem?_set_ne (by omega)]
        exact h6 m (by omega) hlt
  obtain ⟨o, c, h1, h2, h3, h4, h5, _⟩ := key a.length (Nat.le_refl _)
  rw [List.take_length, List.take_of_length_le hll, va, vb] at h5
  have hvo := val_lt h3
  rw [h2] at hvo
  have hval : val o = x - y := by
    have : c = 0 ∨ c = 1 := by omega
    rcases this with rfl | rfl
    · simp at h5; omega
    · simp at h5; omega
  unfold u_ref01_minus
  simp only [lenL_eq, lmL_len]
  rw [mkLen_ok (by omega) (by omega) (by simp only [LM] at hx; omega) (by decide)]
  simp only [obS, Int.toNat_natCast, repL_eq, rep_lmL]
  rw [h1, loopU_out (e := .inl (lmL o, ())) (by
    unfold u_ref01_minus_l0
    simp only [ltI_eq, lenL_eq, lmL_len]
    rw [decide_eq_false (by omega)]; rfl)]
  simp only [obS, onS_l]
  rw [r_Trim h3 (by omega), hval]
  rfl
theorem r_Sub {x y : Nat} (hx : (limbs x).length < LM) (hxy : y ≤ x) : u_ref01_Sub (lm x, (lm y, ())) = some (lm (x - y), (0, ())) := by
  have hll : (limbs y).length ≤ (limbs x).length := limbs_len.2 (Nat.lt_of_le_of_lt hxy (limbs_len.1 (Nat.le_refl _)))
  unfold u_ref01_Sub
  rw [r_Cmp hx (by omega)]
  simp only [obS, ltI_eq]
  rw [decide_eq_false (by unfold cmpN; rw [if_neg (by omega)]; split <;> omega)]
  simp only [cond_false, r_minus hx hxy, obS]

/-! rational numbers (reference) -/
theorem r_Den (q : Rat) : u_ref02_Den (rNeg q, (rNum q, (rDen q, ()))) = some (lm q.den, ()) := by
  unfold u_ref02_Den rDen dn
  simp only [lenL_eq, eqI_eq]
  by_cases h : q.den = 1
  · rw [if_pos h, h, lm_one (by decide) (by decide)]
    rfl
  · rw [if_neg h, decide_eq_false (fun hh => q.den_nz (lm_len0.1 (by omega)))]
    rfl
theorem lm_small' {n : Nat} (h : n < B64) : (limbs n).length ≤ 2 := limbs_len.2 h
theorem r_Mul64 {x y : Nat} (hx : x < B64) (hy : y < B64) : u_ref01_Mul (lm x, (lm y, ())) = some (lm (x * y), ()) :=
  r_Mul (by have h1 := lm_small' hx; have h2 := lm_small' hy; simp only [LM]; omega)
abbrev B31 : Nat := 2147483648
theorem sm_b {q : Rat} (h : Sm q) : q.num.natAbs < B64 ∧ q.den < B64 := by
  obtain ⟨h1, h2⟩ := h; simp only [B64]; omega
theorem rNum_len0 {q : Rat} : ((rNum q).length : Int) = 0 ↔ q = 0 := by
  rw [← rNum_len]; omega
theorem zero_sizes {q : Rat} (h : q = 0) : q.num.natAbs = 0 := num_zero.2 h
theorem r_QAdd {p q : Rat} (hp : Sm p) (hq : Sm q) : u_ref02_Add (rNeg p, (rNum p, (rDen p, (rNeg q, (rNum q, (rDen q, ())))))) = some (rNeg (p + q), (rNum (p + q), (rDen (p + q), ()))) := by
  obtain ⟨p1, p2⟩ := sm_b hp
  obtain ⟨q1, q2⟩ := sm_b hq
  have bp := hp.1; have bq := hq.1; have bpd := hp.2; have bqd := hq.2
  have m1 : p.num.natAbs * q.den < 2147483648 * 2147483648 := Nat.mul_lt_mul'' bp bqd
  have m2 : q.num.natAbs * p.den < 2147483648 * 2147483648 := Nat.mul_lt_mul'' bq bpd
  have m3 : p.den * q.den < 2147483648 * 2147483648 := Nat.mul_lt_mul'' bpd bqd
  have d0 : p.den * q.den ≠ 0 := Nat.mul_ne_zero p.den_nz q.den_nz
  unfold u_ref02_Add
  simp only [lenL_eq, eqI_eq]
  by_cases hp0 : p = 0
  · rw [decide_eq_true (rNum_len0.2 hp0)]
    rw [hp0, Rat.zero_add]
    rfl
  rw [decide_eq_false (fun h => hp0 (rNum_len0.1 h))]
  by_cases hq0 : q = 0
  · rw [decide_eq_true (rNum_len0.2 hq0)]
    rw [hq0, Rat.add_zero]
    rfl
  rw [decide_eq_false (fun h => hq0 (rNum_len0.1 h))]
  have e1 : u_ref01_Mul (rNum p, (lm q.den, ())) = some (lm (p.num.natAbs * q.den), ()) := r_Mul64 p1 q2
  have e2 : u_ref01_Mul (rNum q, (lm p.den, ())) = some (lm (q.num.natAbs * p.den), ()) := r_Mul64 q1 p2
  simp only [cond_false, r_Den, obS, e1, e2, r_Mul64 p2 q2, eqB_eq]
  have l1 := lm_small' (n := p.num.natAbs * q.den) (by simp only [B64]; omega)
  have l2 := lm_small' (n := q.num.natAbs * p.den) (by simp only [B64]; omega)
  by_cases hn : rNeg p = rNeg q
  · rw [show (rNeg p == rNeg q) = true by simpa using hn]
    simp only [cond_true]
    rw [r_Add (by omega) (by omega)]
    simp only [obS]
    rw [r_reduce _ (by simp only [B64]; omega) (by simp only [B64]; omega) d0]
    simp only [obS]
    rw [hn, ← add_same hn]
  · rw [show (rNeg p == rNeg q) = false by simpa using hn]
    simp only [cond_false]
    rw [r_Cmp (by simp only [LM]; omega) (by simp only [LM]; omega)]
    simp only [obS, ltI_eq]
    by_cases hlt : p.num.natAbs * q.den < q.num.natAbs * p.den
    · rw [decide_eq_true (by unfold cmpN; rw [if_pos hlt]; omega)]
      simp only [cond_true]
      rw [r_Sub (by simp only [LM]; omega) (by omega)]
      simp only [obS]
      rw [r_reduce _ (by simp only [B64]; omega) (by simp only [B64]; omega) d0]
      simp only [obS]
      have := add_diff (p := q) (q := p) (Ne.symm hn) (by omega)
      rw [Rat.add_comm, this, Nat.mul_comm p.den]
    · rw [decide_eq_false (by unfold cmpN; rw [if_neg hlt]; split <;> omega)]
      simp only [cond_false]
      rw [r_Sub (by simp only [LM]; omega) (by omega)]
      simp only [obS]
      rw [r_reduce _ (by simp only [B64]; omega) (by simp only [B64]; omega) d0]
      simp only [obS]
      rw [← add_diff hn (by omega)]
theorem Sm.neg {q : Rat} (h : Sm q) : Sm (-q) := by
  unfold Sm at *
  rw [Rat.neg_num, Int.natAbs_neg, Rat.neg_den]
  exact h
def maxQ (p q : Rat) : Rat := if 0 < cmpQ q p then q else p
theorem r_Int {n : Int} (h1 : -4611686018427387904 < n) (h2 : n < 4611686018427387904) : u_ref02_Int (n, ()) = some (rNeg (n : Rat), (rNum (n : Rat), (rDen (n : Rat), ()))) := by
  unfold u_ref02_Int
  simp only [r_size h1 h2, obS]
  rfl

/-! rational numbers (program) -/
theorem p_Sub {p q : Rat} (hp : Sm p) (hq : Sm q) : u_rational_Sub (rNeg p, (rNum p, (rDen p, (rNeg q, (rNum q, (rDen q, ())))))) = some (rNeg (p - q), (rNum (p - q), (rDen (p - q), ()))) := by
  unfold u_rational_Sub
  simp only [p_add hp hq, obS]
  have e : sg (!rNeg q) (q.num.natAbs * p.den) = (-q).num * ((p.den : Nat) : Int) := by
    have key : ∀ (b : Bool) (n : Nat), sg (!b) n = -(sg b n) := fun b n => by cases b <;> simp [sg]
    rw [← sgn_mul, Rat.neg_num, key, sg_num]
  rw [e, ← sgn_mul, sg_num, Rat.sub_eq_add_neg, add_mk, Rat.neg_den]
theorem p_Mul {p q : Rat} (hp : Sm p) (hq : Sm q) : u_rational_Mul (rNeg p, (rNum p, (rDen p, (rNeg q, (rNum q, (rDen q, ())))))) = some (rNeg (p * q), (rNum (p * q), (rDen (p * q), ()))) := by
  have bp := hp.1; have bq := hq.1; have bpd := hp.2; have bqd := hq.2
  have m1 : p.num.natAbs * q.num.natAbs < 2147483648 * 2147483648 := Nat.mul_lt_mul'' bp bq
  have m3 : p.den * q.den < 2147483648 * 2147483648 := Nat.mul_lt_mul'' bpd bqd
  unfold u_rational_Mul
  simp only [lenL_eq, eqI_eq]
  by_cases hp0 : p = 0
  · rw [decide_eq_true (rNum_len0.2 hp0)]
    rw [hp0, Rat.zero_mul, rNeg_zero, rNum_zero, rDen_zero]
    rfl
  rw [decide_eq_false (fun h => hp0 (rNum_len0.1 h))]
  by_cases hq0 : q = 0
  · rw [decide_eq_true (rNum_len0.2 hq0)]
    rw [hq0, Rat.mul_zero, rNeg_zero, rNum_zero, rDen_zero]
    rfl
  rw [decide_eq_false (fun h => hq0 (rNum_len0.1 h))]
  simp only [cond_false, p_parts hp.s1, p_parts hq.s1, obS, cond_true, mulI_eq, eqB_eq, bneq]
  rw [show ((p.num.natAbs : Nat) : Int) * ((q.num.natAbs : Nat) : Int) = ((p.num.natAbs * q.num.natAbs : Nat) : Int) from (Int.natCast_mul _ _).symm, show ((p.den : Nat) : Int) * (q.den : Int) = ((p.den * q.den : Nat) : Int) from (Int.natCast_mul _ _).symm,
    wr64s (n := p.num.natAbs * q.num.natAbs) (by simp only [B64]; omega), wr64s (n := p.den * q.den) (by simp only [B64]; omega), p_short _ (by simp only [B64]; omega) (by simp only [B64]; omega) (Nat.mul_ne_zero p.den_nz q.den_nz), ← mul_sg]
  rfl
theorem p_copied {q : Rat} (h : Fit q) : u_rational_copied (rNeg q, (rNum q, (rDen q, ()))) = some (rNeg q, (rNum q, (rDen q, ()))) := by
  unfold u_rational_copied
  simp only [p_Clone (fit_num h), p_Clone (fit_den h), obS]
theorem p_Max {p q : Rat} (hp : Sm p) (hq : Sm q) : u_rational_Max (rNeg p, (rNum p, (rDen p, (rNeg q, (rNum q, (rDen q, ())))))) = some (rNeg (maxQ p q), (rNum (maxQ p q), (rDen (maxQ p q), ()))) := by
  unfold u_rational_Max maxQ
  simp only [p_Cmp hq hp, obS, ltI_eq]
  by_cases h : 0 < cmpQ q p
  · rw [if_pos h, decide_eq_true h]
    simp only [cond_true, obS, onS_l, p_copied hq.fit]
  · rw [if_neg h, decide_eq_false h]
    simp only [cond_false, obS, onS_l, p_copied hp.fit]
end Go.Eng.Rt

/- What the dice give. -/
namespace Go.Eng
theorem tmod_lo (a : Int) {b : Int} (h : 0 < b) : -b < a.tmod b := by
  rcases Int.lt_or_le a 0 with ha | ha
  · have h1 : (-(-a)).tmod b = -((-a).tmod b) := Int.neg_tmod (-a) b
    rw [Int.neg_neg] at h1
    have h2 : (-a).tmod b < b := by rw [Int.tmod_eq_emod_of_nonneg (by omega)]; exact Int.emod_lt_of_pos _ h
    omega
  · have : 0 ≤ a.tmod b := by rw [Int.tmod_eq_emod_of_nonneg ha]; exact Int.emod_nonneg _ (by omega)
    omega
theorem tmod_hi (a : Int) {b : Int} (h : 0 < b) : a.tmod b < b := by
  rcases Int.lt_or_le a 0 with ha | ha
  · have h1 : (-(-a)).tmod b = -((-a).tmod b) := Int.neg_tmod (-a) b
    rw [Int.neg_neg] at h1
    have h2 : 0 ≤ (-a).tmod b := by rw [Int.tmod_eq_emod_of_nonneg (by omega)]; exact Int.emod_nonneg _ (by omega)
    omega
  · rw [Int.tmod_eq_emod_of_nonneg ha]; exact Int.emod_lt_of_pos _ h
def modV (a n : Int) : Int := if a.tmod n < 0 then a.tmod n + n else a.tmod n
theorem modV_lo (a : Int) {n : Int} (h : 0 < n) : 0 ≤ modV a n := by
  unfold modV
  have := tmod_lo a h
  split <;> omega
theorem modV_hi (a : Int) {n : Int} (h : 0 < n) : modV a n < n := by
  unfold modV
  have := tmod_hi a h
  split <;> omega
theorem s_Mod (a : Int) {n : Int} (h1 : 0 < n) (h2 : n ≤ 4611686018427387904) : u_brepkernelmade_Mod (a, (n, ())) = some (modV a n, ()) := by
  unfold u_brepkernelmade_Mod modV
  have := tmod_lo a h1
  have := tmod_hi a h1
  rw [nz_eq (show n ≠ 0 by omega)]
  simp only [obS, modI_eq, ltI_eq, addI_eq]
  by_cases h : a.tmod n < 0
  · rw [decide_eq_true h, if_pos h, wr64 (by omega) (by omega)]; rfl
  · rw [decide_eq_false h, if_neg h]; rfl

def intT (z : Int) : T := .v (.int .i64 z)
/-- The dice: numbers, and a place among them. -/
def DiceOK (L : List T) (a : Int) : Prop := ∃ zs : List Int, L = zs.map intT ∧ zs.length ≤ 1000000 ∧ 0 ≤ a ∧ a ≤ zs.length
theorem s_Next {L : List T} {a : Int} (h : DiceOK L a) {n : Int} (h1 : 0 < n) (h2 : n ≤ 4611686018427387904) :
    ∃ v a', u___brepkernelmade_Dice__Next ((), (n, (L, (a, ())))) = some (v, (L, (a', ()))) ∧ 0 ≤ v ∧ v < n ∧ DiceOK L a' := by
  obtain ⟨zs, rfl, hz, ha0, ha1⟩ := h
  unfold u___brepkernelmade_Dice__Next
  simp only [leI_eq, lenL_eq, List.length_map, addI_eq, subI_eq]
  by_cases hc : (zs.length : Int) ≤ a
  · rw [decide_eq_true hc]
    exact ⟨0, a, rfl, Int.le_refl _, h1, zs, rfl, hz, ha0, ha1⟩
  · rw [decide_eq_false hc]
    obtain ⟨i, rfl⟩ := Int.eq_ofNat_of_zero_le ha0
    have hi : i < zs.length := by omega
    rw [wr64 (n := (i : Int) + 1) (by omega) (by omega), wr64 (n := (i : Int) + 1 - 1) (by omega) (by omega), Int.add_sub_cancel, idxL_nat, List.getElem?_map, List.getElem?_eq_getElem hi]
    simp only [cond_false, Option.map_some, obS, intT, T_cell_v, T_int, s_Mod _ h1 h2]
    exact ⟨_, _, rfl, modV_lo _ h1, modV_hi _ h1, zs, rfl, hz, by omega, by omega⟩
theorem s_Light (L : List T) : u_brepkernelmade_Light (L, ()) = some (decide (L.length ≤ 500), ()) := by
  unfold u_brepkernelmade_Light
  simp only [leI_eq, lenL_eq]
  congr 2
  rw [Bool.eq_iff_iff]; simp; omega
theorem s_Roll (L : List T) : u_brepkernelmade_Roll (L, ()) = some (L, (0, ())) := rfl
end Go.Eng
