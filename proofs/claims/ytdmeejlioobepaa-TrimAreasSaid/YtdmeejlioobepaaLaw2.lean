/- The functions and the laws of this seat in plain words; each statement names its conditions. -/
import Derived.Test.YtdmeejlioobepaaLaw
import Derived.Test.YtdmeejlioobepaaGen2
import Derived.Test.YtdmeejlioobepaaGen3
set_option linter.unusedSimpArgs false
set_option linter.unusedVariables false

/- Twice the area of a loop of points with whole coordinates: its rotations, its reverse, its cuts by a chord. Plain. -/
namespace Go.Eng.Tm

def crs (p q : Int × Int) : Int := p.1 * q.2 - q.1 * p.2
def path : List (Int × Int) → Int
  | a :: b :: l => crs a b + path (b :: l)
  | _ => 0
def area : List (Int × Int) → Int
  | [] => 0
  | p :: l => path (p :: l ++ [p])
theorem crs_anti (p q : Int × Int) : crs p q = -crs q p := by unfold crs; omega
theorem crs_self (p : Int × Int) : crs p p = 0 := by unfold crs; omega
theorem path_mid : ∀ (u : List (Int × Int)) (a : Int × Int) (v : List (Int × Int)), path (u ++ a :: v) = path (u ++ [a]) + path (a :: v)
  | [], a, v => by simp [path]
  | [x], a, v => by simp [path]
  | x :: y :: u, a, v => by
    have h := path_mid (y :: u) a v
    simp only [List.cons_append, path] at h ⊢
    omega
theorem path_snoc (l : List (Int × Int)) (a b : Int × Int) : path (l ++ [a, b]) = path (l ++ [a]) + crs a b := by
  rw [path_mid l a [b]]
  simp [path]
theorem path_rev : ∀ l : List (Int × Int), path l.reverse = -path l
  | [] => rfl
  | [a] => rfl
  | a :: b :: l => by
    have h := path_rev (b :: l)
    simp only [List.reverse_cons, List.append_assoc, List.cons_append, List.nil_append] at h ⊢
    rw [path_snoc, h]
    simp only [path]
    have := crs_anti a b
    omega
theorem area_rot (u v : List (Int × Int)) : area (v ++ u) = area (u ++ v) := by
  cases u with
  | nil => simp
  | cons p u =>
    cases v with
    | nil => simp
    | cons q v =>
      show path (q :: (v ++ p :: u) ++ [q]) = path (p :: (u ++ q :: v) ++ [p])
      have e1 : q :: (v ++ p :: u) ++ [q] = (q :: v) ++ p :: (u ++ [q]) := by simp
      have e2 : p :: (u ++ q :: v) ++ [p] = (p :: u) ++ q :: (v ++ [p]) := by simp
      rw [e1, e2, path_mid (q :: v) p, path_mid (p :: u) q]
      simp only [List.cons_append]
      omega
theorem area_rev (l : List (Int × Int)) : area l.reverse = -area l := by
  cases l with
  | nil => rfl
  | cons p l =>
    rw [List.reverse_cons, area_rot]
    show path (p :: l.reverse ++ [p]) = -path (p :: l ++ [p])
    have e : p :: l.reverse ++ [p] = (p :: l ++ [p]).reverse := by simp
    rw [e, path_rev]
theorem area_chord (u w v : List (Int × Int)) (a b : Int × Int) : area (a :: w ++ [b]) + area (u ++ a :: b :: v) = area (u ++ a :: w ++ b :: v) := by
  have e1 : area (a :: w ++ [b]) = path (a :: w ++ [b]) + crs b a := by
    show path (a :: (w ++ [b]) ++ [a]) = _
    have : a :: (w ++ [b]) ++ [a] = (a :: w) ++ [b, a] := by simp
    rw [this, path_snoc]
  have r1 : area (u ++ a :: b :: v) = area (a :: b :: v ++ u) := (area_rot u (a :: b :: v)).symm
  have r2 : area (u ++ a :: w ++ b :: v) = area (a :: w ++ b :: v ++ u) := by
    rw [List.append_assoc u, ← area_rot u]
  rw [e1, r1, r2]
  have e2 : area (a :: b :: v ++ u) = crs a b + path (b :: (v ++ u) ++ [a]) := by
    show path (a :: (b :: v ++ u) ++ [a]) = _
    simp only [List.cons_append, path]
  have e3 : area (a :: w ++ b :: v ++ u) = path (a :: w ++ [b]) + path (b :: (v ++ u) ++ [a]) := by
    show path (a :: (w ++ b :: v ++ u) ++ [a]) = _
    have : a :: (w ++ b :: v ++ u) ++ [a] = (a :: w) ++ b :: (v ++ u ++ [a]) := by simp
    rw [this, path_mid]
    simp
  rw [e2, e3]
  have := crs_anti a b
  omega
theorem area_same (u v : List (Int × Int)) (a : Int × Int) : area [a] + area (u ++ a :: a :: v) = area (u ++ a :: v) := by
  have e1 : area [a] = 0 := by
    show path [a, a] = 0
    simp [path, crs_self]
  have r1 : area (u ++ a :: a :: v) = area (a :: a :: v ++ u) := (area_rot u (a :: a :: v)).symm
  have r2 : area (u ++ a :: v) = area (a :: v ++ u) := (area_rot u (a :: v)).symm
  rw [e1, r1, r2]
  show 0 + path (a :: (a :: v ++ u) ++ [a]) = path (a :: (v ++ u) ++ [a])
  simp [path, crs_self]
/-- The cut of a loop by a chord from k to m. -/
theorem area_cut {x : List (Int × Int)} {k m : Nat} (h1 : k ≤ m) (h2 : m < x.length) : area ((x.take (m + 1)).drop k) + area (x.take (k + 1) ++ x.drop m) = area x := by
  obtain ⟨a, ha⟩ : ∃ a, x[k]? = some a := ⟨x[k], List.getElem?_eq_getElem (by omega)⟩
  obtain ⟨b, hb⟩ : ∃ b, x[m]? = some b := ⟨x[m], List.getElem?_eq_getElem h2⟩
  have hk : x.drop k = a :: x.drop (k + 1) := by
    rw [List.drop_eq_getElem_cons (by omega)]
    rw [List.getElem?_eq_getElem (by omega)] at ha
    rw [Option.some.inj ha]
  have hm : x.drop m = b :: x.drop (m + 1) := by
    rw [List.drop_eq_getElem_cons h2]
    rw [List.getElem?_eq_getElem h2] at hb
    rw [Option.some.inj hb]
  have tk : x.take (k + 1) = x.take k ++ [a] := by rw [List.take_add_one, ha]; rfl
  have tm : x.take (m + 1) = x.take m ++ [b] := by rw [List.take_add_one, hb]; rfl
  rcases Nat.lt_or_ge k m with hl | hl
  · have hw : (x.take m).drop k = a :: (x.take m).drop (k + 1) := by
      rw [List.drop_eq_getElem_cons (by simp; omega)]
      have : (x.take m)[k]? = some a := by rw [List.getElem?_take, if_pos hl]; exact ha
      rw [List.getElem?_eq_getElem (by simp; omega)] at this
      rw [Option.some.inj this]
    have e1 : (x.take (m + 1)).drop k = a :: (x.take m).drop (k + 1) ++ [b] := by
      rw [tm, List.drop_append_of_le_length (by simp; omega), hw]
    have e2 : x.take (k + 1) ++ x.drop m = x.take k ++ a :: b :: x.drop (m + 1) := by rw [tk, hm]; simp
    have e3 : x = x.take k ++ a :: (x.take m).drop (k + 1) ++ b :: x.drop (m + 1) := by
      rw [← hw, ← hm]
      have : x.take k ++ (x.take m).drop k = x.take m := by
        have h := List.take_append_drop k (x.take m)
        rwa [List.take_take, Nat.min_eq_left h1] at h
      rw [this, List.take_append_drop]
    rw [e1, e2, area_chord, ← e3]
  · have : k = m := by omega
    subst this
    have e1 : (x.take (k + 1)).drop k = [a] := by
      rw [tk, List.drop_append_of_le_length (by simp; omega)]
      simp
    have e2 : x.take (k + 1) ++ x.drop k = x.take k ++ a :: a :: x.drop (k + 1) := by rw [tk, hk]; simp
    have e3 : x = x.take k ++ a :: x.drop (k + 1) := by rw [← hk, List.take_append_drop]
    rw [e1, e2, area_same, ← e3]
/-! the sum by places -/
def at' (l : List (Int × Int)) (i : Nat) : Int × Int := l.getD i (0, 0)
def psum (l : List (Int × Int)) : Nat → Int
  | 0 => 0
  | i + 1 => psum l i + crs (at' l i) (at' l ((i + 1) % l.length))
theorem psum_path {l : List (Int × Int)} : ∀ {i : Nat}, i < l.length → psum l i = path (l.take (i + 1))
  | 0, h => by
    cases l with
    | nil => simp at h
    | cons a l => simp [psum, path]
  | i + 1, h => by
    have ih := psum_path (l := l) (i := i) (by omega)
    simp only [psum]
    rw [ih, Nat.mod_eq_of_lt h]
    have ha : l[i]? = some (at' l i) := by unfold at'; rw [List.getD_eq_getElem?_getD, List.getElem?_eq_getElem (by omega)]; rfl
    have hb : l[i + 1]? = some (at' l (i + 1)) := by unfold at'; rw [List.getD_eq_getElem?_getD, List.getElem?_eq_getElem h]; rfl
    rw [List.take_add_one (i := i + 1), hb, List.take_add_one (i := i), ha]
    simp only [Option.toList_some, List.append_assoc, List.cons_append, List.nil_append]
    rw [path_snoc]
theorem psum_area (l : List (Int × Int)) : psum l l.length = area l := by
  cases l with
  | nil => rfl
  | cons p l =>
    have h := psum_path (l := p :: l) (i := l.length) (by simp)
    have e : psum (p :: l) (p :: l).length = psum (p :: l) l.length + crs (at' (p :: l) l.length) (at' (p :: l) ((l.length + 1) % (l.length + 1))) := rfl
    rw [e, h, Nat.mod_self]
    have ht : (p :: l).take (l.length + 1) = p :: l := List.take_of_length_le (by simp)
    rw [ht]
    show path (p :: l) + crs (at' (p :: l) l.length) p = path (p :: l ++ [p])
    have hlast : p :: l = (p :: l).dropLast ++ [at' (p :: l) l.length] := by
      have h1 := List.dropLast_concat_getLast (l := p :: l) (by simp)
      have h2 : (p :: l).getLast (by simp) = at' (p :: l) l.length := by
        unfold at'
        rw [List.getD_eq_getElem?_getD, List.getLast_eq_getElem]
        simp
      rw [h2] at h1
      exact h1.symm
    generalize at' (p :: l) l.length = z at *
    have e2 : p :: l ++ [p] = (p :: l).dropLast ++ [z, p] := by
      conv => lhs; rw [hlast]
      simp
    rw [e2, path_snoc, ← hlast]
end Go.Eng.Tm

/- trim.Area on loops of points with whole coordinates. -/
namespace Go.Eng.Rt
open Go.Eng Go.Eng.Tm

def wT (p : Int × Int) : T := .agg [.v (.bool (rNeg (p.1 : Rat))), .sl 1 (rNum (p.1 : Rat)), .sl 1 (rDen (p.1 : Rat)), .v (.bool (rNeg (p.2 : Rat))), .sl 1 (rNum (p.2 : Rat)), .sl 1 (rDen (p.2 : Rat)), .v (.bool false), .sl 1 [], .sl 1 []]
def SmW (p : Int × Int) : Prop := p.1.natAbs < 100 ∧ p.2.natAbs < 100
theorem sm_int {n : Int} (h : n.natAbs < 2147483648) : Sm (n : Rat) := ⟨by rw [Rat.num_intCast]; exact h, by rw [Rat.den_intCast]; decide⟩
theorem p_edge {l : List (Int × Int)} (hl : l.length < 1000000) {i : Nat} (hi : i < l.length) {p q : Int × Int} (hp : l[i]? = some p) (hq : l[(i + 1) % l.length]? = some q) :
    u_trim_edge (l.map wT, ((i : Int), ())) = some (rNeg (p.1 : Rat), (rNum (p.1 : Rat), (rDen (p.1 : Rat), (rNeg (p.2 : Rat), (rNum (p.2 : Rat), (rDen (p.2 : Rat), (false, ([], ([], (rNeg (q.1 : Rat), (rNum (q.1 : Rat), (rDen (q.1 : Rat), (rNeg (q.2 : Rat), (rNum (q.2 : Rat), (rDen (q.2 : Rat), (false, ([], ([], ())))))))))))))))))) := by
  have wi : wr .i64 ((i : Int) + 1) = ((i + 1 : Nat) : Int) := by rw [wri' (by omega) (by omega)]; push_cast; rfl
  have hgp : (l.map wT)[i]? = some (wT p) := by simp [hp]
  have hgq : (l.map wT)[(i + 1) % l.length]? = some (wT q) := by simp [hq]
  have hpl : ((l.map wT).length : Int) = (l.length : Int) := by rw [List.length_map]
  have hnz : nz (l.length : Int) = some (l.length : Int) := by unfold nz; rw [if_neg (by omega)]
  have hmod : ((i + 1 : Nat) : Int).tmod (l.length : Int) = (((i + 1) % l.length : Nat) : Int) := rfl
  have cs : ∀ p, T.bool? (T.cell (wT p) 0) = some (rNeg (p.1 : Rat)) ∧ T.sl? 1 (T.cell (wT p) 1) = some (rNum (p.1 : Rat)) ∧ T.sl? 1 (T.cell (wT p) 2) = some (rDen (p.1 : Rat)) ∧
      T.bool? (T.cell (wT p) 3) = some (rNeg (p.2 : Rat)) ∧ T.sl? 1 (T.cell (wT p) 4) = some (rNum (p.2 : Rat)) ∧ T.sl? 1 (T.cell (wT p) 5) = some (rDen (p.2 : Rat)) ∧
      T.bool? (T.cell (wT p) 6) = some false ∧ T.sl? 1 (T.cell (wT p) 7) = some [] ∧ T.sl? 1 (T.cell (wT p) 8) = some [] := fun p => ⟨rfl, T_sl _ _, T_sl _ _, rfl, T_sl _ _, T_sl _ _, rfl, T_sl _ _, T_sl _ _⟩
  obtain ⟨a0, a1, a2, a3, a4, a5, a6, a7, a8⟩ := cs p
  obtain ⟨b0, b1, b2, b3, b4, b5, b6, b7, b8⟩ := cs q
  unfold u_trim_edge
  simp only [lenL_eq, hpl, hnz, addI_eq, wi, modI_eq, hmod, idxL_nat, hgp, hgq, obS, a0, a1, a2, a3, a4, a5, a6, a7, a8, b0, b1, b2, b3, b4, b5, b6, b7, b8]
theorem crs_small {p q : Int × Int} (hp : SmW p) (hq : SmW q) : (crs p q).natAbs ≤ 20000 := by
  have h1 : (p.1 * q.2).natAbs ≤ 10000 := by
    rw [Int.natAbs_mul]
    exact Nat.mul_le_mul (show _ ≤ 100 from Nat.le_of_lt hp.1) (show _ ≤ 100 from Nat.le_of_lt hq.2)
  have h2 : (q.1 * p.2).natAbs ≤ 10000 := by
    rw [Int.natAbs_mul]
    exact Nat.mul_le_mul (show _ ≤ 100 from Nat.le_of_lt hq.1) (show _ ≤ 100 from Nat.le_of_lt hp.2)
  unfold crs
  omega
theorem at_mem {l : List (Int × Int)} {i : Nat} (h : i < l.length) : l[i]? = some (at' l i) ∧ at' l i ∈ l := by
  have e : l[i]? = some (at' l i) := by unfold at'; rw [List.getD_eq_getElem?_getD, List.getElem?_eq_getElem h]; rfl
  exact ⟨e, List.mem_of_getElem? e⟩
theorem psum_small {l : List (Int × Int)} (hl : ∀ p ∈ l, SmW p) : ∀ {i : Nat}, i ≤ l.length → (psum l i).natAbs ≤ 20000 * i
  | 0, _ => by simp [psum]
  | i + 1, h => by
    have ih := psum_small hl (i := i) (by omega)
    have hc := crs_small (hl _ (at_mem (l := l) (i := i) (by omega)).2) (hl _ (at_mem (l := l) (i := (i + 1) % l.length) (Nat.mod_lt _ (by omega))).2)
    simp only [psum]
    omega
def AS (l : List (Int × Int)) (i : Nat) : (List T × Unit × Unit × Int × Int × Bool × T × T × Bool × List T × List T × Unit) :=
  (l.map wT, (), (), (l.length : Int), (i : Int), false, .v (.slice none 0 0), .v (.slice none 0 0), rNeg (psum l i : Rat), rNum (psum l i : Rat), rDen (psum l i : Rat), ())
theorem area_step {l : List (Int × Int)} (hl : ∀ p ∈ l, SmW p) (hn : l.length ≤ 1000) {i : Nat} (hi : i < l.length) : u_trim_Area_l0 (AS l i) = some (.inl (AS l (i + 1))) := by
  obtain ⟨e1, m1⟩ := at_mem hi
  obtain ⟨e2, m2⟩ := at_mem (l := l) (i := (i + 1) % l.length) (Nat.mod_lt _ (by omega))
  have hb := psum_small hl (i := i) (by omega)
  have hc := crs_small (hl _ m1) (hl _ m2)
  have wi : wr .i64 ((i : Int) + 1) = ((i + 1 : Nat) : Int) := by rw [wri' (by omega) (by omega)]; push_cast; rfl
  have hlt : decide ((i : Int) < (l.length : Int)) = true := decide_eq_true (by omega)
  have hed := p_edge (l := l) (by omega) hi e1 e2
  have hs : psum l (i + 1) = psum l i + crs (at' l i) (at' l ((i + 1) % l.length)) := rfl
  generalize at' l i = p at *
  generalize at' l ((i + 1) % l.length) = q at *
  have sp := hl _ m1
  have sq := hl _ m2
  have sm : ∀ {n : Int}, n.natAbs < 100 → Sm (n : Rat) := fun h => sm_int (by omega)
  have k1 : (p.1 * q.2).natAbs ≤ 10000 := by
    rw [Int.natAbs_mul]
    exact Nat.mul_le_mul (show _ ≤ 100 from Nat.le_of_lt sp.1) (show _ ≤ 100 from Nat.le_of_lt sq.2)
  have k2 : (q.1 * p.2).natAbs ≤ 10000 := by
    rw [Int.natAbs_mul]
    exact Nat.mul_le_mul (show _ ≤ 100 from Nat.le_of_lt sq.1) (show _ ≤ 100 from Nat.le_of_lt sp.2)
  have f1 := p_Mul (sm sp.1) (sm sq.2)
  have f2 := p_Mul (sm sq.1) (sm sp.2)
  rw [← Rat.intCast_mul] at f1 f2
  have f3 := p_Sub (sm_int (n := p.1 * q.2) (by omega)) (sm_int (n := q.1 * p.2) (by omega))
  rw [← Rat.intCast_sub] at f3
  have f4 := p_Add (sm_int (n := psum l i) (by omega)) (sm_int (n := crs p q) (by omega))
  rw [← Rat.intCast_add, ← hs] at f4
  unfold crs at f4
  unfold u_trim_Area_l0
  conv => lhs; unfold AS
  simp only [ltI_eq, hlt, cond_true, hed, obS, f1, f2, f3, f4, addI_eq, wi]
  rfl
theorem p_Area {l : List (Int × Int)} (hl : ∀ p ∈ l, SmW p) (hn : l.length ≤ 1000) : u_trim_Area (l.map wT, ()) = some (rNeg (area l : Rat), (rNum (area l : Rat), (rDen (area l : Rat), ()))) := by
  have h := loopU_for (F := u_trim_Area_l0) l.length (AS l) fun i hi => area_step hl hn hi
  have hpl : ((l.map wT).length : Int) = (l.length : Int) := by rw [List.length_map]
  have fold : (l.map wT, (), (), (l.length : Int), (0 : Int), false, T.v (Value.slice none 0 0), T.v (Value.slice none 0 0), false, ([] : List T), ([] : List T), ()) = AS l 0 := by
    have e : ((psum l 0 : Int) : Rat) = 0 := rfl
    unfold AS
    rw [e, rNeg_zero, rNum_zero, rDen_zero]; rfl
  have hout : loopU u_trim_Area_l0 (AS l l.length) = some (.inl ((), (), false, T.v (Value.slice none 0 0), T.v (Value.slice none 0 0), rNeg (psum l l.length : Rat), rNum (psum l l.length : Rat), rDen (psum l l.length : Rat), ())) := by
    refine loopU_out ?_
    have hlt : decide ((l.length : Int) < (l.length : Int)) = false := decide_eq_false (by omega)
    unfold u_trim_Area_l0 AS
    simp only [ltI_eq, hlt, cond_false]
  rw [← psum_area]
  unfold u_trim_Area
  simp only [lenL_eq, hpl, fold, h, hout, obS, onS_l]
end Go.Eng.Rt

/- The loops that the dice make. -/
namespace Go.Eng.Rt
open Go.Eng Go.Eng.Tm

def DS (L : List T) (a x y r : Int) (turn : Bool) (i : Int) (l : List T) : (Unit × Int × Int × Int × Unit × List T × Bool × Int × List T × Int × Int × Int × Int × Int × Int × Int × Int × Int × Int × Int × Int × Int × Int × Int × Int × Int × Unit) :=
  ((), x, y, r, (), l, turn, i, L, a, 2, 0, 2, 1, 1, 2, -1, 2, -2, 0, -2, -1, 0, -2, 1, -1, ())
def SmS (ps : List (Int × Int)) : Prop := ∀ p ∈ ps, SmW p
theorem loop_step {L : List T} {a : Int} (hD : DiceOK L a) {x y r : Int} (hx : x.natAbs ≤ 4) (hy : y.natAbs ≤ 4) (hr0 : 1 ≤ r) (hr : r ≤ 5) {ps : List (Int × Int)} (hl : ps.length < 100) {turn : Bool} {i : Int} (hi : i = 0 ∨ i = 1 ∨ i = 2 ∨ i = 3 ∨ i = 4 ∨ i = 5 ∨ i = 6 ∨ i = 7) :
    ∃ a' ps', u___brepkernelmade_Dice__Loop_l0 (DS L a x y r turn i (ps.map wT)) = some (.inl (DS L a' x y r turn (i + 1) (ps'.map wT))) ∧ DiceOK L a' ∧ ps'.length ≤ ps.length + 1 ∧ (SmS ps → SmS ps') := by
  obtain ⟨v, a', e, v0, v1, hD'⟩ := s_Next hD (n := 4) (by omega) (by omega)
  have bd : ∀ c : Int, -2 ≤ c → c ≤ 2 → -10 ≤ r * c ∧ r * c ≤ 10 := fun c h1 h2 => by
    have : c = -2 ∨ c = -1 ∨ c = 0 ∨ c = 1 ∨ c = 2 := by omega
    rcases this with rfl | rfl | rfl | rfl | rfl <;> omega
  have wl : ∀ k : Int, 0 ≤ k → k ≤ 100 → wr .i64 k = k := fun k h1 h2 => wr64 (by omega) (by omega)
  have hm : ∀ c : Int, -2 ≤ c → c ≤ 2 → wr .i64 (r * c) = r * c := fun c h1 h2 => by have := bd c h1 h2; exact wri' (by omega) (by omega)
  have hax : ∀ c : Int, -2 ≤ c → c ≤ 2 → wr .i64 (x + r * c) = x + r * c := fun c h1 h2 => by have := bd c h1 h2; exact wri' (by omega) (by omega)
  have hay : ∀ c : Int, -2 ≤ c → c ≤ 2 → wr .i64 (y + r * c) = y + r * c := fun c h1 h2 => by have := bd c h1 h2; exact wri' (by omega) (by omega)
  have gx : ∀ c : Int, -2 ≤ c → c ≤ 2 → u_ref02_Int (x + r * c, ()) = some (rNeg ((x + r * c : Int) : Rat), (rNum ((x + r * c : Int) : Rat), (rDen ((x + r * c : Int) : Rat), ()))) := fun c h1 h2 => by have := bd c h1 h2; exact r_Int (by omega) (by omega)
  have gy : ∀ c : Int, -2 ≤ c → c ≤ 2 → u_ref02_Int (y + r * c, ()) = some (rNeg ((y + r * c : Int) : Rat), (rNum ((y + r * c : Int) : Rat), (rDen ((y + r * c : Int) : Rat), ()))) := fun c h1 h2 => by have := bd c h1 h2; exact r_Int (by omega) (by omega)
  have hroom : ∀ t : T, room (ps.map wT) [t] 168 = some (ps.map wT ++ [t]) := fun t => room_ok (by simp; omega) (by decide)
  have fin : ∀ c d : Int, -2 ≤ c → c ≤ 2 → -2 ≤ d → d ≤ 2 → (ps ++ [(x + r * c, y + r * d)]).length ≤ ps.length + 1 ∧ (SmS ps → SmS (ps ++ [(x + r * c, y + r * d)])) := fun c d h1 h2 h3 h4 => ⟨by simp, fun hs p hp => by
    have b1 := bd c h1 h2
    have b2 := bd d h3 h4
    rcases List.mem_append.1 hp with hp | hp
    · exact hs p hp
    · rw [List.mem_singleton.1 hp]
      exact ⟨by show (x + r * c).natAbs < 100; omega, by show (y + r * d).natAbs < 100; omega⟩⟩
  by_cases h3 : v = 3
  · subst h3
    refine ⟨a', ps, ?_, hD', by omega, id⟩
    unfold u___brepkernelmade_Dice__Loop_l0
    conv => lhs; unfold DS
    rcases hi with rfl | rfl | rfl | rfl | rfl | rfl | rfl | rfl <;> (simp only [ltI_eq, Int.reduceLT, decide_true, cond_true, e, obS, eqI_eq, onS_l, addI_eq, Int.reduceAdd, wl, Int.reduceLE]; rfl)
  · have d3 : decide (v = 3) = false := decide_eq_false h3
    rcases hi with rfl | rfl | rfl | rfl | rfl | rfl | rfl | rfl <;> cases turn
    · refine ⟨a', ps ++ [(x + r * (2), y + r * (0))], ?_, hD', fin (2) (0) (by decide) (by decide) (by decide) (by decide)⟩
      unfold u___brepkernelmade_Dice__Loop_l0 DS
      simp only [ltI_eq, Int.reduceLT, decide_true, decide_false, cond_true, cond_false, e, obS, eqI_eq, d3, onS_l, noS, addI_eq, subI_eq, mulI_eq, Int.reduceAdd, Int.reduceSub, Int.reduceEq, wl, hm, hax, hay, gx, gy, hroom, Int.reduceLE, Int.reduceNeg]
      rw [List.map_append]; rfl
    · refine ⟨a', ps ++ [(x + r * (1), y + r * (-1))], ?_, hD', fin (1) (-1) (by decide) (by decide) (by decide) (by decide)⟩
      unfold u___brepkernelmade_Dice__Loop_l0 DS
      simp only [ltI_eq, Int.reduceLT, decide_true, decide_false, cond_true, cond_false, e, obS, eqI_eq, d3, onS_l, noS, addI_eq, subI_eq, mulI_eq, Int.reduceAdd, Int.reduceSub, Int.reduceEq, wl, hm, hax, hay, gx, gy, hroom, Int.reduceLE, Int.reduceNeg]
      rw [List.map_append]; rfl
    · refine ⟨a', ps ++ [(x + r * (2), y + r * (1))], ?_, hD', fin (2) (1) (by decide) (by decide) (by decide) (by decide)⟩
      unfold u___brepkernelmade_Dice__Loop_l0 DS
      simp only [ltI_eq, Int.reduceLT, decide_true, decide_false, cond_true, cond_false, e, obS, eqI_eq, d3, onS_l, noS, addI_eq, subI_eq, mulI_eq, Int.reduceAdd, Int.reduceSub, Int.reduceEq, wl, hm, hax, hay, gx, gy, hroom, Int.reduceLE, Int.reduceNeg]
      rw [List.map_append]; rfl
    · refine ⟨a', ps ++ [(x + r * (0), y + r * (-2))], ?_, hD', fin (0) (-2) (by decide) (by decide) (by decide) (by decide)⟩
      unfold u___brepkernelmade_Dice__Loop_l0 DS
      simp only [ltI_eq, Int.reduceLT, decide_true, decide_false, cond_true, cond_false, e, obS, eqI_eq, d3, onS_l, noS, addI_eq, subI_eq, mulI_eq, Int.reduceAdd, Int.reduceSub, Int.reduceEq, wl, hm, hax, hay, gx, gy, hroom, Int.reduceLE, Int.reduceNeg]
      rw [List.map_append]; rfl
    · refine ⟨a', ps ++ [(x + r * (1), y + r * (2))], ?_, hD', fin (1) (2) (by decide) (by decide) (by decide) (by decide)⟩
      unfold u___brepkernelmade_Dice__Loop_l0 DS
      simp only [ltI_eq, Int.reduceLT, decide_true, decide_false, cond_true, cond_false, e, obS, eqI_eq, d3, onS_l, noS, addI_eq, subI_eq, mulI_eq, Int.reduceAdd, Int.reduceSub, Int.reduceEq, wl, hm, hax, hay, gx, gy, hroom, Int.reduceLE, Int.reduceNeg]
      rw [List.map_append]; rfl
    · refine ⟨a', ps ++ [(x + r * (-2), y + r * (-1))], ?_, hD', fin (-2) (-1) (by decide) (by decide) (by decide) (by decide)⟩
      unfold u___brepkernelmade_Dice__Loop_l0 DS
      simp only [ltI_eq, Int.reduceLT, decide_true, decide_false, cond_true, cond_false, e, obS, eqI_eq, d3, onS_l, noS, addI_eq, subI_eq, mulI_eq, Int.reduceAdd, Int.reduceSub, Int.reduceEq, wl, hm, hax, hay, gx, gy, hroom, Int.reduceLE, Int.reduceNeg]
      rw [List.map_append]; rfl
    · refine ⟨a', ps ++ [(x + r * (-1), y + r * (2))], ?_, hD', fin (-1) (2) (by decide) (by decide) (by decide) (by decide)⟩
      unfold u___brepkernelmade_Dice__Loop_l0 DS
      simp only [ltI_eq, Int.reduceLT, decide_true, decide_false, cond_true, cond_false, e, obS, eqI_eq, d3, onS_l, noS, addI_eq, subI_eq, mulI_eq, Int.reduceAdd, Int.reduceSub, Int.reduceEq, wl, hm, hax, hay, gx, gy, hroom, Int.reduceLE, Int.reduceNeg]
      rw [List.map_append]; rfl
    · refine ⟨a', ps ++ [(x + r * (-2), y + r * (0))], ?_, hD', fin (-2) (0) (by decide) (by decide) (by decide) (by decide)⟩
      unfold u___brepkernelmade_Dice__Loop_l0 DS
      simp only [ltI_eq, Int.reduceLT, decide_true, decide_false, cond_true, cond_false, e, obS, eqI_eq, d3, onS_l, noS, addI_eq, subI_eq, mulI_eq, Int.reduceAdd, Int.reduceSub, Int.reduceEq, wl, hm, hax, hay, gx, gy, hroom, Int.reduceLE, Int.reduceNeg]
      rw [List.map_append]; rfl
    · refine ⟨a', ps ++ [(x + r * (-2), y + r * (0))], ?_, hD', fin (-2) (0) (by decide) (by decide) (by decide) (by decide)⟩
      unfold u___brepkernelmade_Dice__Loop_l0 DS
      simp only [ltI_eq, Int.reduceLT, decide_true, decide_false, cond_true, cond_false, e, obS, eqI_eq, d3, onS_l, noS, addI_eq, subI_eq, mulI_eq, Int.reduceAdd, Int.reduceSub, Int.reduceEq, wl, hm, hax, hay, gx, gy, hroom, Int.reduceLE, Int.reduceNeg]
      rw [List.map_append]; rfl
    · refine ⟨a', ps ++ [(x + r * (-1), y + r * (2))], ?_, hD', fin (-1) (2) (by decide) (by decide) (by decide) (by decide)⟩
      unfold u___brepkernelmade_Dice__Loop_l0 DS
      simp only [ltI_eq, Int.reduceLT, decide_true, decide_false, cond_true, cond_false, e, obS, eqI_eq, d3, onS_l, noS, addI_eq, subI_eq, mulI_eq, Int.reduceAdd, Int.reduceSub, Int.reduceEq, wl, hm, hax, hay, gx, gy, hroom, Int.reduceLE, Int.reduceNeg]
      rw [List.map_append]; rfl
    · refine ⟨a', ps ++ [(x + r * (-2), y + r * (-1))], ?_, hD', fin (-2) (-1) (by decide) (by decide) (by decide) (by decide)⟩
      unfold u___brepkernelmade_Dice__Loop_l0 DS
      simp only [ltI_eq, Int.reduceLT, decide_true, decide_false, cond_true, cond_false, e, obS, eqI_eq, d3, onS_l, noS, addI_eq, subI_eq, mulI_eq, Int.reduceAdd, Int.reduceSub, Int.reduceEq, wl, hm, hax, hay, gx, gy, hroom, Int.reduceLE, Int.reduceNeg]
      rw [List.map_append]; rfl
    · refine ⟨a', ps ++ [(x + r * (1), y + r * (2))], ?_, hD', fin (1) (2) (by decide) (by decide) (by decide) (by decide)⟩
      unfold u___brepkernelmade_Dice__Loop_l0 DS
      simp only [ltI_eq, Int.reduceLT, decide_true, decide_false, cond_true, cond_false, e, obS, eqI_eq, d3, onS_l, noS, addI_eq, subI_eq, mulI_eq, Int.reduceAdd, Int.reduceSub, Int.reduceEq, wl, hm, hax, hay, gx, gy, hroom, Int.reduceLE, Int.reduceNeg]
      rw [List.map_append]; rfl
    · refine ⟨a', ps ++ [(x + r * (0), y + r * (-2))], ?_, hD', fin (0) (-2) (by decide) (by decide) (by decide) (by decide)⟩
      unfold u___brepkernelmade_Dice__Loop_l0 DS
      simp only [ltI_eq, Int.reduceLT, decide_true, decide_false, cond_true, cond_false, e, obS, eqI_eq, d3, onS_l, noS, addI_eq, subI_eq, mulI_eq, Int.reduceAdd, Int.reduceSub, Int.reduceEq, wl, hm, hax, hay, gx, gy, hroom, Int.reduceLE, Int.reduceNeg]
      rw [List.map_append]; rfl
    · refine ⟨a', ps ++ [(x + r * (2), y + r * (1))], ?_, hD', fin (2) (1) (by decide) (by decide) (by decide) (by decide)⟩
      unfold u___brepkernelmade_Dice__Loop_l0 DS
      simp only [ltI_eq, Int.reduceLT, decide_true, decide_false, cond_true, cond_false, e, obS, eqI_eq, d3, onS_l, noS, addI_eq, subI_eq, mulI_eq, Int.reduceAdd, Int.reduceSub, Int.reduceEq, wl, hm, hax, hay, gx, gy, hroom, Int.reduceLE, Int.reduceNeg]
      rw [List.map_append]; rfl
    · refine ⟨a', ps ++ [(x + r * (1), y + r * (-1))], ?_, hD', fin (1) (-1) (by decide) (by decide) (by decide) (by decide)⟩
      unfold u___brepkernelmade_Dice__Loop_l0 DS
      simp only [ltI_eq, Int.reduceLT, decide_true, decide_false, cond_true, cond_false, e, obS, eqI_eq, d3, onS_l, noS, addI_eq, subI_eq, mulI_eq, Int.reduceAdd, Int.reduceSub, Int.reduceEq, wl, hm, hax, hay, gx, gy, hroom, Int.reduceLE, Int.reduceNeg]
      rw [List.map_append]; rfl
    · refine ⟨a', ps ++ [(x + r * (2), y + r * (0))], ?_, hD', fin (2) (0) (by decide) (by decide) (by decide) (by decide)⟩
      unfold u___brepkernelmade_Dice__Loop_l0 DS
      simp only [ltI_eq, Int.reduceLT, decide_true, decide_false, cond_true, cond_false, e, obS, eqI_eq, d3, onS_l, noS, addI_eq, subI_eq, mulI_eq, Int.reduceAdd, Int.reduceSub, Int.reduceEq, wl, hm, hax, hay, gx, gy, hroom, Int.reduceLE, Int.reduceNeg]
      rw [List.map_append]; rfl
theorem loop_all {L : List T} {x y r : Int} (hx : x.natAbs ≤ 4) (hy : y.natAbs ≤ 4) (hr0 : 1 ≤ r) (hr : r ≤ 5) {turn : Bool} : ∀ (n : Nat) {a : Int} (_ : DiceOK L a) {ps : List (Int × Int)} {i : Int} (_ : i = 8 - n) (_ : 0 ≤ i) (_ : (ps.length : Int) ≤ i) (_ : SmS ps),
    ∃ a' ps', loopU u___brepkernelmade_Dice__Loop_l0 (DS L a x y r turn i (ps.map wT)) = some (.inl ((), ps'.map wT, L, a', ())) ∧ DiceOK L a' ∧ ps'.length ≤ 8 ∧ SmS ps'
  | 0, a, hD, ps, i, hi, h0, hl, hs => by
    refine ⟨a, ps, loopU_out ?_, hD, by omega, hs⟩
    have hlt : decide (i < 8) = false := decide_eq_false (by omega)
    unfold u___brepkernelmade_Dice__Loop_l0 DS
    simp only [ltI_eq, hlt, cond_false]
  | n + 1, a, hD, ps, i, hi, h0, hl, hs => by
    obtain ⟨a', ps', e, hD', hl', hs'⟩ := loop_step hD hx hy hr0 hr (ps := ps) (by omega) (turn := turn) (i := i) (by omega)
    obtain ⟨a2, ps2, e2, r2⟩ := loop_all hx hy hr0 hr (turn := turn) n hD' (ps := ps') (i := i + 1) (by omega) (by omega) (by omega) (hs' hs)
    exact ⟨a2, ps2, by rw [loopU_go e, e2], r2⟩
end Go.Eng.Rt

/- The loops that the dice make, and the law of areas. -/
namespace Go.Eng.Rt
open Go.Eng Go.Eng.Tm

theorem upd9 (a0 a1 a2 a3 a4 a5 a6 a7 a8 b0 b1 b2 b3 b4 b5 b6 b7 b8 : T) : T.upd 9 (.agg [a0, a1, a2, a3, a4, a5, a6, a7, a8]) 0 [b0, b1, b2, b3, b4, b5, b6, b7, b8] = .agg [b0, b1, b2, b3, b4, b5, b6, b7, b8] := by
  unfold T.upd; rfl
theorem d_Loop {L : List T} {a : Int} (hD : DiceOK L a) : ∃ a' ps, u___brepkernelmade_Dice__Loop ((), (L, (a, ()))) = some (ps.map wT, (L, (a', ()))) ∧ DiceOK L a' ∧ ps.length ≤ 8 ∧ SmS ps := by
  obtain ⟨v0, a0, e0, l0, h0, D0⟩ := s_Next hD (n := 9) (by omega) (by omega)
  obtain ⟨v1, a1, e1, l1, h1, D1⟩ := s_Next D0 (n := 9) (by omega) (by omega)
  obtain ⟨v2, a2, e2, l2, h2, D2⟩ := s_Next D1 (n := 5) (by omega) (by omega)
  obtain ⟨v3, a3, e3, l3, h3, D3⟩ := s_Next D2 (n := 3) (by omega) (by omega)
  have w0 : wr .i64 (v0 - 4) = v0 - 4 := wr64 (by omega) (by omega)
  have w1 : wr .i64 (v1 - 4) = v1 - 4 := wr64 (by omega) (by omega)
  have w2 : wr .i64 (1 + v2) = 1 + v2 := wr64 (by omega) (by omega)
  obtain ⟨a4, ps, e4, D4, hl, hs⟩ := loop_all (L := L) (x := v0 - 4) (y := v1 - 4) (r := 1 + v2) (by omega) (by omega) (by omega) (by omega) (turn := decide (v3 = 2)) 8 D3 (ps := []) (i := 0) (by omega) (by omega) (by simp) (fun p hp => by cases hp)
  obtain ⟨v5, a5, e5, l5, h5, D5⟩ := s_Next D4 (n := 7) (by omega) (by omega)
  have fold : ((), v0 - 4, v1 - 4, 1 + v2, (), ([] : List T), decide (v3 = 2), (0 : Int), L, a3, (2 : Int), (0 : Int), (2 : Int), (1 : Int), (1 : Int), (2 : Int), (-1 : Int), (2 : Int), (-2 : Int), (0 : Int), (-2 : Int), (-1 : Int), (0 : Int), (-2 : Int), (1 : Int), (-1 : Int), ()) = DS L a3 (v0 - 4) (v1 - 4) (1 + v2) (decide (v3 = 2)) 0 (([] : List (Int × Int)).map wT) := rfl
  have hcell : ∀ p, T.bool? (T.cell (wT p) 0) = some (rNeg (p.1 : Rat)) ∧ T.sl? 1 (T.cell (wT p) 1) = some (rNum (p.1 : Rat)) ∧ T.sl? 1 (T.cell (wT p) 2) = some (rDen (p.1 : Rat)) ∧
      T.bool? (T.cell (wT p) 3) = some (rNeg (p.2 : Rat)) ∧ T.sl? 1 (T.cell (wT p) 4) = some (rNum (p.2 : Rat)) ∧ T.sl? 1 (T.cell (wT p) 5) = some (rDen (p.2 : Rat)) ∧
      T.bool? (T.cell (wT p) 6) = some false ∧ T.sl? 1 (T.cell (wT p) 7) = some [] ∧ T.sl? 1 (T.cell (wT p) 8) = some [] := fun p => ⟨rfl, T_sl _ _, T_sl _ _, rfl, T_sl _ _, T_sl _ _, rfl, T_sl _ _, T_sl _ _⟩
  unfold u___brepkernelmade_Dice__Loop
  simp only [e0, e1, e2, e3, obS, subI_eq, addI_eq, eqI_eq, w0, w1, w2, fold, e4, e5, onS_l]
  by_cases h6 : v5 = 6
  · rw [decide_eq_true h6]
    simp only [cond_true, ltI_eq, lenL_eq, List.length_map]
    match ps, hl, hs with
    | [], hl, hs => exact ⟨a5, [], rfl, D5, by simp, hs⟩
    | [p], hl, hs => exact ⟨a5, [p], rfl, D5, by simp, hs⟩
    | p :: q :: r, hl, hs =>
      obtain ⟨p0, p1, p2, p3, p4, p5, p6, p7, p8⟩ := hcell p
      obtain ⟨q0, q1, q2, q3, q4, q5, q6, q7, q8⟩ := hcell q
      have hlen : (((p :: q :: r).length : Nat) : Int) = (r.length : Int) + 2 := by simp; omega
      have c1 : chkI ((r.length : Int) + 2) 1 = some 1 := chkI_nat (i := 1) (by omega)
      have c0 : chkI ((r.length : Int) + 2) 0 = some 0 := chkI_nat (i := 0) (by omega)
      have hlt : decide ((1 : Int) < (r.length : Int) + 2) = true := decide_eq_true (by omega)
      have u1 := upd9 (.v (.bool (rNeg (p.1 : Rat)))) (.sl 1 (rNum (p.1 : Rat))) (.sl 1 (rDen (p.1 : Rat))) (.v (.bool (rNeg (p.2 : Rat)))) (.sl 1 (rNum (p.2 : Rat))) (.sl 1 (rDen (p.2 : Rat))) (.v (.bool false)) (.sl 1 []) (.sl 1 [])
        (.v (.bool (rNeg (q.1 : Rat)))) (.sl 1 (rNum (q.1 : Rat))) (.sl 1 (rDen (q.1 : Rat))) (.v (.bool (rNeg (q.2 : Rat)))) (.sl 1 (rNum (q.2 : Rat))) (.sl 1 (rDen (q.2 : Rat))) (.v (.bool false)) (.sl 1 []) (.sl 1 [])
      have u2 := upd9 (.v (.bool (rNeg (q.1 : Rat)))) (.sl 1 (rNum (q.1 : Rat))) (.sl 1 (rDen (q.1 : Rat))) (.v (.bool (rNeg (q.2 : Rat)))) (.sl 1 (rNum (q.2 : Rat))) (.sl 1 (rDen (q.2 : Rat))) (.v (.bool false)) (.sl 1 []) (.sl 1 [])
        (.v (.bool (rNeg (p.1 : Rat)))) (.sl 1 (rNum (p.1 : Rat))) (.sl 1 (rDen (p.1 : Rat))) (.v (.bool (rNeg (p.2 : Rat)))) (.sl 1 (rNum (p.2 : Rat))) (.sl 1 (rDen (p.2 : Rat))) (.v (.bool false)) (.sl 1 []) (.sl 1 [])
      have u1' : T.upd 9 (wT p) 0 [.v (.bool (rNeg (q.1 : Rat))), .sl 1 (rNum (q.1 : Rat)), .sl 1 (rDen (q.1 : Rat)), .v (.bool (rNeg (q.2 : Rat))), .sl 1 (rNum (q.2 : Rat)), .sl 1 (rDen (q.2 : Rat)), .v (.bool false), .sl 1 [], .sl 1 []] = wT q := u1
      have u2' : T.upd 9 (wT q) 0 [.v (.bool (rNeg (p.1 : Rat))), .sl 1 (rNum (p.1 : Rat)), .sl 1 (rDen (p.1 : Rat)), .v (.bool (rNeg (p.2 : Rat))), .sl 1 (rNum (p.2 : Rat)), .sl 1 (rDen (p.2 : Rat)), .v (.bool false), .sl 1 [], .sl 1 []] = wT p := u2
      refine ⟨a5, q :: p :: r, ?_, D5, by simpa using hl, fun x hx => hs x ?_⟩
      · have g1 : ((p :: q :: r).map wT)[1]? = some (wT q) := rfl
        have g0 : ((p :: q :: r).map wT)[0]? = some (wT p) := rfl
        have s1 : ((p :: q :: r).map wT).set 0 (wT q) = wT q :: wT q :: r.map wT := rfl
        have hlen2 : (((wT q :: wT q :: r.map wT).length : Nat) : Int) = (r.length : Int) + 2 := by simp; omega
        have g2 : (wT q :: wT q :: r.map wT)[1]? = some (wT q) := rfl
        simp only [hlen, hlt, cond_true, c1, c0, obS, idxN_eq, g1, g0, p0, p1, p2, p3, p4, p5, p6, p7, p8, q0, q1, q2, q3, q4, q5, q6, q7, q8, u1', s1, hlen2, g2, u2', onS_l]
        rfl
      · simp only [List.mem_cons] at hx ⊢
        rcases hx with h | h | h
        · exact .inr (.inl h)
        · exact .inl h
        · exact .inr (.inr h)
  · rw [decide_eq_false h6]
    exact ⟨a5, ps, rfl, D5, hl, hs⟩
end Go.Eng.Rt

/- The law of areas answers true on every list. -/
namespace Go.Eng.Rt
open Go.Eng Go.Eng.Tm

theorem area_small {l : List (Int × Int)} (hl : SmS l) (hn : l.length ≤ 100) : (area l).natAbs ≤ 2000000 := by
  rw [← psum_area]
  have h := psum_small hl (i := l.length) (by omega)
  have : 20000 * l.length ≤ 20000 * 100 := Nat.mul_le_mul_left _ hn
  omega
theorem sm_area {l : List (Int × Int)} (hl : SmS l) (hn : l.length ≤ 100) : Sm (area l : Rat) := sm_int (by have := area_small hl hn; omega)
def BS (j : Int) (ps : List (Int × Int)) (k : Int) (t : List T) (n : Nat) : (Int × List T × Int × List T × List T × Int × Unit) :=
  (j, ps.map wT, k, t, (ps.reverse.take n).map wT, (ps.length : Int) - 1 - n, ())
theorem back_step {j k : Int} {ps : List (Int × Int)} {t : List T} (hn : ps.length ≤ 100) {n : Nat} (h : n < ps.length) : u_brepkernellaw21_TrimAreas_l0 (BS j ps k t n) = some (.inl (BS j ps k t (n + 1))) := by
  have hle : decide ((0 : Int) ≤ (ps.length : Int) - 1 - n) = true := decide_eq_true (by omega)
  have hi : (ps.length : Int) - 1 - n = ((ps.length - 1 - n : Nat) : Int) := by omega
  have hlt : ps.length - 1 - n < ps.length := by omega
  have hg : (ps.map wT)[ps.length - 1 - n]? = some (wT ps[ps.length - 1 - n]) := by rw [List.getElem?_map, List.getElem?_eq_getElem hlt]; rfl
  have w : wr .i64 ((ps.length : Int) - 1 - n - 1) = (ps.length : Int) - 1 - (n + 1 : Nat) := by rw [wr64 (by omega) (by omega)]; push_cast; omega
  have hroom : ∀ x : T, room ((ps.reverse.take n).map wT) [x] 168 = some ((ps.reverse.take n).map wT ++ [x]) := fun x => room_ok (by simp; omega) (by decide)
  have htk : ps.reverse.take (n + 1) = ps.reverse.take n ++ [ps[ps.length - 1 - n]] := by
    rw [List.take_add_one, List.getElem?_eq_getElem (by simpa using h)]
    simp [List.getElem_reverse]
  have hcell : ∀ p, T.bool? (T.cell (wT p) 0) = some (rNeg (p.1 : Rat)) ∧ T.sl? 1 (T.cell (wT p) 1) = some (rNum (p.1 : Rat)) ∧ T.sl? 1 (T.cell (wT p) 2) = some (rDen (p.1 : Rat)) ∧
      T.bool? (T.cell (wT p) 3) = some (rNeg (p.2 : Rat)) ∧ T.sl? 1 (T.cell (wT p) 4) = some (rNum (p.2 : Rat)) ∧ T.sl? 1 (T.cell (wT p) 5) = some (rDen (p.2 : Rat)) ∧
      T.bool? (T.cell (wT p) 6) = some false ∧ T.sl? 1 (T.cell (wT p) 7) = some [] ∧ T.sl? 1 (T.cell (wT p) 8) = some [] := fun p => ⟨rfl, T_sl _ _, T_sl _ _, rfl, T_sl _ _, T_sl _ _, rfl, T_sl _ _, T_sl _ _⟩
  unfold BS
  rw [htk]
  generalize ps[ps.length - 1 - n] = p at *
  obtain ⟨p0, p1, p2, p3, p4, p5, p6, p7, p8⟩ := hcell p
  unfold u_brepkernellaw21_TrimAreas_l0
  simp only [leI_eq, hle, cond_true]
  simp only [subI_eq, w]
  rw [hi]
  simp only [idxL_nat, hg, obS, p0, p1, p2, p3, p4, p5, p6, p7, p8, hroom]
  rw [List.map_append]; rfl
theorem back_all {j k : Int} {ps : List (Int × Int)} {t : List T} (hn : ps.length ≤ 100) : loopU u_brepkernellaw21_TrimAreas_l0 (BS j ps k t 0) = some (.inl (j, ps.map wT, k, t, ps.reverse.map wT, ())) := by
  rw [loopU_for (F := u_brepkernellaw21_TrimAreas_l0) ps.length (BS j ps k t) fun i hi => back_step hn hi]
  refine loopU_out ?_
  have hle : decide ((0 : Int) ≤ (ps.length : Int) - 1 - ps.length) = false := decide_eq_false (by omega)
  unfold u_brepkernellaw21_TrimAreas_l0 BS
  simp only [leI_eq, hle, cond_false]
  rw [List.take_of_length_le (by simp)]
theorem law_areas (zs : List Int) (i j : Int) : u_brepkernellaw21_TrimAreas (zs.map intT, (i, (j, ()))) = some (true, ()) := by
  unfold u_brepkernellaw21_TrimAreas
  rw [s_Light]
  simp only [obS, awake_true]
  by_cases hL : (zs.map intT).length ≤ 500
  · rw [decide_eq_true hL]
    simp only [Bool.not_true, cond_false, s_Roll, obS]
    obtain ⟨a1, ps, e1, D1, hl, hs⟩ := d_Loop (L := zs.map intT) (a := 0) ⟨zs, rfl, by simp at hL; omega, by omega, by omega⟩
    simp only [e1, obS, lenL_eq, List.length_map, eqI_eq]
    by_cases h0 : ((ps.length : Nat) : Int) = 0
    · rw [decide_eq_true h0]; rfl
    rw [decide_eq_false h0]
    have hm1 := modV_lo i (n := (ps.length : Int)) (by omega)
    have hm2 := modV_hi i (n := (ps.length : Int)) (by omega)
    obtain ⟨k, hk⟩ := Int.eq_ofNat_of_zero_le hm1
    have hkl : k < ps.length := by omega
    have ek : modV i (ps.length : Int) = (k : Int) := hk
    have hn1 := modV_lo j (n := (ps.length : Int) - k) (by omega)
    have hn2 := modV_hi j (n := (ps.length : Int) - k) (by omega)
    obtain ⟨d, hd⟩ := Int.eq_ofNat_of_zero_le hn1
    have ed : modV j ((ps.length : Int) - k) = (d : Int) := hd
    have hml : k + d < ps.length := by omega
    have f1 := s_Mod i (n := (ps.length : Int)) (by omega) (by omega)
    have f2 := s_Mod j (n := (ps.length : Int) - k) (by omega) (by omega)
    rw [ek] at f1
    rw [ed] at f2
    have c1 : cutL (ps.map wT) (k : Int) (ps.length : Int) = some ((ps.drop k).map wT) := by
      rw [cutL_nat (by omega) (by simp), List.take_of_length_le (by simp)]; simp [List.map_drop]
    have c2 : cutL (ps.map wT) (0 : Int) (k : Int) = some ((ps.take k).map wT) := by
      have := cutL_nat (l := ps.map wT) (lo := 0) (hi := k) (by omega) (by simp; omega)
      rw [show ((0 : Nat) : Int) = 0 from rfl] at this
      rw [this]; simp [List.map_take]
    have c3 : cutL (ps.map wT) (k : Int) ((k + d + 1 : Nat) : Int) = some (((ps.take (k + d + 1)).drop k).map wT) := by
      rw [cutL_nat (by omega) (by simp; omega)]; simp [List.map_drop, List.map_take]
    have c4 : cutL (ps.map wT) (0 : Int) ((k + 1 : Nat) : Int) = some ((ps.take (k + 1)).map wT) := by
      have := cutL_nat (l := ps.map wT) (lo := 0) (hi := k + 1) (by omega) (by simp; omega)
      rw [show ((0 : Nat) : Int) = 0 from rfl] at this
      rw [this]; simp [List.map_take]
    have c5 : cutL (ps.map wT) ((k + d : Nat) : Int) (ps.length : Int) = some ((ps.drop (k + d)).map wT) := by
      rw [cutL_nat (by omega) (by simp), List.take_of_length_le (by simp)]; simp [List.map_drop]
    have rm : ∀ (u v : List (Int × Int)), u.length + v.length ≤ 100 → room (u.map wT) (v.map wT) 168 = some ((u ++ v).map wT) := fun u v h => by
      rw [room_ok (by simp; omega) (by decide), List.map_append]
    have r1 : room ([] : List T) ((ps.drop k).map wT) 168 = some ((ps.drop k).map wT) := rm [] (ps.drop k) (by simp; omega)
    have r2 := rm (ps.drop k) (ps.take k) (by simp; omega)
    have r3 : room ([] : List T) ((ps.take (k + 1)).map wT) 168 = some ((ps.take (k + 1)).map wT) := rm [] (ps.take (k + 1)) (by simp; omega)
    have r4 := rm (ps.take (k + 1)) (ps.drop (k + d)) (by simp; omega)
    have w1 : wr .i64 ((ps.length : Int) - 1) = (ps.length : Int) - 1 - (0 : Nat) := by rw [wr64 (by omega) (by omega)]; simp
    have w2 : wr .i64 ((ps.length : Int) - k) = (ps.length : Int) - k := wr64 (by omega) (by omega)
    have w3 : wr .i64 ((k : Int) + d) = ((k + d : Nat) : Int) := by rw [wr64 (by omega) (by omega)]; push_cast; rfl
    have w4 : wr .i64 (((k + d : Nat) : Int) + 1) = ((k + d + 1 : Nat) : Int) := by rw [wr64 (by omega) (by omega)]; push_cast; rfl
    have w5 : wr .i64 ((k : Int) + 1) = ((k + 1 : Nat) : Int) := by rw [wr64 (by omega) (by omega)]; push_cast; rfl
    have fold : ∀ t : List T, (j, ps.map wT, (k : Int), t, ([] : List T), (ps.length : Int) - 1 - (0 : Nat), ()) = BS j ps k t 0 := fun t => rfl
    have sub : ∀ l : List (Int × Int), (∀ x ∈ l, x ∈ ps) → SmS l := fun l h x hx => hs x (h x hx)
    have s1 : SmS (ps.drop k ++ ps.take k) := sub _ fun x hx => by
      rcases List.mem_append.1 hx with h | h
      · exact List.mem_of_mem_drop h
      · exact List.mem_of_mem_take h
    have s2 : SmS ps.reverse := sub _ fun x hx => List.mem_reverse.1 hx
    have s3 : SmS ((ps.take (k + d + 1)).drop k) := sub _ fun x hx => List.mem_of_mem_take (List.mem_of_mem_drop hx)
    have s4 : SmS (ps.take (k + 1) ++ ps.drop (k + d)) := sub _ fun x hx => by
      rcases List.mem_append.1 hx with h | h
      · exact List.mem_of_mem_take h
      · exact List.mem_of_mem_drop h
    have A0 := p_Area hs (by omega)
    have A1 := p_Area s1 (by simp; omega)
    have A2 := p_Area s2 (by simp; omega)
    have A3 := p_Area s3 (by simp; omega)
    have A4 := p_Area s4 (by simp; omega)
    have q1 : area (ps.drop k ++ ps.take k) = area ps := by rw [area_rot (ps.take k) (ps.drop k), List.take_append_drop]
    have q2 := area_rev ps
    have q3 := area_cut (x := ps) (k := k) (m := k + d) (by omega) hml
    rw [q1] at A1
    rw [q2] at A2
    have m0 := sm_area hs (by omega)
    have m3 := sm_area s3 (by simp; omega)
    have m4 := sm_area s4 (by simp; omega)
    have S1 := r_Same m0.fit m0.fit
    have N1 := r_Neg (area ps : Rat)
    have S2 := r_Same (p := ((-area ps : Int) : Rat)) (q := -(area ps : Rat)) (by rw [Rat.intCast_neg]; exact m0.neg.fit) m0.neg.fit
    have P1 := r_QAdd m3 m4
    rw [← Rat.intCast_add, q3] at P1
    have t1 : decide ((area ps : Rat) = (area ps : Rat)) = true := decide_eq_true rfl
    have t2 : decide (((-area ps : Int) : Rat) = -(area ps : Rat)) = true := decide_eq_true (by rw [Rat.intCast_neg])
    rw [t1] at S1
    rw [t2] at S2
    simp only [cond_false, f1, obS, c1, r1, c2, r2, subI_eq, w1, fold, back_all (show ps.length ≤ 100 by omega), onS_l, List.length_map, addI_eq, w2, f2, w3, w4, w5, c3, c4, r3, c5, r4, A0, A1, A2, A3, A4, S1, N1, S2, P1, cond_true]
  · rw [decide_eq_false hL]
    rfl
end Go.Eng.Rt
