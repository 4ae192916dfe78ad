/- The functions and the laws of this seat in plain words; each statement names its conditions. -/
import Derived.Test.YtdomcfhppficpaaGen
import Derived.Test.YtdomcfhppficpaaEng3
import Derived.Test.YtdomcfhppficpaaLaw
set_option linter.unusedSimpArgs false
set_option linter.unusedVariables false

/- What the dice give. -/
namespace Go.Eng
theorem tmod_lo (a : Int) {b : Int} (h : 0 < b) : -b < a.tmod b := by
  rcases Int.lt_or_le a 0 with ha | ha
  · have h1 : (-(-a)).tmod b = -((-a).tmod b) := Int.neg_tmod (-a) b
    rw [Int.neg_neg] at h1
    have h2 : (-a).tmod b < b := by rw [Int.tmod_eq_emod_of_nonneg (by omega)]; exact Int.emod_lt_of_pos _ h
    omega
  · have : 0 ≤ a.tmod b := by rw [Int.tmod_eq_emod_of_nonneg ha]; exact Int.emod_nonneg _ (by omega)
    omega
theorem tmod_hi (a : Int) {b : Int} (h : 0 < b) : a.tmod b < b := by
  rcases Int.lt_or_le a 0 with ha | ha
  · have h1 : (-(-a)).tmod b = -((-a).tmod b) := Int.neg_tmod (-a) b
    rw [Int.neg_neg] at h1
    have h2 : 0 ≤ (-a).tmod b := by rw [Int.tmod_eq_emod_of_nonneg (by omega)]; exact Int.emod_nonneg _ (by omega)
    omega
  · rw [Int.tmod_eq_emod_of_nonneg ha]; exact Int.emod_lt_of_pos _ h
def modV (a n : Int) : Int := if a.tmod n < 0 then a.tmod n + n else a.tmod n
theorem modV_lo (a : Int) {n : Int} (h : 0 < n) : 0 ≤ modV a n := by
  unfold modV
  have := tmod_lo a h
  split <;> omega
theorem modV_hi (a : Int) {n : Int} (h : 0 < n) : modV a n < n := by
  unfold modV
  have := tmod_hi a h
  split <;> omega
theorem s_Mod (a : Int) {n : Int} (h1 : 0 < n) (h2 : n ≤ 4611686018427387904) : u_brepkernelmade_Mod (a, (n, ())) = some (modV a n, ()) := by
  unfold u_brepkernelmade_Mod modV
  have := tmod_lo a h1
  have := tmod_hi a h1
  rw [nz_eq (show n ≠ 0 by omega)]
  simp only [obS, modI_eq, ltI_eq, addI_eq]
  by_cases h : a.tmod n < 0
  · rw [decide_eq_true h, if_pos h, wr64 (by omega) (by omega)]; rfl
  · rw [decide_eq_false h, if_neg h]; rfl

def intT (z : Int) : T := .v (.int .i64 z)
/-- The dice: numbers, and a place among them. -/
def DiceOK (L : List T) (a : Int) : Prop := ∃ zs : List Int, L = zs.map intT ∧ zs.length ≤ 1000000 ∧ 0 ≤ a ∧ a ≤ zs.length
theorem s_Next {L : List T} {a : Int} (h : DiceOK L a) {n : Int} (h1 : 0 < n) (h2 : n ≤ 4611686018427387904) :
    ∃ v a', u___brepkernelmade_Dice__Next ((), (n, (L, (a, ())))) = some (v, (L, (a', ()))) ∧ 0 ≤ v ∧ v < n ∧ DiceOK L a' := by
  obtain ⟨zs, rfl, hz, ha0, ha1⟩ := h
  unfold u___brepkernelmade_Dice__Next
  simp only [leI_eq, lenL_eq, List.length_map, addI_eq, subI_eq]
  by_cases hc : (zs.length : Int) ≤ a
  · rw [decide_eq_true hc]
    exact ⟨0, a, rfl, Int.le_refl _, h1, zs, rfl, hz, ha0, ha1⟩
  · rw [decide_eq_false hc]
    obtain ⟨i, rfl⟩ := Int.eq_ofNat_of_zero_le ha0
    have hi : i < zs.length := by omega
    rw [wr64 (n := (i : Int) + 1) (by omega) (by omega), wr64 (n := (i : Int) + 1 - 1) (by omega) (by omega), Int.add_sub_cancel, idxL_nat, List.getElem?_map, List.getElem?_eq_getElem hi]
    simp only [cond_false, Option.map_some, obS, intT, T_cell_v, T_int, s_Mod _ h1 h2]
    exact ⟨_, _, rfl, modV_lo _ h1, modV_hi _ h1, zs, rfl, hz, by omega, by omega⟩
theorem s_Light (L : List T) : u_brepkernelmade_Light (L, ()) = some (decide (L.length ≤ 500), ()) := by
  unfold u_brepkernelmade_Light
  simp only [leI_eq, lenL_eq]
  congr 2
  rw [Bool.eq_iff_iff]; simp; omega
theorem s_Roll (L : List T) : u_brepkernelmade_Roll (L, ()) = some (L, (0, ())) := rfl
end Go.Eng

/- Ledgers: what the functions give for entries with small bounds; the law of LedgerShifts. -/
namespace Go.Eng.Lg
open Go.Eng Go.Eng.Rt

/-- An entry. -/
structure E where
  s : Int
  k : Int
  q : Rat
def entT (e : E) : T := .agg [.v (.int .i64 e.s), .v (.int .i64 e.k), .v (.bool (rNeg e.q)), .sl 1 (rNum e.q), .sl 1 (rDen e.q)]
theorem c0 (e : E) : T.int? .i64 ((entT e).cell 0) = some e.s := by simp [entT]
theorem c1 (e : E) : T.int? .i64 ((entT e).cell 1) = some e.k := by simp [entT]
theorem c2 (e : E) : T.bool? ((entT e).cell 2) = some (rNeg e.q) := by simp [entT]
theorem c3 (e : E) : T.sl? 1 ((entT e).cell 3) = some (rNum e.q) := by simp [entT]
theorem c4 (e : E) : T.sl? 1 ((entT e).cell 4) = some (rDen e.q) := by simp [entT]
def goodE (e : E) : Bool := decide (0 ≤ e.s) && decide (e.s ≤ 2147483647) && decide (1 ≤ e.k) && decide (e.k ≤ 5) && decide (0 ≤ sgnQ e.q)
theorem e_proper {e : E} (h : Fit e.q) : u_ledger_proper (e.s, (e.k, (rNeg e.q, (rNum e.q, (rDen e.q, ()))))) = some (goodE e, ()) := by
  unfold u_ledger_proper goodE
  simp only [leI_eq, p_Sign h, obS]
  cases decide (0 ≤ e.s) <;> cases decide (e.s ≤ 2147483647) <;> cases decide (1 ≤ e.k) <;> cases decide (e.k ≤ 5) <;> rfl
theorem e_good (e : E) : u_ref40_good (e.s, (e.k, (rNeg e.q, (rNum e.q, (rDen e.q, ()))))) = some (goodE e, ()) := by
  unfold u_ref40_good goodE
  simp only [leI_eq, r_Sign, obS]
  cases decide (0 ≤ e.s) <;> cases decide (e.s ≤ 2147483647) <;> cases decide (1 ≤ e.k) <;> cases decide (e.k ≤ 5) <;> rfl
def Fits (l : List E) : Prop := ∀ e ∈ l, Fit e.q
theorem Fits.get {l : List E} (h : Fits l) {i : Nat} {e : E} (hi : l[i]? = some e) : Fit e.q := h e (List.mem_of_getElem? hi)
theorem ent_get (l : List E) (i : Nat) : (l.map entT)[i]? = (l[i]?).map entT := List.getElem?_map
def validL (l : List E) : Bool := decide (l.length ≤ 1024) && l.all goodE
/-- A scan for the first that is not good. -/
theorem scanE {S X : Type} {F : S → Option (S ⊕ X)} (l : List E) (st : Nat → S) (yes : X) (no : Nat → X) (p : E → Bool)
    (h : ∀ i e, l[i]? = some e → F (st i) = if p e then some (.inl (st (i + 1))) else some (.inr (no i))) (hend : F (st l.length) = some (.inr yes)) :
    ∃ i, loopU F (st 0) = some (if l.all p then yes else no i) := by
  have key : ∀ d i, i + d = l.length → ∃ j, loopU F (st i) = some (if (l.drop i).all p then yes else no j) := by
    intro d
    induction d with
    | zero =>
      intro i hi
      have : i = l.length := by omega
      subst this
      exact ⟨0, by rw [List.drop_length, loopU_out hend]; rfl⟩
    | succ d ih =>
      intro i hi
      have hlt : i < l.length := by omega
      have hc := h i _ (List.getElem?_eq_getElem hlt)
      rw [List.drop_eq_getElem_cons hlt]
      by_cases hp : p l[i] = true
      · rw [if_pos hp] at hc
        obtain ⟨j, hj⟩ := ih (i + 1) (by omega)
        exact ⟨j, by rw [loopU_go hc, hj, List.all_cons, hp, Bool.true_and]⟩
      · rw [if_neg hp] at hc
        exact ⟨i, by rw [loopU_out hc, List.all_cons, (Bool.not_eq_true _).mp hp, Bool.false_and]; rfl⟩
  obtain ⟨j, hj⟩ := key l.length 0 (by omega)
  exact ⟨j, by rw [hj, List.drop_zero]⟩
theorem e_RefValid (l : List E) (hl : l.length < 1000000) : u_ref40_Valid (l.map entT, ()) = some (validL l, ()) := by
  unfold u_ref40_Valid validL
  simp only [ltI_eq, lenL_eq, List.length_map]
  by_cases h : l.length ≤ 1024
  · rw [decide_eq_false (by omega), decide_eq_true h]
    obtain ⟨j, hj⟩ := scanE (F := u_ref40_Valid_l0) l (fun i => (l.map entT, ((i : Int), ()))) (.inr (.inl ())) (fun _ => .inl (false, ())) goodE (fun i e he => by
      have hlt : i < l.length := (List.getElem?_eq_some_iff.1 he).1
      unfold u_ref40_Valid_l0
      simp only [ltI_eq, lenL_eq, List.length_map, addI_eq, idxL_nat, ent_get, he, Option.map_some]
      rw [decide_eq_true (by omega), show (i : Int) + 1 = ((i + 1 : Nat) : Int) by omega, wri (by omega)]
      simp only [cond_true, obS, c0, c1, c2, c3, c4, e_good]
      cases goodE e <;> rfl) (by
      unfold u_ref40_Valid_l0
      simp only [ltI_eq, lenL_eq, List.length_map]
      rw [decide_eq_false (by omega)]; rfl)
    simp only [cond_false]
    rw [show (0 : Int) = ((0 : Nat) : Int) from rfl, hj]
    cases l.all goodE <;> rfl
  · rw [decide_eq_true (by omega), decide_eq_false h]; rfl
theorem e_Valid (l : List E) (hf : Fits l) (hl : l.length < 1000000) : u_ledger_Valid (l.map entT, ()) = some (validL l, ()) := by
  unfold u_ledger_Valid validL
  simp only [leI_eq, lenL_eq, List.length_map]
  by_cases h : l.length ≤ 1024
  · rw [decide_eq_true (by omega), decide_eq_true h]
    obtain ⟨j, hj⟩ := scanE (F := u_slices_IndexFunc___api_Entry_api_Entry__l0) l (fun i => (l.map entT, ((), ((l.length : Int), ((i : Int), ()))))) (.inr (.inl ())) (fun i => .inl ((i : Int), ())) goodE (fun i e he => by
      have hlt : i < l.length := (List.getElem?_eq_some_iff.1 he).1
      have hfe := hf.get he
      unfold u_slices_IndexFunc___api_Entry_api_Entry__l0 u_ledger_Valid_1
      simp only [ltI_eq, addI_eq, idxL_nat, ent_get, he, Option.map_some]
      rw [decide_eq_true (by omega), show (i : Int) + 1 = ((i + 1 : Nat) : Int) by omega, wri (by omega)]
      simp only [cond_true, obS, c0, c1, c2, c3, c4, e_proper hfe]
      cases goodE e <;> rfl) (by
      unfold u_slices_IndexFunc___api_Entry_api_Entry__l0
      simp only [ltI_eq]
      rw [decide_eq_false (by omega)]; rfl)
    unfold u_slices_ContainsFunc___api_Entry_api_Entry_ u_slices_IndexFunc___api_Entry_api_Entry_
    simp only [cond_true, lenL_eq, List.length_map]
    rw [show (0 : Int) = ((0 : Nat) : Int) from rfl, hj]
    cases l.all goodE
    · simp only [Bool.false_eq_true, if_false, obS, onS_l, leI_eq]
      rw [decide_eq_true (by omega)]; rfl
    · simp
  · rw [decide_eq_false (by omega), decide_eq_false h]; rfl
/-! own.Ledger -/
theorem e_Entry {e : E} (h : Fit e.q) : u_own_Entry (e.s, (e.k, (rNeg e.q, (rNum e.q, (rDen e.q, ()))))) = some (e.s, (e.k, (rNeg e.q, (rNum e.q, (rDen e.q, ()))))) := by
  unfold u_own_Entry
  simp only [p_Rat h, obS]
def zeroT : T := .agg [.v (.int .i64 0), .v (.int .i64 0), .v (.bool false), .v (.slice none 0 0), .v (.slice none 0 0)]
theorem upd5 (x : T) (a b c d e : T) (hx : x.cells.length = 5) : T.upd 5 x 0 [a, b, c, d, e] = .agg [a, b, c, d, e] := by
  unfold T.upd
  have : x.cells.take 0 ++ [a, b, c, d, e] ++ x.cells.drop (0 + [a, b, c, d, e].length) = [a, b, c, d, e] := by
    rw [List.take_zero, List.nil_append, List.drop_eq_nil_of_le (by simp [hx]), List.append_nil]
  rw [this]; rfl
theorem each_loop (l : List E) (hf : Fits l) (hl : l.length < 1000000) :
    loopU u_own_each_api_Entry__Entry_l0 ((), (List.replicate l.length zeroT, (l.map entT, ((l.length : Int), ((0 : Int), ()))))) = some (.inl (l.map entT, ())) := by
  have key : ∀ i, i ≤ l.length → loopU u_own_each_api_Entry__Entry_l0 ((), (List.replicate l.length zeroT, (l.map entT, ((l.length : Int), ((0 : Int), ()))))) =
      loopU u_own_each_api_Entry__Entry_l0 ((), ((l.take i).map entT ++ List.replicate (l.length - i) zeroT, (l.map entT, ((l.length : Int), ((i : Int), ()))))) := by
    intro i
    induction i with
    | zero => intro _; simp
    | succ i ih =>
      intro hi
      have hlt : i < l.length := hi
      have he := List.getElem?_eq_getElem hlt
      have hfe := hf.get he
      rw [ih (by omega)]
      have hlen : ((l.take i).map entT ++ List.replicate (l.length - i) zeroT).length = l.length := by simp; omega
      have hti : ((l.take i).map entT).length = i := by simp; omega
      refine loopU_go ?_
      unfold u_own_each_api_Entry__Entry_l0
      simp only [ltI_eq, addI_eq, idxL_nat, ent_get, he, Option.map_some, lenL_eq, hlen]
      rw [decide_eq_true (by omega), show (i : Int) + 1 = ((i + 1 : Nat) : Int) by omega, wri (by omega), chkI_nat (by omega)]
      simp only [cond_true, obS, c0, c1, c2, c3, c4, e_Entry hfe, idxN_eq]
      have hz : ((l.take i).map entT ++ List.replicate (l.length - i) zeroT)[i]? = some zeroT := by
        rw [List.getElem?_append_right (by omega), hti, Nat.sub_self, List.getElem?_replicate, if_pos (by omega)]
      rw [hz]
      simp only [obS]
      rw [upd5 _ _ _ _ _ _ rfl]
      congr 5
      rw [List.set_append_right _ _ (by omega), hti, Nat.sub_self, show l.length - i = (l.length - (i + 1)) + 1 by omega, List.replicate_succ, List.set_cons_zero, List.take_succ_eq_append_getElem hlt, List.map_append, List.append_assoc]
      rfl
  rw [key l.length (Nat.le_refl _), List.take_length, Nat.sub_self, List.replicate_zero, List.append_nil]
  refine loopU_out ?_
  unfold u_own_each_api_Entry__Entry_l0
  simp only [ltI_eq]
  rw [decide_eq_false (by omega)]; rfl
theorem e_Ledger (l : List E) (hf : Fits l) (hl : l.length < 1000000) : u_own_Ledger (l.map entT, ()) = some (l.map entT, ()) := by
  unfold u_own_Ledger u_own_each_api_Entry__Entry
  simp only [lenL_eq, List.length_map]
  rw [mkLen_ok (by omega) (by omega) (by omega) (by decide)]
  simp only [obS, Int.toNat_natCast, repL_eq]
  have := each_loop l hf hl
  unfold zeroT at this
  rw [this]
  simp only [obS, onS_l]
  unfold nilL
  cases l with
  | nil => rw [show ([] : List E).map entT = [] from rfl]; simp only [List.isEmpty_nil, cond_true]; rw [bothU_eq (r := ([], ())) rfl rfl]; rfl
  | cons e l => rfl

/-! Shift -/
def shE (z : Int) (e : E) : E := { e with s := e.s + z }
theorem updS (e : E) (z : Int) : T.upd 5 (entT e) 0 [T.v (.int .i64 z)] = entT { e with s := z } := by
  unfold T.upd entT; rfl
theorem shift_loop (l : List E) (hf : Fits l) (hl : l.length < 1000000) (z : Int) (hz : -100000 ≤ z ∧ z ≤ 100000) (hs : ∀ e ∈ l, -1000000 ≤ e.s ∧ e.s ≤ 1000000) (hg : ∀ e ∈ l, goodE (shE z e) = true) :
    loopU u_ledger_Shift_l0 (z, (l.map entT, ((l.length : Int), ((0 : Int), ())))) = some (.inr (.inl ((l.map (shE z)).map entT, ()))) := by
  have key : ∀ i, i ≤ l.length → loopU u_ledger_Shift_l0 (z, (l.map entT, ((l.length : Int), ((0 : Int), ())))) =
      loopU u_ledger_Shift_l0 (z, (((l.take i).map (shE z) ++ l.drop i).map entT, ((l.length : Int), ((i : Int), ())))) := by
    intro i
    induction i with
    | zero => intro _; simp
    | succ i ih =>
      intro hi
      have hlt : i < l.length := hi
      have he := List.getElem?_eq_getElem hlt
      have hmem : l[i] ∈ l := List.getElem_mem hlt
      have hfe := hf _ hmem
      have hse := hs _ hmem
      have hge := hg _ hmem
      rw [ih (by omega)]
      have hlen : ((l.take i).map (shE z) ++ l.drop i).length = l.length := by simp; omega
      have hti : ((l.take i).map (shE z)).length = i := by simp; omega
      have hget : ((l.take i).map (shE z) ++ l.drop i)[i]? = some l[i] := by
        rw [List.getElem?_append_right (by omega), hti, Nat.sub_self, List.drop_eq_getElem_cons hlt]; rfl
      have hset : ((l.take i).map (shE z) ++ l.drop i).set i (shE z l[i]) = (l.take (i + 1)).map (shE z) ++ l.drop (i + 1) := by
        rw [List.set_append_right _ _ (by omega), hti, Nat.sub_self, List.drop_eq_getElem_cons hlt, List.set_cons_zero, List.take_succ_eq_append_getElem hlt, List.map_append, List.append_assoc]
        rfl
      refine loopU_go ?_
      unfold u_ledger_Shift_l0
      simp only [ltI_eq, addI_eq, lenL_eq, List.length_map, hlen]
      rw [decide_eq_true (by omega), chkI_nat (by omega)]
      simp only [cond_true, obS, idxN_eq, ent_get, hget, Option.map_some, c0]
      rw [wri' (n := l[i].s + z) (by omega) (by omega), updS]
      have e1 : ({ l[i] with s := l[i].s + z } : E) = shE z l[i] := rfl
      have e2 : (((l.take i).map (shE z) ++ l.drop i).map entT).set i (entT (shE z l[i])) = ((l.take (i + 1)).map (shE z) ++ l.drop (i + 1)).map entT := by
        rw [← List.map_set, hset]
      have hget' : ((l.take (i + 1)).map (shE z) ++ l.drop (i + 1))[i]? = some (shE z l[i]) := by
        rw [← hset, List.getElem?_set_self (by omega)]
      rw [e1, e2]
      simp only [List.length_map]
      have hlen' : ((l.take (i + 1)).map (shE z) ++ l.drop (i + 1)).length = l.length := by rw [← hset, List.length_set, hlen]
      rw [hlen', chkI_nat (by omega), show (i : Int) + 1 = ((i + 1 : Nat) : Int) by omega, wri (by omega)]
      simp only [obS, idxN_eq, ent_get, hget', Option.map_some, c0, c1, c2, c3, c4]
      have hfe' : Fit (shE z l[i]).q := hfe
      rw [e_proper hfe', hge]
      rfl
  rw [key l.length (Nat.le_refl _), List.take_length, List.drop_length, List.append_nil]
  refine loopU_out ?_
  unfold u_ledger_Shift_l0
  simp only [ltI_eq]
  rw [decide_eq_false (by omega)]; rfl
theorem e_Shift (l : List E) (hf : Fits l) (hl : l.length < 1000000) (z : Int) (hz : -100000 ≤ z ∧ z ≤ 100000) (hs : ∀ e ∈ l, -1000000 ≤ e.s ∧ e.s ≤ 1000000) (hg : ∀ e ∈ l, goodE (shE z e) = true) (hv : validL l = true) :
    u_ledger_Shift (l.map entT, (z, ())) = some ((l.map (shE z)).map entT, (0, ())) := by
  have hloop := shift_loop l hf hl z hz hs hg
  unfold u_ledger_Shift
  simp only [e_Valid l hf hl, hv, obS, Bool.not_true, cond_false, ltI_eq, lenL_eq, List.length_map, e_Ledger l hf hl, hloop, onS_r, onS_l]
  rw [decide_eq_false (show ¬ z < -2147483647 by omega), decide_eq_false (show ¬ 2147483647 < z by omega)]
  simp
theorem e_ShiftBad (l : List E) (hf : Fits l) (hl : l.length < 1000000) (z : Int) (hv : validL l = false) : u_ledger_Shift (l.map entT, (z, ())) = some ([], (1, ())) := by
  unfold u_ledger_Shift
  simp only [e_Valid l hf hl, hv, obS, Bool.not_false, cond_true]

/-! sums -/
def sumQ (l : List E) : Rat := l.foldl (fun a e => a + e.q) 0
theorem sumQ_snoc (l : List E) (e : E) : sumQ (l ++ [e]) = sumQ l + e.q := by unfold sumQ; rw [List.foldl_append]; rfl
theorem sum_en (l : List E) (h : ∀ e ∈ l, En 60 480 e.q) : En 60 (480 * l.length) (sumQ l) := by
  have key : ∀ k (l : List E), l.length = k → (∀ e ∈ l, En 60 480 e.q) → En 60 (480 * k) (sumQ l) := by
    intro k
    induction k with
    | zero =>
      intro l hl _
      have := List.eq_nil_of_length_eq_zero hl
      subst this
      exact En.zero
    | succ k ih =>
      intro l hl h
      have hne : l ≠ [] := by intro e; subst e; simp at hl
      obtain ⟨m, a, rfl⟩ : ∃ m a, l = m ++ [a] := ⟨l.dropLast, l.getLast hne, (List.dropLast_concat_getLast hne).symm⟩
      rw [sumQ_snoc]
      exact (En.add (by decide) (ih m (by simpa using hl) fun e he => h e (List.mem_append.2 (.inl he))) (h a (by simp))).mono (by omega)
  exact key _ l rfl h
theorem e_sum (l : List E) (h : ∀ e ∈ l, En 60 480 e.q) (hl : l.length ≤ 1024) : u_ledger_sum (l.map entT, ((), ())) = some (rNeg (sumQ l), (rNum (sumQ l), (rDen (sumQ l), ()))) := by
  have sm : ∀ k, k ≤ l.length → Sm (sumQ (l.take k)) := fun k hk => by
    have := sum_en (l.take k) fun e he => h e (List.mem_of_mem_take he)
    exact this.sm (by decide) (by decide) (by rw [List.length_take]; omega)
  let st : Nat → _ := fun (i : Nat) => (((), ((), ((), (l.map entT, ((l.length : Int), ((i : Int), (false, (T.v (.slice none 0 0), (T.v (.slice none 0 0), (rNeg (sumQ (l.take i)), (rNum (sumQ (l.take i)), (rDen (sumQ (l.take i)), ())))))))))))) : Unit × Unit × Unit × List T × Int × Int × Bool × T × T × Bool × List T × List T × Unit)
  have hgo : ∀ i, i < l.length → u_ledger_sum_l0 (st i) = some (.inl (st (i + 1))) := fun i hlt => by
    have he := List.getElem?_eq_getElem hlt
    have hq : Sm l[i].q := (h _ (List.getElem_mem hlt)).sm (by decide) (by decide) (by decide)
    unfold u_ledger_sum_l0 u_ledger_Total_1
    simp only [st, ltI_eq, addI_eq, idxL_nat, ent_get, he, Option.map_some]
    rw [decide_eq_true (by omega)]
    simp only [cond_true, obS, c0, c1, c2, c3, c4, p_Add (sm i (by omega)) hq, onS_l]
    rw [show (i : Int) + 1 = ((i + 1 : Nat) : Int) by omega, wri (by omega)]
    rw [List.take_succ_eq_append_getElem hlt, sumQ_snoc]
  have hall := loopU_for (F := u_ledger_sum_l0) l.length st hgo
  have h0 : st 0 = ((), ((), ((), (l.map entT, ((l.length : Int), ((0 : Int), (false, (T.v (.slice none 0 0), (T.v (.slice none 0 0), (false, ([], ([], ())))))))))))) := by
    simp only [st, List.take_zero]
    show _ = _
    rw [show sumQ [] = 0 from rfl, rNeg_zero, rNum_zero, rDen_zero]
    rfl
  have hend : loopU u_ledger_sum_l0 (st l.length) = some (.inl ((), ((), (false, (T.v (.slice none 0 0), (T.v (.slice none 0 0), (rNeg (sumQ l), (rNum (sumQ l), (rDen (sumQ l), ()))))))))) := by
    refine loopU_out ?_
    unfold u_ledger_sum_l0
    simp only [st, ltI_eq]
    rw [decide_eq_false (by omega), List.take_length]; rfl
  unfold u_ledger_sum
  simp only [lenL_eq, List.length_map]
  rw [← h0, hall, hend]
  have fit : Fit (sumQ l) := by have := sm l.length (Nat.le_refl _); rw [List.take_length] at this; exact this.fit
  simp only [obS, onS_l, p_Rat fit]
theorem e_Total (l : List E) (h : ∀ e ∈ l, En 60 480 e.q) (hl : l.length ≤ 1024) (hv : validL l = true) : u_ledger_Total (l.map entT, ()) = some (rNeg (sumQ l), (rNum (sumQ l), (rDen (sumQ l), (true, ())))) := by
  have hf : Fits l := fun e he => ((h e he).sm (by decide) (by decide) (by decide)).fit
  unfold u_ledger_Total
  simp only [e_Valid l hf (by omega), hv, obS, Bool.not_true, cond_false, e_sum l h hl]
theorem e_Same (l : List E) (hf : Fits l) (hl : l.length < 1000000) : u_ref29_EqualLedger (l.map entT, (l.map entT, ())) = some (true, ()) := by
  unfold u_ref29_EqualLedger
  simp only [lenL_eq, eqI_eq, decide_true, Bool.not_true, cond_false]
  have hall := loopU_for (F := u_ref29_EqualLedger_l0) l.length (fun (i : Nat) => (l.map entT, (l.map entT, ((i : Int), ())))) (fun i hlt => by
    have he := List.getElem?_eq_getElem hlt
    have hfe := hf _ (List.getElem_mem hlt)
    unfold u_ref29_EqualLedger_l0
    simp only [ltI_eq, addI_eq, idxL_nat, ent_get, he, Option.map_some, lenL_eq, List.length_map, eqI_eq]
    rw [decide_eq_true (by omega), show (i : Int) + 1 = ((i + 1 : Nat) : Int) by omega, wri (by omega)]
    simp only [cond_true, obS, c0, c1, c2, c3, c4, r_Same hfe hfe, decide_true, Bool.not_true, cond_false])
  rw [show (0 : Int) = ((0 : Nat) : Int) from rfl, hall, loopU_out (e := .inr (.inl ())) (by
    unfold u_ref29_EqualLedger_l0
    simp only [ltI_eq, lenL_eq, List.length_map]
    rw [decide_eq_false (by omega)]; rfl)]
  rfl

/-! the dice's entries -/
def Small (e : E) : Prop := (-1000 ≤ e.s ∧ e.s ≤ 1000) ∧ (En 60 480 e.q ∨ En 60 480 (-e.q))
theorem s_Bool {L : List T} {a : Int} (h : DiceOK L a) {n : Int} (h1 : 0 < n) (h2 : n ≤ 4611686018427387904) : ∃ b a', u___brepkernelmade_Dice__Bool ((), (n, (L, (a, ())))) = some (b, (L, (a', ()))) ∧ DiceOK L a' := by
  obtain ⟨v, a', e, _, _, h'⟩ := s_Next h h1 h2
  unfold u___brepkernelmade_Dice__Bool
  rw [e]
  exact ⟨_, a', rfl, h'⟩
theorem frac_en {n d : Int} (hn : 0 ≤ n ∧ n ≤ 8) (hd : 1 ≤ d ∧ d ≤ 6) : En 60 480 (fracQ n d) := by
  rw [fracQ_pos (by omega)]
  obtain ⟨n', rfl⟩ := Int.eq_ofNat_of_zero_le hn.1
  obtain ⟨d', rfl⟩ := Int.eq_ofNat_of_zero_le (show 0 ≤ d by omega)
  have : d' = 1 ∨ d' = 2 ∨ d' = 3 ∨ d' = 4 ∨ d' = 5 ∨ d' = 6 := by omega
  refine En.frac (by simp; omega) (by decide) ?_ ?_
  · rcases this with rfl | rfl | rfl | rfl | rfl | rfl <;> decide
  · rcases this with rfl | rfl | rfl | rfl | rfl | rfl <;> simp <;> omega
theorem entries_step {L : List T} {a : Int} (hD : DiceOK L a) {l : List E} {i : Int} (hi : 0 < i) (hi2 : i ≤ 1000) (hl : l.length + i.toNat ≤ 1000) (hS : ∀ e ∈ l, Small e) :
    ∃ e a', u___brepkernelmade_Dice__Entries_l0 ((), (l.map entT, (i, (L, (a, ()))))) = some (.inl ((), ((l ++ [e]).map entT, (i - 1, (L, (a', ())))))) ∧ DiceOK L a' ∧ Small e := by
  obtain ⟨v1, a1, e1, p1, q1, D1⟩ := s_Next hD (n := 4) (by omega) (by omega)
  obtain ⟨v2, a2, e2, p2, q2, D2⟩ := s_Next D1 (n := 5) (by omega) (by omega)
  obtain ⟨v3, a3, e3, p3, q3, D3⟩ := s_Next D2 (n := 9) (by omega) (by omega)
  obtain ⟨v4, a4, e4, p4, q4, D4⟩ := s_Next D3 (n := 6) (by omega) (by omega)
  have w4 : wr .i64 (1 + v4) = 1 + v4 := wri' (by omega) (by omega)
  have w2 : wr .i64 (1 + v2) = 1 + v2 := wri' (by omega) (by omega)
  have fr := r_Frac (n := v3) (d := 1 + v4) (by omega) (by omega) (by omega) (by omega) (by omega)
  have en := frac_en (n := v3) (d := 1 + v4) ⟨p3, by omega⟩ ⟨by omega, by omega⟩
  generalize fracQ v3 (1 + v4) = q at *
  obtain ⟨b1, a5, f1, D5⟩ := s_Bool D4 (n := 15) (by omega) (by omega)
  obtain ⟨v6, a6, e6, p6, q6, D6⟩ := s_Next D5 (n := 2) (by omega) (by omega)
  have w6 : wr .i64 (0 - v6) = 0 - v6 := wri' (by omega) (by omega)
  have wi : wr .i64 (i - 1) = i - 1 := wri' (by omega) (by omega)
  -- after the first change
  obtain ⟨s, a7, hs, D7, h1⟩ : ∃ (s a7 : Int), (-1000 ≤ s ∧ s ≤ 1000) ∧ DiceOK L a7 ∧ (s = (bif b1 then 0 - v6 else v1) ∧ a7 = (bif b1 then a6 else a5)) := by
    cases b1
    · exact ⟨v1, a5, ⟨by omega, by omega⟩, D5, rfl, rfl⟩
    · exact ⟨0 - v6, a6, ⟨by omega, by omega⟩, D6, rfl, rfl⟩
  obtain ⟨b2, a8, f2, D8⟩ := s_Bool D7 (n := 15) (by omega) (by omega)
  obtain ⟨v9, a9, e9, p9, q9, D9⟩ := s_Next D8 (n := 8) (by omega) (by omega)
  obtain ⟨k, a10, D10, h2⟩ : ∃ (k a10 : Int), DiceOK L a10 ∧ (k = (bif b2 then v9 else 1 + v2) ∧ a10 = (bif b2 then a9 else a8)) := by
    cases b2
    · exact ⟨1 + v2, a8, D8, rfl, rfl⟩
    · exact ⟨v9, a9, D9, rfl, rfl⟩
  obtain ⟨b3, a11, f3, D11⟩ := s_Bool D10 (n := 20) (by omega) (by omega)
  have ng := r_Neg q
  refine ⟨⟨s, k, bif b3 then -q else q⟩, a11, ?_, D11, hs, ?_⟩
  · unfold u___brepkernelmade_Dice__Entries_l0
    simp only [ltI_eq, subI_eq, addI_eq]
    rw [decide_eq_true hi]
    simp only [cond_true, e1, e2, e3, e4, obS, w4, fr, f1, e6, w6, w2]
    have hroom : ∀ t : T, room (l.map entT) [t] 72 = some (l.map entT ++ [t]) := fun t => room_ok (by simp; omega) (by decide)
    obtain ⟨h11, h12⟩ := h1
    obtain ⟨h21, h22⟩ := h2
    subst h11; subst h12; subst h21; subst h22
    cases b1 <;> simp only [cond_true, cond_false, obS, onS_l] at f2 e9 f3 ⊢ <;> rw [f2] <;> simp only [obS, e9] <;>
      cases b2 <;> simp only [cond_true, cond_false, obS, onS_l] at f3 ⊢ <;> rw [f3] <;> simp only [obS, ng] <;>
      cases b3 <;> simp only [cond_true, cond_false, obS, onS_l, hroom, wi] <;> simp [entT]
  · cases b3
    · exact .inl en
    · exact .inr (by simpa using en)
theorem e_Entries {L : List T} {a : Int} (hD : DiceOK L a) {n : Int} (hn : 0 ≤ n) (hn2 : n ≤ 100) :
    ∃ (l : List E) (a' : Int), u___brepkernelmade_Dice__Entries ((), (n, (L, (a, ())))) = some ((l.map entT : List T), (L, (a', ()))) ∧ DiceOK L a' ∧ l.length ≤ n.toNat ∧ ∀ e ∈ l, Small e := by
  obtain ⟨v, a0, e0, p0, q0, D0⟩ := s_Next hD (n := n + 1) (by omega) (by omega)
  have key : ∀ (d : Nat) (l : List E) (a : Int), d + l.length ≤ n.toNat → DiceOK L a → (∀ e ∈ l, Small e) → ∃ (l' : List E) (a' : Int), loopU u___brepkernelmade_Dice__Entries_l0 ((), (l.map entT, ((d : Int), (L, (a, ()))))) = some (.inl (l'.map entT, (L, (a', ())))) ∧ DiceOK L a' ∧ l'.length ≤ n.toNat ∧ ∀ e ∈ l', Small e := by
    intro d
    induction d with
    | zero =>
      intro l a hl hD hS
      refine ⟨l, a, loopU_out ?_, hD, by omega, hS⟩
      unfold u___brepkernelmade_Dice__Entries_l0
      simp only [ltI_eq]
      rw [decide_eq_false (by omega)]; rfl
    | succ d ih =>
      intro l a hl hD hS
      obtain ⟨e, a', h1, h2, h3⟩ := entries_step hD (l := l) (i := ((d + 1 : Nat) : Int)) (by omega) (by omega) (by simp; omega) hS
      rw [loopU_go h1, show ((d + 1 : Nat) : Int) - 1 = (d : Int) by omega]
      exact ih (l ++ [e]) a' (by simp; omega) h2 (fun x hx => by
        rcases List.mem_append.1 hx with hx | hx
        · exact hS x hx
        · simp at hx; subst hx; exact h3)
  obtain ⟨d, rfl⟩ := Int.eq_ofNat_of_zero_le p0
  obtain ⟨l, a', h1, h2, h3, h4⟩ := key d [] a0 (by simp; omega) D0 (fun e he => by cases he)
  refine ⟨l, a', ?_, h2, h3, h4⟩
  unfold u___brepkernelmade_Dice__Entries
  simp only [addI_eq]
  rw [wri' (by omega) (by omega), e0]
  simp only [obS]
  rw [show ([] : List T) = ([] : List E).map entT from rfl, h1]
  simp only [obS, onS_l]

/-! the example -/
theorem e_sane : u_brepkernellaw40_sane () = some (true, ()) := by
  have f1 := r_Frac (n := 1) (d := 2) (by omega) (by omega) (by omega) (by omega) (by omega)
  have f2 := r_Frac (n := 1) (d := 3) (by omega) (by omega) (by omega) (by omega) (by omega)
  have f3 := r_Frac (n := 5) (d := 6) (by omega) (by omega) (by omega) (by omega) (by omega)
  have f4 := r_Frac (n := 4) (d := 5) (by omega) (by omega) (by omega) (by omega) (by omega)
  let l : List E := [⟨0, 2, fracQ 1 2⟩, ⟨0, 3, fracQ 1 3⟩]
  have hen : ∀ e ∈ l, En 60 480 e.q := fun e he => by
    simp only [l, List.mem_cons, List.not_mem_nil, or_false] at he
    rcases he with rfl | rfl
    · exact frac_en (n := 1) (d := 2) ⟨by omega, by omega⟩ ⟨by omega, by omega⟩
    · exact frac_en (n := 1) (d := 3) ⟨by omega, by omega⟩ ⟨by omega, by omega⟩
  have hv : validL l = true := by decide +kernel
  have hs : sumQ l = fracQ 5 6 := by decide +kernel
  have tot := e_Total l hen (by decide) hv
  rw [hs] at tot
  have sm5 : Sm (fracQ 5 6) := by unfold Sm; decide +kernel
  have sm4 : Sm (fracQ 4 5) := by unfold Sm; decide +kernel
  have hl : l.map entT = [T.agg [.v (.int .i64 0), .v (.int .i64 2), .v (.bool (rNeg (fracQ 1 2))), .sl 1 (rNum (fracQ 1 2)), .sl 1 (rDen (fracQ 1 2))], T.agg [.v (.int .i64 0), .v (.int .i64 3), .v (.bool (rNeg (fracQ 1 3))), .sl 1 (rNum (fracQ 1 3)), .sl 1 (rDen (fracQ 1 3))]] := rfl
  rw [hl] at tot
  unfold u_brepkernellaw40_sane u_ledger_Within
  simp only [f1, f2, f3, f4, tot, obS, cond_true, r_Same sm5.fit sm5.fit, decide_true, p_Cmp sm5 sm5, p_Cmp sm5 sm4, leI_eq]
  rw [show cmpQ (fracQ 5 6) (fracQ 5 6) = 0 by decide +kernel, show cmpQ (fracQ 5 6) (fracQ 4 5) = 1 by decide +kernel]
  rfl

/-! LedgerShifts -/
theorem small_fit {e : E} (h : Small e) : Fit e.q := by
  rcases h.2 with h | h
  · exact (h.sm (by decide) (by decide) (by decide)).fit
  · have h2 := (h.sm (by decide) (by decide) (by decide)).fit
    unfold Fit at h2 ⊢
    rw [Rat.neg_num, Int.natAbs_neg, Rat.neg_den] at h2
    exact h2
theorem valid_en {l : List E} (hS : ∀ e ∈ l, Small e) (hv : validL l = true) : ∀ e ∈ l, En 60 480 e.q := fun e he => by
  rcases (hS e he).2 with h | h
  · exact h
  · unfold validL at hv
    simp only [Bool.and_eq_true, List.all_eq_true] at hv
    have hg := hv.2 e he
    unfold goodE at hg
    simp only [Bool.and_eq_true, decide_eq_true_eq] at hg
    have hn := h.nn (by decide)
    have h0 : ¬ e.q.num < 0 := by rcases sgnQ_vals e.q with ⟨a, b⟩ | ⟨a, b⟩ | ⟨a, b⟩ <;> first | omega | (rw [b]; decide)
    have h1 : ¬ (-e.q).num < 0 := of_decide_eq_false hn
    rw [Rat.neg_num] at h1
    have : e.q = 0 := Rat.num_eq_zero.1 (by omega)
    rw [this]
    exact En.zero
theorem sum_shift (z : Int) (l : List E) : sumQ (l.map (shE z)) = sumQ l := by
  unfold sumQ
  rw [List.foldl_map]
  rfl
theorem law_shifts (zs : List Int) (n : Int) (hn : 0 ≤ n ∧ n ≤ 65535) : u_brepkernellaw40_LedgerShifts (zs.map intT, (n, ())) = some (true, ()) := by
  unfold u_brepkernellaw40_LedgerShifts
  rw [s_Light]
  simp only [obS, e_sane]
  by_cases hL : (zs.map intT).length ≤ 500
  · rw [decide_eq_true hL]
    simp only [Bool.not_true, cond_false, s_Roll, obS]
    obtain ⟨l, a', h1, h2, h3, h4⟩ := e_Entries (L := zs.map intT) (a := 0) ⟨zs, rfl, by simp at hL; omega, by omega, by omega⟩ (n := 6) (by omega) (by omega)
    have hf : Fits l := fun e he => small_fit (h4 e he)
    have hl : l.length < 1000000 := by have : (6 : Int).toNat = 6 := rfl; omega
    rw [h1]
    simp only [obS]
    rw [wri' (n := n) (by omega) (by omega)]
    cases hv : validL l with
    | false =>
      simp only [e_ShiftBad l hf hl n hv, obS, eqI_eq, e_RefValid l hl, hv]
      rfl
    | true =>
      have hgood : ∀ e ∈ l, goodE e = true := by
        unfold validL at hv
        simp only [Bool.and_eq_true, List.all_eq_true] at hv
        exact hv.2
      have hparts : ∀ e ∈ l, 0 ≤ e.s ∧ e.s ≤ 1000 ∧ 1 ≤ e.k ∧ e.k ≤ 5 ∧ 0 ≤ sgnQ e.q := fun e he => by
        have := hgood e he
        unfold goodE at this
        simp only [Bool.and_eq_true, decide_eq_true_eq] at this
        have h5 := (h4 e he).1
        omega
      have hg1 : ∀ e ∈ l, goodE (shE n e) = true := fun e he => by
        have := hparts e he
        unfold goodE shE
        simp only [Bool.and_eq_true, decide_eq_true_eq]
        omega
      have hx : validL (l.map (shE n)) = true := by
        unfold validL
        simp only [Bool.and_eq_true, List.all_eq_true, decide_eq_true_eq, List.length_map]
        refine ⟨by have : (6 : Int).toNat = 6 := rfl; omega, fun e he => ?_⟩
        obtain ⟨e0, he0, rfl⟩ := List.mem_map.1 he
        exact hg1 e0 he0
      have hfx : Fits (l.map (shE n)) := fun e he => by
        obtain ⟨e0, he0, rfl⟩ := List.mem_map.1 he
        exact hf e0 he0
      have hback : (l.map (shE n)).map (shE (-n)) = l := by
        rw [List.map_map]
        refine (List.map_congr_left (fun e _ => ?_)).trans (List.map_id l)
        show ({ e with s := e.s + n + -n } : E) = e
        rw [Int.add_neg_cancel_right]
      have s1 := e_Shift l hf hl n (by omega) (fun e he => by have := hparts e he; omega) hg1 hv
      have s2 := e_Shift (l.map (shE n)) hfx (by simpa using hl) (-n) (by omega) (fun e he => by
        obtain ⟨e0, he0, rfl⟩ := List.mem_map.1 he
        have := hparts e0 he0
        show -1000000 ≤ e0.s + n ∧ e0.s + n ≤ 1000000
        omega) (fun e he => by
        obtain ⟨e0, he0, rfl⟩ := List.mem_map.1 he
        have h5 := hgood e0 he0
        have h6 : shE (-n) (shE n e0) = e0 := by
          show ({ e0 with s := e0.s + n + -n } : E) = e0
          rw [Int.add_neg_cancel_right]
        rw [h6]; exact h5) hx
      rw [hback] at s2
      have en := valid_en h4 hv
      have enx : ∀ e ∈ l.map (shE n), En 60 480 e.q := fun e he => by
        obtain ⟨e0, he0, rfl⟩ := List.mem_map.1 he
        exact en e0 he0
      have hl2 : l.length ≤ 1024 := by have : (6 : Int).toNat = 6 := rfl; omega
      have t1 := e_Total l en hl2 hv
      have t2 := e_Total (l.map (shE n)) enx (by simpa using hl2) hx
      rw [sum_shift] at t2
      have fitS : Fit (sumQ l) := ((sum_en l en).sm (by decide) (by decide) (by omega)).fit
      simp only [s1, obS, eqI_eq, subI_eq, decide_true, Bool.not_true, cond_false]
      rw [wri' (n := 0 - n) (by omega) (by omega), show 0 - n = -n by omega]
      simp only [s2, t1, t2, obS, decide_true, cond_true, e_Same l hf hl, r_Same fitS fitS]
  · rw [decide_eq_false hL]; rfl
end Go.Eng.Lg
