/- The functions and the laws of this seat in plain words; each statement names its conditions. -/
import Derived.Test.YtfocnnocifhdhaaDoorGen
import Derived.Test.YtfocnnocifhdhaaDoorEng2
set_option linter.unusedSimpArgs false
set_option linter.unusedVariables false

/- What the dice give. -/
namespace Go.Eng
theorem tmod_lo (a : Int) {b : Int} (h : 0 < b) : -b < a.tmod b := by
  rcases Int.lt_or_le a 0 with ha | ha
  · have h1 : (-(-a)).tmod b = -((-a).tmod b) := Int.neg_tmod (-a) b
    rw [Int.neg_neg] at h1
    have h2 : (-a).tmod b < b := by rw [Int.tmod_eq_emod_of_nonneg (by omega)]; exact Int.emod_lt_of_pos _ h
    omega
  · have : 0 ≤ a.tmod b := by rw [Int.tmod_eq_emod_of_nonneg ha]; exact Int.emod_nonneg _ (by omega)
    omega
theorem tmod_hi (a : Int) {b : Int} (h : 0 < b) : a.tmod b < b := by
  rcases Int.lt_or_le a 0 with ha | ha
  · have h1 : (-(-a)).tmod b = -((-a).tmod b) := Int.neg_tmod (-a) b
    rw [Int.neg_neg] at h1
    have h2 : 0 ≤ (-a).tmod b := by rw [Int.tmod_eq_emod_of_nonneg (by omega)]; exact Int.emod_nonneg _ (by omega)
    omega
  · rw [Int.tmod_eq_emod_of_nonneg ha]; exact Int.emod_lt_of_pos _ h
def modV (a n : Int) : Int := if a.tmod n < 0 then a.tmod n + n else a.tmod n
theorem modV_lo (a : Int) {n : Int} (h : 0 < n) : 0 ≤ modV a n := by
  unfold modV
  have := tmod_lo a h
  split <;> omega
theorem modV_hi (a : Int) {n : Int} (h : 0 < n) : modV a n < n := by
  unfold modV
  have := tmod_hi a h
  split <;> omega
theorem s_Mod (a : Int) {n : Int} (h1 : 0 < n) (h2 : n ≤ 4611686018427387904) : u_brepkernelmade_Mod (a, (n, ())) = some (modV a n, ()) := by
  unfold u_brepkernelmade_Mod modV
  have := tmod_lo a h1
  have := tmod_hi a h1
  rw [nz_eq (show n ≠ 0 by omega)]
  simp only [obS, modI_eq, ltI_eq, addI_eq]
  by_cases h : a.tmod n < 0
  · rw [decide_eq_true h, if_pos h, wr64 (by omega) (by omega)]; rfl
  · rw [decide_eq_false h, if_neg h]; rfl

def intT (z : Int) : T := .v (.int .i64 z)
/-- The dice: numbers, and a place among them. -/
def DiceOK (L : List T) (a : Int) : Prop := ∃ zs : List Int, L = zs.map intT ∧ zs.length ≤ 1000000 ∧ 0 ≤ a ∧ a ≤ zs.length
theorem s_Next {L : List T} {a : Int} (h : DiceOK L a) {n : Int} (h1 : 0 < n) (h2 : n ≤ 4611686018427387904) :
    ∃ v a', u___brepkernelmade_Dice__Next ((), (n, (L, (a, ())))) = some (v, (L, (a', ()))) ∧ 0 ≤ v ∧ v < n ∧ DiceOK L a' := by
  obtain ⟨zs, rfl, hz, ha0, ha1⟩ := h
  unfold u___brepkernelmade_Dice__Next
  simp only [leI_eq, lenL_eq, List.length_map, addI_eq, subI_eq]
  by_cases hc : (zs.length : Int) ≤ a
  · rw [decide_eq_true hc]
    exact ⟨0, a, rfl, Int.le_refl _, h1, zs, rfl, hz, ha0, ha1⟩
  · rw [decide_eq_false hc]
    obtain ⟨i, rfl⟩ := Int.eq_ofNat_of_zero_le ha0
    have hi : i < zs.length := by omega
    rw [wr64 (n := (i : Int) + 1) (by omega) (by omega), wr64 (n := (i : Int) + 1 - 1) (by omega) (by omega), Int.add_sub_cancel, idxL_nat, List.getElem?_map, List.getElem?_eq_getElem hi]
    simp only [cond_false, Option.map_some, obS, intT, T_cell_v, T_int, s_Mod _ h1 h2]
    exact ⟨_, _, rfl, modV_lo _ h1, modV_hi _ h1, zs, rfl, hz, by omega, by omega⟩
theorem s_Light (L : List T) : u_brepkernelmade_Light (L, ()) = some (decide (L.length ≤ 500), ()) := by
  unfold u_brepkernelmade_Light
  simp only [leI_eq, lenL_eq]
  congr 2
  rw [Bool.eq_iff_iff]; simp; omega
theorem s_Roll (L : List T) : u_brepkernelmade_Roll (L, ()) = some (L, (0, ())) := rfl
end Go.Eng

/- Names: the functions told on lists of bytes. -/
namespace Go.Eng.Np
open Go.Eng

def mx : Nat := 1000000
theorem ltn (a b : Nat) : decide ((a : Int) < (b : Int)) = decide (a < b) := by simp
theorem wr_succ {n : Nat} (h : n < mx) : wr .i64 ((n : Int) + 1) = ((n + 1 : Nat) : Int) := by unfold mx at h; rw [wr64 (by omega) (by omega)]; omega
theorem get_lt {α : Type} {l : List α} {i : Nat} {c : α} (h : l[i]? = some c) : i < l.length := (List.getElem?_eq_some_iff.1 h).1
theorem drop_get {α : Type} {l : List α} {i : Nat} {c : α} (h : l[i]? = some c) : l.drop i = c :: l.drop (i + 1) := by
  obtain ⟨h1, rfl⟩ := List.getElem?_eq_some_iff.1 h
  exact List.drop_eq_getElem_cons h1
theorem all_loop {α S E : Type} {F : S → Option (S ⊕ E)} (st : Nat → S) (good bad : E) (p : α → Bool) (l : List α)
    (h : ∀ i c, l[i]? = some c → F (st i) = bif p c then some (.inl (st (i + 1))) else some (.inr bad)) (hend : F (st l.length) = some (.inr good)) :
    ∀ i, i ≤ l.length → loopU F (st i) = some (bif (l.drop i).all p then good else bad) := by
  have key : ∀ d i, i + d = l.length → loopU F (st i) = some (bif (l.drop i).all p then good else bad) := by
    intro d
    induction d with
    | zero =>
      intro i hi
      have : i = l.length := by omega
      subst this
      simp [loopU_out hend]
    | succ d ih =>
      intro i hi
      have hlt : i < l.length := by omega
      have hc := h i l[i] (List.getElem?_eq_getElem hlt)
      rw [List.drop_eq_getElem_cons hlt, List.all_cons]
      cases hp : p l[i] with
      | true => rw [hp, cond_true] at hc; rw [loopU_go hc, ih (i + 1) (by omega), Bool.true_and]
      | false => rw [hp, cond_false] at hc; rw [loopU_out hc]; rfl
  exact fun i hi => key (l.length - i) i (by omega)

/-- May the byte stand in a word? -/
def wcB (pt : Bool) (c : UInt8) : Bool :=
  (decide ((97 : Int) ≤ (c.toNat : Int)) && decide ((c.toNat : Int) ≤ 122)) || (decide ((65 : Int) ≤ (c.toNat : Int)) && decide ((c.toNat : Int) ≤ 90)) || (decide ((48 : Int) ≤ (c.toNat : Int)) && decide ((c.toNat : Int) ≤ 57)) ||
    decide ((c.toNat : Int) = 95) || (pt && decide ((c.toNat : Int) = 46))
def wordB (pt : Bool) (s : Bs) : Bool := s.all (wcB pt) && !decide (s = [])
theorem s_Plain {s : Bs} (hs : s.length < mx) : u_names_Plain (bs s, ()) = some (wordB false s, ()) := by
  unfold u_names_Plain
  have hb : bytesO (bs s) = some (s.map fun b => T.v (.int .u8 b.toNat)) := by
    unfold bytesO
    rw [if_pos (by rw [bs_size]; unfold mx at hs; omega), bytesL_bs]
  have hl := all_loop (F := u_names_Plain_l0) (fun i => (bs s, (s.map (fun b => T.v (.int .u8 b.toNat)), ((s.length : Int), ((i : Int), ()))))) (.inr (.inl (bs s, ()))) (.inl (false, ())) (wcB false) s ?_ ?_ 0 (Nat.zero_le _)
  · simp only [hb, obS, lenL_eq, List.length_map]
    rw [show (0 : Int) = ((0 : Nat) : Int) from rfl, hl, List.drop_zero, obS, wordB]
    cases s.all (wcB false) with
    | true => simp only [cond_true, onS_r, onS_l, show ByteArray.mk #[] = bs [] from rfl, eqS_bs, Bool.true_and]
    | false => rfl
  · intro i c hc
    have hlt := get_lt hc
    unfold u_names_Plain_l0
    simp only [ltI_eq, ltn, hlt, decide_true, cond_true, idxL_nat, List.getElem?_map, hc, Option.map_some, obS, T_cell_v, T_int, leI_eq, eqI_eq, addI_eq, wr_succ (Nat.lt_trans hlt hs), wcB]
    generalize decide ((97 : Int) ≤ (c.toNat : Int)) = a1
    generalize decide ((c.toNat : Int) ≤ 122) = a2
    generalize decide ((65 : Int) ≤ (c.toNat : Int)) = a3
    generalize decide ((c.toNat : Int) ≤ 90) = a4
    generalize decide ((48 : Int) ≤ (c.toNat : Int)) = a5
    generalize decide ((c.toNat : Int) ≤ 57) = a6
    generalize decide ((c.toNat : Int) = 95) = a7
    cases a1 <;> cases a2 <;> cases a3 <;> cases a4 <;> cases a5 <;> cases a6 <;> cases a7 <;> rfl
  · unfold u_names_Plain_l0
    simp only [ltI_eq, Int.lt_irrefl, decide_false, cond_false]
theorem r_Word {s : Bs} (hs : s.length < mx) (pt : Bool) : u_ref43_Word (bs s, (pt, ())) = some (wordB pt s, ()) := by
  unfold u_ref43_Word
  have hl := all_loop (F := u_ref43_Word_l0) (fun i => (bs s, (pt, ((i : Int), ())))) (.inr (.inl (bs s, ()))) (.inl (false, ())) (wcB pt) s ?_ ?_ 0 (Nat.zero_le _)
  · rw [show (0 : Int) = ((0 : Nat) : Int) from rfl, hl, List.drop_zero, obS, wordB]
    cases s.all (wcB pt) with
    | true => simp only [cond_true, onS_r, onS_l, show ByteArray.mk #[] = bs [] from rfl, eqS_bs, Bool.true_and]
    | false => rfl
  · intro i c hc
    have hlt := get_lt hc
    unfold u_ref43_Word_l0
    simp only [ltI_eq, lenS_bs, ltn, hlt, decide_true, cond_true, idxS_bs, hc, Option.map_some, obS, leI_eq, eqI_eq, addI_eq, wr_succ (Nat.lt_trans hlt hs), wcB]
    generalize decide ((97 : Int) ≤ (c.toNat : Int)) = a1
    generalize decide ((c.toNat : Int) ≤ 122) = a2
    generalize decide ((65 : Int) ≤ (c.toNat : Int)) = a3
    generalize decide ((c.toNat : Int) ≤ 90) = a4
    generalize decide ((48 : Int) ≤ (c.toNat : Int)) = a5
    generalize decide ((c.toNat : Int) ≤ 57) = a6
    generalize decide ((c.toNat : Int) = 95) = a7
    generalize decide ((c.toNat : Int) = 46) = a8
    cases a1 <;> cases a2 <;> cases a3 <;> cases a4 <;> cases a5 <;> cases a6 <;> cases a7 <;> cases a8 <;> cases pt <;> rfl
  · unfold u_ref43_Word_l0
    simp only [ltI_eq, lenS_bs, Int.lt_irrefl, decide_false, cond_false]

/-! the first instance of a byte -/
/-- What stands ahead of the first c and behind it. -/
def dotL (c : UInt8) : Bs → Option (Bs × Bs)
  | [] => none
  | b :: l => if b = c then some ([], l) else (dotL c l).map fun q => (b :: q.1, q.2)
theorem index_dot (c : UInt8) : ∀ s : Bs, (dotL c s = none ∧ Lib.index s [c] = -1) ∨ ∃ a r, dotL c s = some (a, r) ∧ s = a ++ c :: r ∧ Lib.index s [c] = a.length
  | [] => .inl ⟨rfl, rfl⟩
  | b :: l => by
    rw [Lib.index_one]
    have ih := index_dot c l
    rw [Lib.index_one] at ih
    by_cases h : b = c
    · subst h
      exact .inr ⟨[], l, by simp [dotL], rfl, by simp [Lib.indexByte]⟩
    · have hb : (b == c) = false := by simpa using h
      rcases ih with ⟨h1, h2⟩ | ⟨a, r, h1, h2, h3⟩
      · exact .inl ⟨by simp [dotL, h, h1], by simp [Lib.indexByte, hb, h2]⟩
      · refine .inr ⟨b :: a, r, by simp [dotL, h, h1], by rw [h2]; rfl, ?_⟩
        unfold Lib.indexByte
        rw [hb, h3]
        have : ((a.length : Int) == -1) = false := by simp
        simp [this]
def splitL (c : UInt8) : Bs → List Bs
  | [] => [[]]
  | b :: l => if b = c then [] :: splitL c l else match splitL c l with
    | h :: t => (b :: h) :: t
    | [] => [[b]]
theorem splitL_cons (c b : UInt8) (l : Bs) : splitL c (b :: l) = if b = c then [] :: splitL c l else match splitL c l with
    | h :: t => (b :: h) :: t
    | [] => [[b]] := rfl
theorem splitL_ne (c : UInt8) (s : Bs) : ∃ h t, splitL c s = h :: t := by
  cases s with
  | nil => exact ⟨[], [], rfl⟩
  | cons b l =>
    unfold splitL
    split
    · exact ⟨_, _, rfl⟩
    · split <;> exact ⟨_, _, rfl⟩
theorem splitL_none {c : UInt8} : ∀ {s : Bs}, dotL c s = none → splitL c s = [s]
  | [], _ => rfl
  | b :: l, h => by
    unfold dotL at h
    split at h
    · cases h
    · rename_i hb
      have h' : dotL c l = none := by cases hd : dotL c l with | none => rfl | some q => rw [hd] at h; cases h
      unfold splitL
      rw [if_neg hb, splitL_none h']
theorem splitL_some {c : UInt8} : ∀ {s a r : Bs}, dotL c s = some (a, r) → splitL c s = a :: splitL c r
  | [], a, r, h => by cases h
  | b :: l, a, r, h => by
    unfold dotL at h
    split at h
    · rename_i hb
      cases h
      rw [splitL_cons, if_pos hb]
    · rename_i hb
      cases hd : dotL c l with
      | none => rw [hd] at h; cases h
      | some q =>
        rw [hd] at h
        cases h
        rw [splitL_cons, if_neg hb, splitL_some (a := q.1) (r := q.2) hd]
theorem split_eq (c : UInt8) : ∀ (n : Nat) (s : Bs), s.length ≤ n → Lib.splitB (bs [c]) 0 (Lib.countB (bs s) (bs [c])) (bs s) = (splitL c s).map bs := by
  intro n
  induction n with
  | zero =>
    intro s hs
    have : s = [] := List.eq_nil_of_length_eq_zero (by omega)
    subst this
    have hm : Lib.indexB (bs []) (bs [c]) = -1 := by show Lib.index _ _ = -1; rw [bs_data, bs_data]; rfl
    rw [Lib.splitB_miss _ _ _ _ hm]; rfl
  | succ n ih =>
    intro s hs
    rcases index_dot c s with ⟨h1, h2⟩ | ⟨a, r, h1, h2, h3⟩
    · have hm : Lib.indexB (bs s) (bs [c]) = -1 := by show Lib.index _ _ = -1; rw [bs_data, bs_data]; exact h2
      rw [Lib.splitB_miss _ _ _ _ hm, splitL_none h1]; rfl
    · have hh : Lib.indexB (bs s) (bs [c]) = (a.length : Nat) := by show Lib.index _ _ = _; rw [bs_data, bs_data]; exact h3
      have hc := Lib.countB_hit (bs s) (bs [c]) a.length (by simp) hh
      have hlen : s.length = a.length + 1 + r.length := by rw [h2]; simp; omega
      have e1 : (bs s).extract (a.length + (bs [c]).size) (bs s).size = bs r := by
        rw [← bs_eta ((bs s).extract _ _)]
        congr 1
        simp [bs, ByteArray.size]
        rw [h2, show a.length + 1 = (a ++ [c]).length by simp, show a ++ c :: r = (a ++ [c]) ++ r by simp, List.drop_left]
        simp
        exact List.take_of_length_le (by omega)
      have e2 : (bs s).extract 0 (a.length + 0) = bs a := by
        rw [← bs_eta ((bs s).extract _ _)]
        congr 1
        simp [bs, h2]
      rw [e1] at hc
      rw [hc, Nat.add_comm, Lib.splitB_hit _ _ _ _ _ hh, e1, e2, ih r (by omega), splitL_some h1]
      rfl
theorem s_Split {s : Bs} (hs : s.length < mx) (c : UInt8) : u_strings_Split (bs s, (bs [c], ())) = some ((splitL c s).map fun x => T.v (.string (bs x)), ()) := by
  unfold u_strings_Split
  rw [if_pos ⟨by rw [bs_size]; unfold mx at hs; omega, by simp⟩]
  simp only [split_eq c s.length s (Nat.le_refl _), List.map_map]
  rfl
theorem cut_eq (c : UInt8) (s : Bs) : Lib.cut s [c] = match dotL c s with
    | some q => (q.1, q.2, true)
    | none => (s, [], false) := by
  unfold Lib.cut
  rcases index_dot c s with ⟨h1, h2⟩ | ⟨a, r, h1, h2, h3⟩
  · rw [h1, h2, if_neg (by omega)]
  · rw [h1, h3, if_pos (by omega)]
    simp [h2]
theorem rep_eq (c : UInt8) : ∀ (n : Nat) (s : Bs), s.length ≤ n → Lib.replaceK [c] [] (Lib.count s [c]) s = s.filter (fun b => !decide (b = c)) := by
  have none_filter : ∀ s : Bs, dotL c s = none → s.filter (fun b => !decide (b = c)) = s := fun s => by
    induction s with
    | nil => intro _; rfl
    | cons b l ih =>
      intro h
      unfold dotL at h
      split at h
      · cases h
      · rename_i hb
        have h' : dotL c l = none := by cases hd : dotL c l with | none => rfl | some q => rw [hd] at h; cases h
        rw [List.filter_cons_of_pos (by simpa using hb), ih h']
  have some_filter : ∀ s a r : Bs, dotL c s = some (a, r) → s.filter (fun b => !decide (b = c)) = a ++ r.filter (fun b => !decide (b = c)) := fun s => by
    induction s with
    | nil => intro a r h; cases h
    | cons b l ih =>
      intro a r h
      unfold dotL at h
      split at h
      · rename_i hb
        cases h
        rw [List.filter_cons_of_neg (by simpa using hb)]; rfl
      · rename_i hb
        cases hd : dotL c l with
        | none => rw [hd] at h; cases h
        | some q =>
          rw [hd] at h
          cases h
          rw [List.filter_cons_of_pos (by simpa using hb), ih _ _ hd]; rfl
  intro n
  induction n with
  | zero =>
    intro s hs
    have : s = [] := List.eq_nil_of_length_eq_zero (by omega)
    subst this
    rw [Lib.count_miss rfl]; rfl
  | succ n ih =>
    intro s hs
    rcases index_dot c s with ⟨h1, h2⟩ | ⟨a, r, h1, h2, h3⟩
    · rw [Lib.count_miss h2, none_filter s h1]; rfl
    · have hc := Lib.count_hit (s := s) (sub := [c]) (i := a.length) (by simp) h3
      have hlen : s.length = a.length + 1 + r.length := by rw [h2]; simp; omega
      have e1 : s.drop (a.length + [c].length) = r := by
        rw [h2, show a.length + [c].length = (a ++ [c]).length by simp, show a ++ c :: r = (a ++ [c]) ++ r by simp, List.drop_left]
      rw [e1] at hc
      rw [hc, Nat.add_comm, Lib.replaceK_hit _ _ _ _ _ h3, e1, ih r (by omega), some_filter s a r h1]
      have : s.take a.length = a := by rw [h2, List.take_left]
      rw [this]; simp
theorem s_ReplaceAll {s : Bs} (hs : s.length < mx) (c : UInt8) : u_strings_ReplaceAll (bs s, (bs [c], (bs [], ()))) = some (bs (s.filter fun b => !decide (b = c)), ()) := by
  unfold u_strings_ReplaceAll
  rw [if_pos ⟨by rw [bs_size]; unfold mx at hs; omega, by simp, by simp only [bs_size, List.length_nil]; unfold mx at hs; omega⟩]
  simp only [bs_data]
  have : Lib.replaceAll s [c] [] = s.filter fun b => !decide (b = c) := by
    unfold Lib.replaceAll Lib.replace
    rw [if_neg (by simp)]
    have hn : Lib.replaceNum s [c] (-1) = Lib.count s [c] := by unfold Lib.replaceNum; rw [if_pos (.inl (by omega))]
    rw [hn]
    exact rep_eq c s.length s (Nat.le_refl _)
  rw [this]; rfl
end Go.Eng.Np

/- The law NamesParts in plain words: it answers true. -/
namespace Go.Eng.Np
open Go.Eng

/-- Feature and role of a part. -/
def featL (s : Bs) : Option (Bs × Bs) := match dotL 46 s with
  | some q => bif wordB false q.1 && wordB true q.2 then some q else none
  | none => none
def fst1 (o : Option (Bs × Bs)) : Bs := match o with | some q => q.1 | none => []
def snd1 (o : Option (Bs × Bs)) : Bs := match o with | some q => q.2 | none => []
theorem dotL_len {c : UInt8} : ∀ {s a r : Bs}, dotL c s = some (a, r) → s.length = a.length + 1 + r.length := fun {s} => by
  induction s with
  | nil => intro a r h; cases h
  | cons b l ih =>
    intro a r h
    unfold dotL at h
    split at h
    · cases h; simp; omega
    · cases hd : dotL c l with
      | none => rw [hd] at h; cases h
      | some q =>
        rw [hd] at h
        cases h
        have := ih (a := q.1) (r := q.2) hd
        simp; omega
theorem word_under (r : Bs) : wordB false (95 :: r.filter fun b => !decide (b = 46)) = r.all (wcB true) := by
  unfold wordB
  have h95 : wcB false 95 = true := by decide
  rw [List.all_cons, h95]
  simp only [Bool.true_and, List.cons_ne_nil, decide_false, Bool.not_false, Bool.and_true]
  induction r with
  | nil => rfl
  | cons b r ih =>
    by_cases hb : b = 46
    · subst hb
      have h46 : wcB true 46 = true := by decide
      rw [List.filter_cons_of_neg (by simp), ih, List.all_cons, h46, Bool.true_and]
    · have hx : wcB true b = wcB false b := by
        have : decide ((b.toNat : Int) = 46) = false := decide_eq_false fun h => hb (by rw [← UInt8.toNat_inj]; exact_mod_cast h)
        simp only [wcB, this, Bool.and_false, Bool.false_and]
      rw [List.filter_cons_of_pos (by simpa using hb), List.all_cons, List.all_cons, ih, hx]
theorem s_part {s : Bs} (hs : s.length < mx) : ∃ a r, u_names_part (bs s, ()) = some (bs a, (bs r, ((featL s).isSome, ()))) ∧ ∀ q, featL s = some q → a = q.1 ∧ r = q.2 := by
  unfold u_names_part u_strings_Cut featL
  rw [if_pos (by rw [bs_size]; unfold mx at hs; omega)]
  have e46 : ByteArray.mk #[46] = bs [46] := rfl
  have e0 : ByteArray.mk #[] = bs [] := rfl
  simp only [e46, e0, bs_data, cut_eq, obS]
  cases hd : dotL 46 s with
  | none => exact ⟨[], [], rfl, fun q h => by cases h⟩
  | some q =>
    obtain ⟨a, r⟩ := q
    have hlen := dotL_len hd
    have hp : u_names_Plain (bs a, ()) = some (wordB false a, ()) := s_Plain (by omega)
    have hr := s_ReplaceAll (s := r) (show r.length < mx by omega) 46
    have hfl := List.length_filter_le (fun b : UInt8 => !decide (b = 46)) r
    have hcat : catS (ByteArray.mk #[95]) (bs (r.filter fun b => !decide (b = 46))) = some (bs (95 :: r.filter fun b => !decide (b = 46))) := by
      rw [show ByteArray.mk #[95] = bs [95] from rfl, catS_bs (by simp; unfold mx at hs; omega)]; rfl
    simp only [Bool.not_true, cond_false]
    have ha : ({ data := a.toArray } : ByteArray) = bs a := rfl
    have hrr : ({ data := r.toArray } : ByteArray) = bs r := rfl
    simp only [ha, hrr, hp, obS, eqS_bs, hr, hcat]
    cases hw : wordB false a with
    | false => exact ⟨[], [], rfl, fun q h => by simp [hw] at h⟩
    | true =>
      simp only [Bool.not_true, cond_false, Bool.true_and]
      by_cases hr0 : r = []
      · subst hr0
        exact ⟨[], [], rfl, fun q h => by simp [wordB] at h⟩
      · have hpl : u_names_Plain (bs (95 :: r.filter fun b => !decide (b = 46)), ()) = some (r.all (wcB true), ()) := by
          rw [s_Plain (by simp; unfold mx at hs ⊢; omega), word_under]
        have hwt : wordB true r = r.all (wcB true) := by unfold wordB; simp [hr0]
        rw [decide_eq_false hr0]
        simp only [cond_false, hpl, obS, hwt]
        refine ⟨a, r, ?_, fun q h => ?_⟩
        · cases r.all (wcB true) <;> rfl
        · cases hal : r.all (wcB true) with
          | true => rw [hal] at h; cases h; exact ⟨rfl, rfl⟩
          | false => rw [hal] at h; cases h
theorem s_Feature {s : Bs} (hs : s.length < mx) : u_names_Feature (bs s, ()) = some (bs (fst1 (featL s)), (bs (snd1 (featL s)), ())) := by
  unfold u_names_Feature
  obtain ⟨a, r, h1, h2⟩ := s_part hs
  simp only [h1, obS]
  cases hf : featL s with
  | none => rfl
  | some q =>
    obtain ⟨rfl, rfl⟩ := h2 q hf
    rfl
theorem r_Feature {s : Bs} (hs : s.length < mx) : u_ref43_Feature (bs s, ()) = some (bs (fst1 (featL s)), (bs (snd1 (featL s)), ())) := by
  unfold u_ref43_Feature
  have key : ∀ (d i : Nat), i + d = s.length → dotL 46 (s.take i) = none →
      ∃ e, loopU u_ref43_Feature_l0 (bs s, ((i : Int), ())) = some e ∧ (e = .inl (bs (fst1 (featL s)), (bs (snd1 (featL s)), ())) ∨ (e = .inr (.inl ()) ∧ featL s = none)) := by
    intro d
    induction d with
    | zero =>
      intro i hi hn
      have : i = s.length := by omega
      subst this
      rw [List.take_length] at hn
      refine ⟨.inr (.inl ()), loopU_out (by unfold u_ref43_Feature_l0; simp only [ltI_eq, lenS_bs, Int.lt_irrefl, decide_false, cond_false]), .inr ⟨rfl, by unfold featL; rw [hn]⟩⟩
    | succ d ih =>
      intro i hi hn
      have hlt : i < s.length := by omega
      obtain ⟨c, hc⟩ : ∃ c, s[i]? = some c := ⟨_, List.getElem?_eq_getElem hlt⟩
      have hsp : s = s.take i ++ c :: s.drop (i + 1) := by rw [← drop_get hc, List.take_append_drop]
      have app : ∀ (x y : Bs), dotL 46 x = none → dotL 46 (x ++ 46 :: y) = some (x, y) := fun x y => by
        induction x with
        | nil => intro _; simp [dotL]
        | cons b x ihx =>
          intro h
          unfold dotL at h
          split at h
          · cases h
          · rename_i hb
            have h' : dotL 46 x = none := by cases hd : dotL 46 x with | none => rfl | some q => rw [hd] at h; cases h
            show dotL 46 (b :: (x ++ 46 :: y)) = _
            unfold dotL
            rw [if_neg hb, ihx h']; rfl
      generalize hres : u_ref43_Feature_l0 (bs s, ((i : Int), ())) = res
      have hF := hres
      unfold u_ref43_Feature_l0 at hF
      have hsub : subS (bs s) 0 (i : Int) = some (bs (s.take i)) := by
        have := subS_bs (l := s) (lo := 0) (hi := i) (Nat.zero_le _) (by omega)
        rw [show ((0 : Nat) : Int) = 0 from rfl] at this
        rw [this]; simp
      have hw1 : u_ref43_Word (bs (s.take i), (false, ())) = some (wordB false (s.take i), ()) := r_Word (by simp; omega) false
      have hw2 : u_ref43_Word (bs (s.drop (i + 1)), (true, ())) = some (wordB true (s.drop (i + 1)), ()) := r_Word (by rw [List.length_drop]; omega) true
      simp only [ltI_eq, lenS_bs, ltn, hlt, decide_true, cond_true, idxS_bs, hc, Option.map_some, obS, eqI_eq, addI_eq, wr_succ (Nat.lt_trans hlt hs), hsub, hw1, subS_end (show i + 1 ≤ s.length by omega), hw2] at hF
      by_cases h46 : c = 46
      · subst h46
        have hdd : dotL 46 s = some (s.take i, s.drop (i + 1)) := by
          have := app (s.take i) (s.drop (i + 1)) hn
          rwa [← hsp] at this
        rw [decide_eq_true (show (((46 : UInt8).toNat : Nat) : Int) = 46 from rfl), cond_true] at hF
        refine ⟨_, loopU_out (hres.trans ?_), .inl rfl⟩
        rw [← hF]
        have hfe : featL s = bif wordB false (s.take i) && wordB true (s.drop (i + 1)) then some (s.take i, s.drop (i + 1)) else none := by unfold featL; rw [hdd]
        rw [hfe]
        generalize wordB false (s.take i) = w1
        generalize wordB true (s.drop (i + 1)) = w2
        cases w1 <;> cases w2 <;> rfl
      · rw [decide_eq_false (fun h => h46 (by rw [← UInt8.toNat_inj]; exact_mod_cast h)), cond_false] at hF
        rw [loopU_go (hres.trans hF.symm)]
        refine ih (i + 1) (by omega) ?_
        have ht : s.take (i + 1) = s.take i ++ [c] := by rw [List.take_add_one, hc]; rfl
        have app2 : ∀ x : Bs, dotL 46 x = none → dotL 46 (x ++ [c]) = none := fun x => by
          induction x with
          | nil => intro _; simp [dotL, h46]
          | cons b x ihx =>
            intro h
            unfold dotL at h
            split at h
            · cases h
            · rename_i hb
              have h' : dotL 46 x = none := by cases hd : dotL 46 x with | none => rfl | some q => rw [hd] at h; cases h
              show dotL 46 (b :: (x ++ [c])) = _
              unfold dotL
              rw [if_neg hb, ihx h']; rfl
        rw [ht]; exact app2 _ hn
  obtain ⟨e, h1, h2⟩ := key s.length 0 (by omega) rfl
  rw [show ((0 : Nat) : Int) = 0 from rfl] at h1
  rw [h1]
  rcases h2 with rfl | ⟨rfl, h3⟩
  · rfl
  · rw [h3]; rfl

/-! lists of strings -/
def strL (l : List Bs) : List T := l.map fun x => T.v (.string (bs x))
theorem strL_get {l : List Bs} {i : Nat} {x : Bs} (h : l[i]? = some x) : (strL l)[i]? = some (T.v (.string (bs x))) := by unfold strL; rw [List.getElem?_map, h]; rfl
theorem strL_len (l : List Bs) : (strL l).length = l.length := by simp [strL]
def glue (cur : Bs) (l : List Bs) : List Bs := match l with
  | h :: t => (cur ++ h) :: t
  | [] => [cur]
theorem r_split {s : Bs} (hs : s.length < mx) : u_ref43_split (bs s, ()) = some (strL (splitL 43 s), ()) := by
  unfold u_ref43_split
  have key : ∀ (d i : Nat) (pre : List Bs) (cur : Bs), i + d = s.length → pre.length ≤ i → cur.length ≤ i →
      loopU u_ref43_split_l0 (bs s, (strL (pre ++ [cur]), ((i : Int), ()))) = some (.inl (strL (pre ++ glue cur (splitL 43 (s.drop i))), ())) := by
    intro d
    induction d with
    | zero =>
      intro i pre cur hi _ _
      have : i = s.length := by omega
      subst this
      rw [List.drop_length]
      refine loopU_out ?_
      unfold u_ref43_split_l0
      simp only [ltI_eq, lenS_bs, Int.lt_irrefl, decide_false, cond_false]
      simp [splitL, glue]
    | succ d ih =>
      intro i pre cur hi hp hcu
      have hlt : i < s.length := by omega
      obtain ⟨c, hc⟩ : ∃ c, s[i]? = some c := ⟨_, List.getElem?_eq_getElem hlt⟩
      have hdr := drop_get hc
      have hln : (strL (pre ++ [cur])).length = pre.length + 1 := by rw [strL_len]; simp
      have hget : (strL (pre ++ [cur]))[pre.length]? = some (T.v (.string (bs cur))) := strL_get (by simp)
      have hset : ∀ x : Bs, (strL (pre ++ [cur])).set pre.length (T.v (.string (bs x))) = strL (pre ++ [x]) := fun x => by
        unfold strL
        rw [List.map_append, List.set_append_right _ _ (by simp)]
        simp
      have hroom : room (strL (pre ++ [cur])) [T.v (.string (bs []))] 16 = some (strL ((pre ++ [cur]) ++ [[]])) := by
        rw [room_ok (by rw [hln]; simp; unfold mx at hs; omega) (by omega)]
        unfold strL; simp
      have hw1 : wr .i64 (((pre.length + 1 : Nat) : Int) - 1) = (pre.length : Int) := by rw [wr64 (by unfold mx at hs; omega) (by unfold mx at hs; omega)]; omega
      have hsub : subS (bs s) (i : Int) ((i + 1 : Nat) : Int) = some (bs [c]) := by
        rw [subS_bs (by omega) (by omega), hdr, Nat.add_sub_cancel_left]; rfl
      generalize hres : u_ref43_split_l0 (bs s, (strL (pre ++ [cur]), ((i : Int), ()))) = res
      have hF := hres
      unfold u_ref43_split_l0 at hF
      simp only [ltI_eq, lenS_bs, ltn, hlt, decide_true, cond_true, idxS_bs, hc, Option.map_some, obS, eqI_eq, addI_eq, subI_eq, wr_succ (Nat.lt_trans hlt hs), lenL_eq, hln, hw1, show ByteArray.mk #[] = bs [] from rfl, hroom,
        chkI_nat (show ((pre.length : Nat) : Int) < ((pre.length + 1 : Nat) : Int) by omega), idxN_eq, hget, hsub, T_cell_v, T_str, catS_bs (a := cur) (b := [c]) (by simp; unfold mx at hs; omega), T_upd1, hset] at hF
      rw [hdr, splitL_cons]
      by_cases h43 : c = 43
      · subst h43
        rw [decide_eq_true (show (((43 : UInt8).toNat : Nat) : Int) = 43 from rfl), cond_true] at hF
        simp only [obS, onS_l, wr_succ (Nat.lt_trans hlt hs)] at hF
        rw [loopU_go (hres.trans hF.symm), ih (i + 1) (pre ++ [cur]) [] (by omega) (by simp; omega) (by simp), if_pos rfl]
        obtain ⟨h, t, he⟩ := splitL_ne 43 (s.drop (i + 1))
        rw [he]
        simp [glue]
      · rw [decide_eq_false (fun h => h43 (by rw [← UInt8.toNat_inj]; exact_mod_cast h)), cond_false] at hF
        simp only [obS, onS_l, wr_succ (Nat.lt_trans hlt hs)] at hF
        rw [loopU_go (hres.trans hF.symm), ih (i + 1) pre (cur ++ [c]) (by omega) (by omega) (by simp; omega), if_neg h43]
        obtain ⟨h, t, he⟩ := splitL_ne 43 (s.drop (i + 1))
        rw [he]
        simp [glue]
  have h := key s.length 0 [] [] (by omega) (by simp) (by simp)
  rw [show ((0 : Nat) : Int) = 0 from rfl, List.nil_append, List.drop_zero] at h
  have e0 : [(T.v (.string (ByteArray.mk #[])))] = strL [[]] := rfl
  simp only [e0]
  rw [h]
  obtain ⟨x, t, he⟩ := splitL_ne 43 s
  rw [he]
  rfl
theorem split_len (c : UInt8) : ∀ (s x : Bs), x ∈ splitL c s → x.length ≤ s.length := fun s => by
  induction s with
  | nil => intro x h; simp [splitL] at h; subst h; simp
  | cons b l ih =>
    intro x h
    rw [splitL_cons] at h
    split at h
    · rcases List.mem_cons.1 h with rfl | h
      · simp
      · have := ih x h; simp; omega
    · obtain ⟨y, t, he⟩ := splitL_ne c l
      rw [he] at h ih
      rcases List.mem_cons.1 h with rfl | h
      · have := ih y (by simp); simp; omega
      · have := ih x (by simp [h]); simp; omega
theorem split_count (c : UInt8) : ∀ s : Bs, (splitL c s).length ≤ s.length + 1 := fun s => by
  induction s with
  | nil => simp [splitL]
  | cons b l ih =>
    rw [splitL_cons]
    split
    · simp; omega
    · obtain ⟨y, t, he⟩ := splitL_ne c l
      rw [he] at ih ⊢
      simp at ih ⊢; omega
end Go.Eng.Np

/- The law NamesParts in plain words, the second part: the list's tests, and the law. -/
namespace Go.Eng.Np
open Go.Eng

/-- Do all the places from i on, d in number, pass? -/
def allN (p : Nat → Bool) : Nat → Nat → Bool
  | 0, _ => true
  | d + 1, i => p i && allN p d (i + 1)
theorem allN_loop {S E : Type} {F : S → Option (S ⊕ E)} (st : Nat → S) (good : E) (bad : Nat → E) (p : Nat → Bool) (n : Nat)
    (h : ∀ i, i < n → F (st i) = bif p i then some (.inl (st (i + 1))) else some (.inr (bad i))) (hend : F (st n) = some (.inr good)) :
    ∀ d i, i + d = n → ∃ j, loopU F (st i) = some (bif allN p d i then good else bad j) := by
  intro d
  induction d with
  | zero =>
    intro i hi
    have : i = n := by omega
    subst this
    exact ⟨0, loopU_out hend⟩
  | succ d ih =>
    intro i hi
    have hlt : i < n := by omega
    have hc := h i hlt
    unfold allN
    cases hp : p i with
    | true =>
      obtain ⟨j, hj⟩ := ih (i + 1) (by omega)
      rw [hp, cond_true] at hc
      exact ⟨j, by rw [loopU_go hc, hj, Bool.true_and]⟩
    | false =>
      rw [hp, cond_false] at hc
      exact ⟨i, by rw [loopU_out hc]; rfl⟩
theorem allN_congr {p q : Nat → Bool} : ∀ d i, (∀ j, i ≤ j → j < i + d → p j = q j) → allN p d i = allN q d i
  | 0, _, _ => rfl
  | d + 1, i, h => by
    unfold allN
    rw [h i (Nat.le_refl _) (by omega), allN_congr d (i + 1) fun j h1 h2 => h j (by omega) (by omega)]

/-! the order of strings -/
def ltB (a b : Bs) : Bool := ltS (bs a) (bs b)
theorem ltB_eq (a b : Bs) : ltB a b = Op.bytesLess a b := by unfold ltB ltS; simp
theorem less_tri : ∀ a b : Bs, (Op.bytesLess a b || decide (a = b)) = !Op.bytesLess b a
  | [], [] => rfl
  | [], _ :: _ => rfl
  | _ :: _, [] => rfl
  | a :: x, b :: y => by
    have ih := less_tri x y
    unfold Op.bytesLess
    by_cases h : a = b
    · subst h
      have hl : decide (a < a) = false := decide_eq_false (by simp)
      simp only [hl, Bool.false_or, beq_self_eq_true, Bool.true_and, List.cons.injEq, true_and]
      exact ih
    · have hb : (a == b) = false := by simpa using h
      have hb' : (b == a) = false := by simpa using fun e => h e.symm
      rw [hb, hb', decide_eq_false (show ¬ (a :: x = b :: y) from fun e => h (by cases e; rfl))]
      simp only [Bool.false_and, Bool.or_false]
      have : (a < b) ↔ ¬ (b < a) := by
        rw [UInt8.lt_iff_toNat_lt, UInt8.lt_iff_toNat_lt]
        have : a.toNat ≠ b.toNat := fun e => h (UInt8.toNat_inj.1 e)
        omega
      rw [Bool.eq_iff_iff]; simp [this]
theorem ltB_tri (a b : Bs) : (ltB a b || decide (a = b)) = !ltB b a := by rw [ltB_eq, ltB_eq]; exact less_tri a b
theorem ltB_nil {b : Bs} (h : b ≠ []) : ltB [] b = true := by
  rw [ltB_eq]
  cases b with
  | nil => exact (h rfl).elim
  | cons _ _ => rfl

theorem fst1_nil (x : Bs) : decide (fst1 (featL x) = []) = !(featL x).isSome := by
  unfold featL
  cases dotL 46 x with
  | none => rfl
  | some q =>
    cases hw : wordB false q.1 with
    | false => simp [fst1, hw]
    | true =>
      have : q.1 ≠ [] := fun e => by rw [e] at hw; cases hw
      cases hw2 : wordB true q.2 <;> simp [fst1, hw, hw2, this]
theorem featL_nil : featL [] = none := rfl

/-! the list is sorted, and of parts -/
def at' (l : List Bs) (i : Nat) : Bs := l.getD i []
def prv (l : List Bs) : Nat → Bs
  | 0 => []
  | i + 1 => at' l i
def okP (l : List Bs) (i : Nat) : Bool := (featL (at' l i)).isSome && ltB (prv l i) (at' l i)
def validL (s : Bs) : Bool := allN (okP (splitL 43 s)) (splitL 43 s).length 0
theorem at_get {l : List Bs} {i : Nat} (h : i < l.length) : l[i]? = some (at' l i) := by
  unfold at'; rw [List.getD_eq_getElem?_getD, List.getElem?_eq_getElem h]; rfl
theorem at_len {s : Bs} (i : Nat) : (at' (splitL 43 s) i).length ≤ s.length := by
  unfold at'
  rw [List.getD_eq_getElem?_getD]
  cases h : (splitL 43 s)[i]? with
  | none => simp
  | some x => exact split_len 43 s x (List.mem_of_getElem? h)
theorem s_Valid {s : Bs} (hs : s.length < mx) : u_names_Valid (bs s, ()) = some (validL s, ()) := by
  unfold u_names_Valid
  have hsp := s_Split hs 43
  have hcnt := split_count 43 s
  have hln := at_len (s := s)
  unfold validL
  revert hsp hcnt hln
  generalize splitL 43 s = l
  intro hsp hcnt hln
  rw [show ByteArray.mk #[43] = bs [43] from rfl, hsp]
  have hloop := allN_loop (F := u_names_Valid_l0) (fun i => (bs (prv l i), (strL l, ((l.length : Int), ((i : Int), ()))))) (.inr (.inl ())) (fun _ => .inl (false, ())) (okP l) l.length ?_ ?_ l.length 0 (by omega)
  · obtain ⟨j, hj⟩ := hloop
    have e0 : u_names_Valid_l0 = u_names_Valid_l0 := rfl
    show (ob (loopU u_names_Valid_l0 (bs [], (strL l, (lenL (strL l), (((0 : Nat) : Int), ()))))) _) = _
    rw [lenL_eq, strL_len]
    refine (congrArg (fun r => ob r _) hj).trans ?_
    generalize allN (okP l) l.length 0 = v
    cases v <;> rfl
  · intro i hi
    have hg := strL_get (at_get hi)
    unfold u_names_Valid_l0
    obtain ⟨a, r, h1, _⟩ := s_part (s := at' l i) (Nat.lt_of_le_of_lt (hln i) hs)
    simp only [ltI_eq, ltn, hi, decide_true, cond_true, idxL_nat, hg, obS, T_cell_v, T_str, h1, eqS_bs, addI_eq, wr_succ (show i < mx by omega)]
    unfold okP
    cases (featL (at' l i)).isSome with
    | false => rfl
    | true =>
      have ht := ltB_tri (at' l i) (prv l i)
      show (bif Bool.or (ltB (at' l i) (prv l i)) (decide (at' l i = prv l i)) then _ else _) = _
      rw [show Bool.or (ltB (at' l i) (prv l i)) (decide (at' l i = prv l i)) = (ltB (at' l i) (prv l i) || decide (at' l i = prv l i)) from rfl, ht]
      cases ltB (prv l i) (at' l i) <;> rfl
  · unfold u_names_Valid_l0
    simp only [ltI_eq, Int.lt_irrefl, decide_false, cond_false]
theorem r_Valid {s : Bs} (hs : s.length < mx) : u_ref43_Valid (bs s, ()) = some (validL s, ()) := by
  unfold u_ref43_Valid
  have hsp := r_split hs
  have hcnt := split_count 43 s
  have hln := at_len (s := s)
  unfold validL
  revert hsp hcnt hln
  generalize splitL 43 s = l
  intro hsp hcnt hln
  rw [hsp]
  have hloop := allN_loop (F := u_ref43_Valid_l0) (fun i => (strL l, ((i : Int), ()))) (.inr (.inl ())) (fun _ => .inl (false, ())) (okP l) l.length ?_ ?_ l.length 0 (by omega)
  · obtain ⟨j, hj⟩ := hloop
    show (ob (loopU u_ref43_Valid_l0 (strL l, (((0 : Nat) : Int), ()))) _) = _
    refine (congrArg (fun r => ob r _) hj).trans ?_
    generalize allN (okP l) l.length 0 = v
    cases v <;> rfl
  · intro i hi
    have hg := strL_get (at_get hi)
    unfold u_ref43_Valid_l0
    have hfeat := r_Feature (s := at' l i) (Nat.lt_of_le_of_lt (hln i) hs)
    simp only [ltI_eq, ltn, hi, lenL_eq, strL_len, decide_true, cond_true, idxL_nat, hg, obS, T_cell_v, T_str, hfeat, show ByteArray.mk #[] = bs [] from rfl, eqS_bs, fst1_nil, addI_eq, subI_eq, wr_succ (show i < mx by omega)]
    unfold okP
    cases hsome : (featL (at' l i)).isSome with
    | false => rfl
    | true =>
      simp only [Bool.not_true, cond_false, Bool.true_and]
      cases i with
      | zero =>
        have hne : at' l 0 ≠ [] := fun e => by rw [e, featL_nil] at hsome; cases hsome
        rw [show prv l 0 = [] from rfl, ltB_nil hne]; rfl
      | succ k =>
        have hg' := strL_get (at_get (show k < l.length by omega))
        have hw1 : wr .i64 (((k + 1 : Nat) : Int) - 1) = (k : Int) := by rw [wr64 (by unfold mx at *; omega) (by unfold mx at *; omega)]; omega
        rw [decide_eq_true (show (0 : Int) < ((k + 1 : Nat) : Int) by omega), hw1]
        simp only [cond_true, idxL_nat, hg', obS, T_cell_v, T_str]
        show (bif !ltB (at' l k) (at' l (k + 1)) then _ else _) = _
        rw [show prv l (k + 1) = at' l k from rfl]
        cases ltB (at' l k) (at' l (k + 1)) <;> rfl
  · unfold u_ref43_Valid_l0
    simp only [ltI_eq, lenL_eq, strL_len, Int.lt_irrefl, decide_false, cond_false]
def partsL (s : Bs) : List Bs := bif validL s then splitL 43 s else []
theorem s_Parts {s : Bs} (hs : s.length < mx) : u_names_Parts (bs s, ()) = some (strL (partsL s), ()) := by
  unfold u_names_Parts partsL
  rw [show ByteArray.mk #[43] = bs [43] from rfl, s_Valid hs, s_Split hs 43]
  cases validL s <;> rfl
theorem r_Parts {s : Bs} (hs : s.length < mx) : u_ref43_Parts (bs s, ()) = some (strL (partsL s), ()) := by
  unfold u_ref43_Parts partsL
  rw [r_Valid hs, r_split hs]
  cases validL s <;> rfl
theorem parts_count (s : Bs) : (partsL s).length ≤ s.length + 1 := by
  unfold partsL
  cases validL s
  · simp
  · exact split_count 43 s
theorem parts_len {s : Bs} (i : Nat) : (at' (partsL s) i).length ≤ s.length := by
  unfold partsL
  cases validL s
  · simp [at']
  · exact at_len i
theorem r_Same {l : List Bs} (hl : l.length < mx) : u_ref43_Same (strL l, (strL l, ())) = some (true, ()) := by
  unfold u_ref43_Same
  have h1 := loopU_for (F := u_ref43_Same_l0) l.length (fun i => (strL l, (strL l, ((i : Int), ())))) ?_
  · simp only [eqI_eq, lenL_eq, strL_len, decide_true, Bool.not_true, cond_false]
    rw [show (0 : Int) = ((0 : Nat) : Int) from rfl, h1, loopU_out (e := .inr (.inl ())) (by unfold u_ref43_Same_l0; simp only [ltI_eq, lenL_eq, strL_len, Int.lt_irrefl, decide_false, cond_false])]
    rfl
  · intro i hi
    have hg := strL_get (at_get hi)
    unfold u_ref43_Same_l0
    simp only [ltI_eq, ltn, hi, lenL_eq, strL_len, decide_true, cond_true, idxL_nat, hg, obS, T_cell_v, T_str, eqS_bs, addI_eq, wr_succ (show i < mx by omega), Bool.not_true, cond_false]

/-! from a feature -/
def fromL (s f : Bs) : Bool := !allN (fun i => !decide (fst1 (featL (at' (partsL s) i)) = f)) (partsL s).length 0
theorem s_From {s : Bs} (hs : s.length < mx - 1) (f : Bs) : u_names_From (bs s, (bs f, ())) = some (fromL s f, ()) := by
  unfold u_names_From u_slices_ContainsFunc___string_string__From u_slices_IndexFunc___string_string__From
  rw [s_Parts (by omega)]
  have hcnt := parts_count s
  have hln := parts_len (s := s)
  unfold fromL
  revert hcnt hln
  generalize partsL s = l
  intro hcnt hln
  have hloop := allN_loop (F := u_slices_IndexFunc___string_string__From_l0) (fun i => (strL l, ((), ((l.length : Int), ((i : Int), (bs f, ())))))) (.inr (.inl (bs f, ()))) (fun i => .inl ((i : Int), (bs f, ())))
    (fun i => !decide (fst1 (featL (at' l i)) = f)) l.length ?_ ?_ l.length 0 (by omega)
  · obtain ⟨j, hj⟩ := hloop
    simp only [obS, lenL_eq, strL_len]
    rw [show (0 : Int) = ((0 : Nat) : Int) from rfl, hj]
    generalize allN _ l.length 0 = v
    cases v with
    | true =>
      simp only [cond_true, obS, onS_r, onS_l, leI_eq]
      rfl
    | false =>
      simp only [cond_false, obS, onS_l, leI_eq]
      rw [decide_eq_true (by omega)]; rfl
  · intro i hi
    have hg := strL_get (at_get hi)
    unfold u_slices_IndexFunc___string_string__From_l0 u_names_From_1
    simp only [ltI_eq, ltn, hi, decide_true, cond_true, idxL_nat, hg, obS, T_cell_v, T_str, s_Feature (s := at' l i) (by have := hln i; omega), eqS_bs, addI_eq, wr_succ (show i < mx by omega)]
    by_cases h : fst1 (featL (at' l i)) = f
    · rw [decide_eq_true h]; rfl
    · rw [decide_eq_false h]; rfl
  · unfold u_slices_IndexFunc___string_string__From_l0
    simp only [ltI_eq, Int.lt_irrefl, decide_false, cond_false]
theorem r_From {s : Bs} (hs : s.length < mx - 1) (f : Bs) : u_ref43_From (bs s, (bs f, ())) = some (fromL s f, ()) := by
  unfold u_ref43_From
  rw [r_Parts (by omega)]
  have hcnt := parts_count s
  have hln := parts_len (s := s)
  unfold fromL
  revert hcnt hln
  generalize partsL s = l
  intro hcnt hln
  have hloop := allN_loop (F := u_ref43_From_l0) (fun i => (bs f, (strL l, ((i : Int), ())))) (.inr (.inl ())) (fun _ => .inl (true, ()))
    (fun i => !decide (fst1 (featL (at' l i)) = f)) l.length ?_ ?_ l.length 0 (by omega)
  · obtain ⟨j, hj⟩ := hloop
    simp only [obS]
    rw [show (0 : Int) = ((0 : Nat) : Int) from rfl, hj]
    generalize allN _ l.length 0 = v
    cases v <;> rfl
  · intro i hi
    have hg := strL_get (at_get hi)
    unfold u_ref43_From_l0
    simp only [ltI_eq, ltn, hi, lenL_eq, strL_len, decide_true, cond_true, idxL_nat, hg, obS, T_cell_v, T_str, r_Feature (s := at' l i) (by have := hln i; omega), eqS_bs, addI_eq, wr_succ (show i < mx by omega)]
    by_cases h : fst1 (featL (at' l i)) = f
    · rw [decide_eq_true h]; rfl
    · rw [decide_eq_false h]; rfl
  · unfold u_ref43_From_l0
    simp only [ltI_eq, lenL_eq, strL_len, Int.lt_irrefl, decide_false, cond_false]

/-! the words of the dice -/
def pcs : List Bs := [[97], [98], [46], [43], [120, 48], [97, 46, 120, 48], [43, 98, 46, 121, 49], [95], [97, 46, 98, 46, 99], [97, 46, 115, 48, 46, 49, 43, 98, 46, 116, 111, 112], [32]]
theorem pcs_T : [(Go.Eng.T.v (Go.Value.string (ByteArray.mk #[97]))), (Go.Eng.T.v (Go.Value.string (ByteArray.mk #[98]))), (Go.Eng.T.v (Go.Value.string (ByteArray.mk #[46]))), (Go.Eng.T.v (Go.Value.string (ByteArray.mk #[43]))), (Go.Eng.T.v (Go.Value.string (ByteArray.mk #[120, 48]))), (Go.Eng.T.v (Go.Value.string (ByteArray.mk #[97, 46, 120, 48]))), (Go.Eng.T.v (Go.Value.string (ByteArray.mk #[43, 98, 46, 121, 49]))), (Go.Eng.T.v (Go.Value.string (ByteArray.mk #[95]))), (Go.Eng.T.v (Go.Value.string (ByteArray.mk #[97, 46, 98, 46, 99]))), (Go.Eng.T.v (Go.Value.string (ByteArray.mk #[97, 46, 115, 48, 46, 49, 43, 98, 46, 116, 111, 112]))), (Go.Eng.T.v (Go.Value.string (ByteArray.mk #[32])))] = strL pcs := rfl
theorem pcs_len : ∀ p ∈ pcs, p.length ≤ 12 := by decide
theorem s_word {L : List T} {a : Int} (h : DiceOK L a) : ∃ w a', u_brepkernellaw43_word ((), (L, (a, ()))) = some (bs w, (L, (a', ()))) ∧ w.length ≤ 60 ∧ DiceOK L a' := by
  unfold u_brepkernellaw43_word
  obtain ⟨v, a1, h1, hv0, hv4, hd1⟩ := s_Next h (n := 4) (by omega) (by omega)
  rw [h1]
  have hloop := loopU_inv (F := u_brepkernellaw43_word_l0) (fun s => ∃ (w : Bs) (k : Nat) (a : Int), s = ((), (bs w, ((k : Int) - 1, (L, (a, ()))))) ∧ k ≤ 4 ∧ w.length + 12 * k ≤ 48 ∧ DiceOK L a) (fun s => (s.2.2.1 + 1).toNat)
    (fun e => ∃ (w : Bs) (a : Int), e = .inl (bs w, (L, (a, ()))) ∧ w.length ≤ 60 ∧ DiceOK L a) ?_ ((), (bs [], (v, (L, (a1, ()))))) ⟨[], (v + 1).toNat, a1, by congr 2; congr 1; omega, by omega, by simp; omega, hd1⟩
  · obtain ⟨e, he, hq⟩ := hloop
    obtain ⟨w, a2, rfl, hw, hd2⟩ := hq
    simp only [obS, show ByteArray.mk #[] = bs [] from rfl]
    rw [he]
    exact ⟨w, a2, rfl, hw, hd2⟩
  · rintro s ⟨w, k, a, rfl, hk, hw, hd⟩
    unfold u_brepkernellaw43_word_l0
    simp only [leI_eq, pcs_T]
    cases k with
    | zero =>
      rw [decide_eq_false (by omega)]
      exact .inr ⟨_, rfl, w, a, rfl, by omega, hd⟩
    | succ k =>
      rw [decide_eq_true (by omega), cond_true]
      obtain ⟨x, a2, h2, hx0, hx1, hd2⟩ := s_Next hd (n := 11) (by omega) (by omega)
      obtain ⟨i, rfl⟩ := Int.eq_ofNat_of_zero_le hx0
      have hi : i < pcs.length := by show i < 11; omega
      have hg := strL_get (at_get hi)
      have hp : (at' pcs i).length ≤ 12 := pcs_len _ (List.mem_of_getElem? (at_get hi))
      have hcat : catS (bs w) (bs (at' pcs i)) = some (bs (w ++ at' pcs i)) := catS_bs (by omega)
      have hwr : wr .i64 ((((k + 1 : Nat) : Int) - 1) - 1) = (k : Int) - 1 := by rw [wr64 (by omega) (by omega)]; omega
      have hlen : lenL (strL pcs) = 11 := by rw [lenL_eq]; rfl
      refine .inl ⟨_, by simp only [h2, obS, hlen, chkI_nat (show ((i : Nat) : Int) < 11 by omega), idxN_eq, hg, T_cell_v, T_str, hcat, subI_eq, hwr], ⟨w ++ at' pcs i, k, a2, rfl, by omega, by simp; omega, hd2⟩, ?_⟩
      show ((k : Int) - 1 + 1).toNat < (((k + 1 : Nat) : Int) - 1 + 1).toNat
      omega

theorem s_sane : u_brepkernellaw43_sane () = some (true, ()) := by
  unfold u_brepkernellaw43_sane
  have e : ByteArray.mk #[97, 46, 120, 48, 43, 98, 46, 122, 49] = bs [97, 46, 120, 48, 43, 98, 46, 122, 49] := rfl
  have e1 : ByteArray.mk #[98] = bs [98] := rfl
  have e2 : ByteArray.mk #[120, 48] = bs [120, 48] := rfl
  rw [e, e1, e2, s_Parts (by decide), s_From (by decide), s_From (by decide)]
  have hp : partsL [97, 46, 120, 48, 43, 98, 46, 122, 49] = [[97, 46, 120, 48], [98, 46, 122, 49]] := by
    unfold partsL validL okP
    simp only [ltB_eq]
    decide +kernel
  have hf1 : fromL [97, 46, 120, 48, 43, 98, 46, 122, 49] [98] = true := by unfold fromL; rw [hp]; decide +kernel
  have hf2 : fromL [97, 46, 120, 48, 43, 98, 46, 122, 49] [120, 48] = false := by unfold fromL; rw [hp]; decide +kernel
  rw [hp, hf1, hf2]
  have g0 : idxL (strL [[97, 46, 120, 48], [98, 46, 122, 49]]) (0 : Int) = some (T.v (.string (bs [97, 46, 120, 48]))) := idxL_nat _ 0
  have g1 : idxL (strL [[97, 46, 120, 48], [98, 46, 122, 49]]) (1 : Int) = some (T.v (.string (bs [98, 46, 122, 49]))) := idxL_nat _ 1
  simp only [obS, lenL_eq, strL_len, g0, g1, T_cell_v, T_str, eqI_eq]
  have e3 : ByteArray.mk #[97, 46, 120, 48] = bs [97, 46, 120, 48] := rfl
  have e4 : ByteArray.mk #[98, 46, 122, 49] = bs [98, 46, 122, 49] := rfl
  simp only [e3, e4, eqS_bs, decide_true, cond_true]
  rfl
/-- The law, in plain words. -/
theorem law_plain (raw other : ByteArray) {L : List T} (hL : ∃ zs : List Int, L = zs.map intT) : u_brepkernellaw43_NamesParts (raw, (other, (L, ()))) = some (true, ()) := by
  obtain ⟨r, rfl⟩ : ∃ r, raw = bs r := ⟨_, (bs_eta raw).symm⟩
  obtain ⟨o, rfl⟩ : ∃ o, other = bs o := ⟨_, (bs_eta other).symm⟩
  unfold u_brepkernellaw43_NamesParts
  simp only [ltI_eq, lenS_bs, s_sane, obS, s_Light, s_Roll]
  by_cases hr : (300 : Int) < (r.length : Int)
  · rw [decide_eq_true hr]; rfl
  rw [decide_eq_false hr, cond_false]
  by_cases hl : L.length ≤ 500
  case neg => rw [decide_eq_false hl]; rfl
  rw [decide_eq_true hl]
  obtain ⟨zs, rfl⟩ := hL
  have hd : DiceOK (zs.map intT) 0 := ⟨zs, rfl, by simp at hl; omega, Int.le_refl _, by omega⟩
  obtain ⟨w1, a1, h1, hw1, hd1⟩ := s_word hd
  obtain ⟨w2, a2, h2, hw2, _⟩ := s_word hd1
  simp only [Bool.not_true, cond_false, h1, h2, obS]
  have hW : ∀ w ∈ [r, w1, w2], w.length < 400 := by
    intro w hw
    simp only [List.mem_cons, List.not_mem_nil, or_false] at hw
    rcases hw with rfl | rfl | rfl <;> omega
  have hl0 := loopU_for (F := u_brepkernellaw43_NamesParts_l0) 3 (fun i => (bs o, (strL [r, w1, w2], ((3 : Int), ((i : Int), ()))))) ?_
  · have e3 : lenL [T.v (.string (bs r)), T.v (.string (bs w1)), T.v (.string (bs w2))] = 3 := by rw [lenL_eq]; rfl
    have eL : [T.v (.string (bs r)), T.v (.string (bs w1)), T.v (.string (bs w2))] = strL [r, w1, w2] := rfl
    rw [e3, eL, show (0 : Int) = ((0 : Nat) : Int) from rfl, hl0, loopU_out (e := .inr (.inl ())) (by unfold u_brepkernellaw43_NamesParts_l0; simp only [ltI_eq]; rfl)]
    rfl
  · intro i hi
    have hi' : i < [r, w1, w2].length := hi
    have hg := strL_get (at_get hi')
    have hw := hW _ (List.mem_of_getElem? (at_get hi'))
    generalize at' [r, w1, w2] i = w at hg hw
    have hx : w.length < mx := by unfold mx; omega
    have hx1 : w.length < mx - 1 := by unfold mx; omega
    have hpc := parts_count w
    unfold u_brepkernellaw43_NamesParts_l0
    have e97 : ByteArray.mk #[97] = bs [97] := rfl
    simp only [ltI_eq, lenL_eq, strL_len, e97, decide_eq_true (show ((i : Nat) : Int) < 3 by omega), cond_true, chkI_nat (show ((i : Nat) : Int) < (([r, w1, w2].length : Nat) : Int) by omega), idxN_eq, hg, obS, T_cell_v, T_str, s_Feature hx, r_Feature hx,
      s_Valid hx, r_Valid hx, s_Parts hx, r_Parts hx, r_Same (show (partsL w).length < mx by omega), s_From hx1, r_From hx1, eqS_bs, decide_true, Bool.not_true, cond_false, eqB_eq, beq_self_eq_true, addI_eq, wr_succ (show i < mx by unfold mx; omega)]
end Go.Eng.Np
