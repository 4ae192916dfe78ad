/- The functions and the laws of this seat in plain words; each statement names its conditions. -/
import Derived.Test.YtgjoeikaglmoeaaDoorLaw
set_option linter.unusedSimpArgs false
set_option linter.unusedVariables false

/- lexer.written, Text, valid, Valid, told on lists of bytes. -/
namespace Go.Eng.Lex
open Go.Eng

theorem pre39 (c : UInt8) (l : Bs) : List.isPrefixOf [39] (c :: l) = decide (c.toNat = 39) := by
  have h : ((39 : UInt8) == c) = decide (c.toNat = 39) := by
    by_cases hc : c.toNat = 39
    · have : c = 39 := by rw [← UInt8.toNat_inj]; exact hc
      subst this; rfl
    · rw [decide_eq_false hc]
      simp only [beq_eq_false_iff_ne, ne_eq]
      intro e; exact hc (by rw [← e]; rfl)
  simp [List.isPrefixOf, h]
theorem dbl_none : ∀ {s : Bs}, Lib.index s [39] = -1 → dbl s = s
  | [], _ => rfl
  | c :: l, h => by
    unfold Lib.index at h
    rw [pre39] at h
    by_cases hc : c.toNat = 39
    · rw [decide_eq_true hc, if_pos rfl] at h; cases h
    · rw [decide_eq_false hc] at h
      simp only [Bool.false_eq_true, if_false] at h
      have hge := Lib.index_ge l [39]
      by_cases h1 : Lib.index l [39] = -1
      · rw [dbl, if_neg hc, dbl_none h1]
      · rw [if_neg (by simpa using h1)] at h; omega
theorem dbl_some : ∀ {s : Bs} {i : Nat}, Lib.index s [39] = i → dbl s = s.take i ++ [39, 39] ++ dbl (s.drop (i + 1))
  | [], i, h => by unfold Lib.index at h; simp at h
  | c :: l, i, h => by
    unfold Lib.index at h
    rw [pre39] at h
    by_cases hc : c.toNat = 39
    · rw [decide_eq_true hc, if_pos rfl] at h
      have : i = 0 := by omega
      subst this
      have hc' : c = 39 := by rw [← UInt8.toNat_inj]; exact hc
      rw [dbl, if_pos hc, hc']; rfl
    · rw [decide_eq_false hc] at h
      simp only [Bool.false_eq_true, if_false] at h
      have hge := Lib.index_ge l [39]
      by_cases h1 : Lib.index l [39] = -1
      · rw [if_pos (by simpa using h1)] at h; omega
      · rw [if_neg (by simpa using h1)] at h
        obtain ⟨j, rfl⟩ : ∃ j, i = j + 1 := ⟨i - 1, by omega⟩
        rw [dbl, if_neg hc, dbl_some (i := j) (by omega)]
        rfl
theorem repK : ∀ (n : Nat) (s : Bs) (k : Nat), s.length ≤ n → Lib.count s [39] ≤ k → Lib.replaceK [39] [39, 39] k s = dbl s := by
  intro n
  induction n with
  | zero =>
    intro s k hs _
    have : s = [] := List.eq_nil_of_length_eq_zero (by omega)
    subst this
    cases k with
    | zero => rfl
    | succ k => rfl
  | succ n ih =>
    intro s k hs hk
    have hge := Lib.index_ge s [39]
    by_cases h1 : Lib.index s [39] = -1
    · rw [dbl_none h1]
      cases k with
      | zero => rfl
      | succ k => rw [Lib.replaceK, if_pos (by simpa using h1)]
    · obtain ⟨i, hi⟩ : ∃ i : Nat, Lib.index s [39] = i := ⟨(Lib.index s [39]).toNat, by omega⟩
      have hc := Lib.count_hit (s := s) (sub := [39]) (by simp) hi
      obtain ⟨k', rfl⟩ : ∃ k', k = k' + 1 := ⟨k - 1, by omega⟩
      rw [Lib.replaceK_hit [39] [39, 39] k' s i hi, dbl_some hi]
      congr 1
      have hne : s ≠ [] := by intro e; subst e; simp [Lib.index] at hi
      have hpos : 0 < s.length := List.length_pos_iff.2 hne
      simp only [List.length_singleton] at hc ⊢
      exact ih _ k' (by rw [List.length_drop]; omega) (by omega)
theorem rep_dbl (s : Bs) : Lib.replaceAll s [39] [39, 39] = dbl s := by
  unfold Lib.replaceAll Lib.replace
  rw [if_neg (by decide)]
  refine repK s.length s _ (Nat.le_refl _) ?_
  unfold Lib.replaceNum
  rw [if_pos (.inl (by omega))]
  exact Nat.le_refl _
theorem s_rep {s : Bs} (hl : s.length < mx) : u_strings_ReplaceAll (bs s, (bs [39], (bs [39, 39], ()))) = some (bs (dbl s), ()) := by
  unfold u_strings_ReplaceAll
  have h1 := Lib.count_le s [39]
  have h2 : Lib.countB (bs s) (bs [39]) = Lib.count s [39] := rfl
  unfold mx at hl
  simp only [bs_size, h2, List.length_cons, List.length_nil]
  rw [if_pos ⟨by omega, by omega, by omega⟩]
  simp only [bs_data, rep_dbl]
  rfl
/-- The sign of a kind of one byte: the first that has it. -/
theorem single_loop (k : Int) (s : ByteArray) (a : Int) : loopU u_lexer_written_l1 ((), ((32 : Int), (k, (s, (a, ()))))) = some (if oneB k = [] then .inr (.inl ()) else .inl (bs (oneB k), ())) := by
  have step : ∀ c : Nat, c < 127 → u_lexer_written_l1 ((), ((c : Int), (k, (s, (a, ()))))) = if (singleK (UInt8.ofNat c) : Int) ≠ 0 ∧ (singleK (UInt8.ofNat c) : Int) = k then some (.inr (.inl (bs [UInt8.ofNat c], ()))) else some (.inl ((), (((c + 1 : Nat) : Int), (k, (s, (a, ())))))) := fun c hc => by
    unfold u_lexer_written_l1
    have hs := s_single (UInt8.ofNat c)
    have hn : (UInt8.ofNat c).toNat = c := by rw [UInt8.toNat_ofNat']; omega
    rw [hn] at hs
    have hst : strOf [T.v (.int .u8 (c : Int))] = some (bs [UInt8.ofNat c]) := by
      have := strOf_bs [UInt8.ofNat c]
      rw [List.map_singleton, hn] at this
      exact this
    have hw : wr .u8 (addI (c : Int) 1) = ((c + 1 : Nat) : Int) := by
      rw [addI_eq]
      have : wr .u8 ((c : Int) + 1) = ((c : Int) + 1) := by
        rw [wrU8 (by omega) (by omega)]
      rw [this]; omega
    simp only [ltI_eq, hs, obS, eqI_eq, hst, hw]
    rw [decide_eq_true (show (c : Int) < 127 by omega), cond_true]
    by_cases h0 : (singleK (UInt8.ofNat c) : Int) = 0
    · rw [decide_eq_true h0, if_neg (fun h => h.1 h0)]; rfl
    · rw [decide_eq_false h0, Bool.not_false, cond_true]
      by_cases h1 : (singleK (UInt8.ofNat c) : Int) = k
      · rw [decide_eq_true h1, if_pos ⟨h0, h1⟩]; rfl
      · rw [decide_eq_false h1, if_neg (fun h => h1 h.2)]; rfl
  have fin : u_lexer_written_l1 ((), ((127 : Int), (k, (s, (a, ()))))) = some (.inr (.inr (.inl ()))) := by
    unfold u_lexer_written_l1
    simp only [ltI_eq]
    rfl
  have run : ∀ (d c : Nat), c + d = 127 → (∀ j, 32 ≤ j → j < c → ¬ ((singleK (UInt8.ofNat j) : Int) ≠ 0 ∧ (singleK (UInt8.ofNat j) : Int) = k)) → 32 ≤ c →
      loopU u_lexer_written_l1 ((), ((c : Int), (k, (s, (a, ()))))) = some (if oneB k = [] then .inr (.inl ()) else .inl (bs (oneB k), ())) := by
    intro d
    induction d with
    | zero =>
      intro c hc hno h32
      have : c = 127 := by omega
      subst this
      rw [show ((127 : Nat) : Int) = 127 from rfl, loopU_out fin]
      have hk : ¬ (6 ≤ k ∧ k ≤ 12) := fun ⟨h1, h2⟩ => by
        have e : k = 6 ∨ k = 7 ∨ k = 8 ∨ k = 9 ∨ k = 10 ∨ k = 11 ∨ k = 12 := by omega
        rcases e with rfl | rfl | rfl | rfl | rfl | rfl | rfl
        · exact hno 40 (by omega) (by omega) ⟨by decide, rfl⟩
        · exact hno 41 (by omega) (by omega) ⟨by decide, rfl⟩
        · exact hno 44 (by omega) (by omega) ⟨by decide, rfl⟩
        · exact hno 59 (by omega) (by omega) ⟨by decide, rfl⟩
        · exact hno 61 (by omega) (by omega) ⟨by decide, rfl⟩
        · exact hno 36 (by omega) (by omega) ⟨by decide, rfl⟩
        · exact hno 42 (by omega) (by omega) ⟨by decide, rfl⟩
      have : oneB k = [] := by
        unfold oneB
        rw [if_neg (by omega), if_neg (by omega), if_neg (by omega), if_neg (by omega), if_neg (by omega), if_neg (by omega), if_neg (by omega)]
      rw [if_pos this]
    | succ d ih =>
      intro c hc hno h32
      have hs := step c (by omega)
      by_cases h : (singleK (UInt8.ofNat c) : Int) ≠ 0 ∧ (singleK (UInt8.ofNat c) : Int) = k
      · rw [if_pos h] at hs
        rw [loopU_out hs]
        have hone : oneB k = [UInt8.ofNat c] := by
          obtain ⟨h0, rfl⟩ := h
          have hn : (UInt8.ofNat c).toNat = c := by rw [UInt8.toNat_ofNat']; omega
          unfold singleK at h0 ⊢
          rw [hn] at h0 ⊢
          by_cases c1 : c = 40; · subst c1; rfl
          by_cases c2 : c = 41; · subst c2; rfl
          by_cases c3 : c = 44; · subst c3; rfl
          by_cases c4 : c = 59; · subst c4; rfl
          by_cases c5 : c = 61; · subst c5; rfl
          by_cases c6 : c = 36; · subst c6; rfl
          by_cases c7 : c = 42; · subst c7; rfl
          simp [c1, c2, c3, c4, c5, c6, c7] at h0
        rw [hone, if_neg (by simp)]
      · rw [if_neg h] at hs
        rw [loopU_go hs, ih (c + 1) (by omega) (fun j h1 h2 => by
          by_cases hj : j = c
          · subst hj; exact h
          · exact hno j h1 (by omega)) (by omega)]
  exact run 95 32 (by omega) (fun j h1 h2 => by omega) (by omega)
theorem s_written {s : Bs} (hl : s.length < mx) (k a : Int) : u_lexer_written (k, (bs s, (a, ()))) = some (bs (coreK k s), ()) := by
  unfold u_lexer_written coreK
  have hd := dbl_le s
  unfold mx at hl
  simp only [eqI_eq, cond_dec, show ByteArray.mk #[39] = bs [39] from rfl, show ByteArray.mk #[39, 39] = bs [39, 39] from rfl, show ByteArray.mk #[46] = bs [46] from rfl, show ByteArray.mk #[35] = bs [35] from rfl, single_loop]
  by_cases h1 : k = 1
  · subst h1; simp
  rw [if_neg h1]
  simp only [obS, onS_l]
  by_cases h2 : k = 2
  · subst h2; simp
  rw [decide_eq_false h2, cond_false, if_neg (show ¬ (k = 1 ∨ k = 2) by omega)]
  by_cases h3 : k = 3
  · subst h3
    simp only [if_true, s_rep (show s.length < mx by unfold mx; omega), obS, catS_bs (a := [39]) (b := dbl s) (by simp; omega), catS_bs (a := [39] ++ dbl s) (b := [39]) (by simp; omega)]
    rfl
  rw [if_neg h3, if_neg h3]
  by_cases h4 : k = 4
  · subst h4
    simp only [if_true, obS, catS_bs (a := [46]) (b := s) (by simp; omega), catS_bs (a := [46] ++ s) (b := [46]) (by simp; omega)]
    rfl
  rw [if_neg h4, if_neg h4]
  by_cases h5 : k = 5
  · subst h5
    simp only [if_true, obS, catS_bs (a := [35]) (b := s) (by simp; omega)]
    rfl
  rw [if_neg h5, if_neg h5]
  by_cases h : oneB k = []
  · rw [if_pos h, h]; rfl
  · rw [if_neg h]; rfl
end Go.Eng.Lex

/- lexer.Text and the validity of tokens, told on lists of bytes. -/
namespace Go.Eng.Lex
open Go.Eng

theorem s_wide (k : Int) : u_lexer_wide (k, ()) = some (longK k, ()) := by
  unfold u_lexer_wide longK
  simp only [leI_eq]
  by_cases h : 1 ≤ k <;> simp [h]
theorem s_wb32 {out : Bs} (h : out.length ≤ 100000000000000) : u___strings_Builder__WriteByte ((), ((32 : Int), ((), (out.map byteT, ())))) = some (.v .nilIface, ((), ((out ++ [32]).map byteT, ()))) := by
  unfold u___strings_Builder__WriteByte u_copyCheck
  have : room (out.map byteT) [T.v (.int .u8 (32 : Int))] 1 = some ((out ++ [32]).map byteT) := by
    rw [room_ok (by simp; omega) (by omega), List.map_append]; rfl
  simp only [obS, this]
theorem s_wb10 {out : Bs} (h : out.length ≤ 100000000000000) : u___strings_Builder__WriteByte ((), ((10 : Int), ((), (out.map byteT, ())))) = some (.v .nilIface, ((), ((out ++ [10]).map byteT, ()))) := by
  unfold u___strings_Builder__WriteByte u_copyCheck
  have : room (out.map byteT) [T.v (.int .u8 (10 : Int))] 1 = some ((out ++ [10]).map byteT) := by
    rw [room_ok (by simp; omega) (by omega), List.map_append]; rfl
  simp only [obS, this]
theorem s_ws {out s : Bs} (h : out.length ≤ 100000000000000) (hs : s.length ≤ 10000000000) : u___strings_Builder__WriteString ((), (bs s, ((), (out.map byteT, ())))) = some (lenS (bs s), (.v .nilIface, ((), ((out ++ s).map byteT, ())))) := by
  unfold u___strings_Builder__WriteString u_copyCheck
  have : room (out.map byteT) (bytesL (bs s)) 1 = some ((out ++ s).map byteT) := by
    rw [room_ok (by simp only [bytesL_bs, List.length_map]; omega) (by omega), bytesL_bs, List.map_append]; rfl
  simp only [obS, this]
theorem s_string (out : Bs) : u_strings_Builder__String ((), ((), (out.map byteT, ()))) = some (bs out, ()) := by
  unfold u_strings_Builder__String strOf'
  simp only [strOf_bytes, obS]
  rw [if_pos (by simp only [bs_data]; rfl)]
  rfl
theorem core_le (k : Int) (s : Bs) : (coreK k s).length ≤ 2 * s.length + 3 := by
  have := wrtK_le k s
  unfold wrtK at this
  rw [List.length_append] at this
  omega
theorem s_text_loop {xs : List Tk} (hx : ∀ x ∈ xs, x.2.1.length < mx) (hn : xs.length ≤ 10000) : ∀ (d i : Nat) (out : Bs), i + d = xs.length → out.length ≤ i * 8000000004 →
    loopU u_lexer_Text_l0 (xs.map tkT, ((), (xs.map tkT, ((xs.length : Int), ((i : Int), ((), (out.map byteT, ()))))))) = some (.inl ((), ((), ((out ++ textK (prevL xs i) (xs.drop i)).map byteT, ())))) := by
  intro d
  induction d with
  | zero =>
    intro i out hi _
    have : i = xs.length := by omega
    subst this
    rw [loopU_out (e := .inl ((), ((), (out.map byteT, ())))) (by simp [u_lexer_Text_l0])]
    simp [textK]
  | succ d ih =>
    intro i out hi ho
    have hlt : i < xs.length := by omega
    obtain ⟨x, hxi⟩ : ∃ x, xs[i]? = some x := ⟨_, List.getElem?_eq_getElem hlt⟩
    have hmem : x ∈ xs := List.mem_of_getElem? hxi
    have hxl := hx x hmem
    have hdr : xs.drop i = x :: xs.drop (i + 1) := by
      obtain ⟨h1, rfl⟩ := List.getElem?_eq_some_iff.1 hxi
      exact List.drop_eq_getElem_cons h1
    obtain ⟨t1, t2, t3, _⟩ := tk_cells x
    have hpn : prevL xs (i + 1) = longK x.1 := by simp only [prevL, hxi]
    have hcl := core_le x.1 x.2.1
    have hwl := wrtK_le x.1 x.2.1
    unfold mx at hxl
    have hxl' : x.2.1.length < mx := by unfold mx; omega
    generalize hres : u_lexer_Text_l0 (xs.map tkT, ((), (xs.map tkT, ((xs.length : Int), ((i : Int), ((), (out.map byteT, ()))))))) = res
    have hF := hres
    unfold u_lexer_Text_l0 at hF
    have hnext : ∀ o : Bs, o.length ≤ out.length + 1 → res = some (.inl (xs.map tkT, ((), (xs.map tkT, ((xs.length : Int), (((i + 1 : Nat) : Int), ((), ((o ++ wrtK x.1 x.2.1).map byteT, ())))))))) →
        (o ++ wrtK x.1 x.2.1) ++ textK (longK x.1) (xs.drop (i + 1)) = out ++ textK (prevL xs i) (x :: xs.drop (i + 1)) →
        loopU u_lexer_Text_l0 (xs.map tkT, ((), (xs.map tkT, ((xs.length : Int), ((i : Int), ((), (out.map byteT, ()))))))) = some (.inl ((), ((), ((out ++ textK (prevL xs i) (xs.drop i)).map byteT, ())))) := fun o h e1 e2 => by
      rw [loopU_go (hres.trans e1), ih (i + 1) _ (by omega) (by rw [List.length_append]; omega), hpn, e2, hdr]
    have hl1 : (coreK x.1 x.2.1).length ≤ 8000000003 := by omega
    have w1 : ∀ o : Bs, o.length ≤ out.length + 1 → u___strings_Builder__WriteString ((), (bs (coreK x.1 x.2.1), ((), (o.map byteT, ())))) = some (lenS (bs (coreK x.1 x.2.1)), (.v .nilIface, ((), ((o ++ coreK x.1 x.2.1).map byteT, ())))) := fun o h => s_ws (by omega) (by omega)
    have w2 : ∀ o : Bs, o.length ≤ out.length + 1 → u___strings_Builder__WriteByte ((), ((10 : Int), ((), ((o ++ coreK x.1 x.2.1).map byteT, ())))) = some (.v .nilIface, ((), ((o ++ coreK x.1 x.2.1 ++ [10]).map byteT, ()))) := fun o h => s_wb10 (by rw [List.length_append]; omega)
    -- behind the separator
    have fin : ∀ (o : Bs), o.length ≤ out.length + 1 → ∀ {S E : Type} (g : List T → Option (S ⊕ E)),
        (bif decide (x.1 = 9) then (ob (u___strings_Builder__WriteByte ((), ((10 : Int), ((), ((o ++ coreK x.1 x.2.1).map byteT, ()))))) fun x16 => g x16.2.2.1) else g ((o ++ coreK x.1 x.2.1).map byteT)) = g ((o ++ wrtK x.1 x.2.1).map byteT) := fun o h S E g => by
      unfold wrtK
      by_cases h9 : x.1 = 9
      · rw [decide_eq_true h9, cond_true, w2 o h, if_pos h9, obS, List.append_assoc]
      · rw [decide_eq_false h9, cond_false, if_neg h9, List.append_nil]
    simp only [ltI_eq, ltn, hlt, decide_true, cond_true, idx_tk hxi, obS, t1, t2, t3, s_wide, addI_eq, subI_eq, eqI_eq] at hF
    cases i with
    | zero =>
      rw [decide_eq_false (by omega), cond_false] at hF
      simp only [obS, onS_l, t1, t2, t3, s_written hxl', w1 out (by omega)] at hF
      rw [fin out (by omega) (fun l => some (Sum.inl (xs.map tkT, ((), (xs.map tkT, ((xs.length : Int), (((0 : Nat) : Int), ((), (l, ())))))))))] at hF
      simp only [obS, onS_l] at hF
      rw [wr_succ (show 0 < mx by unfold mx; omega)] at hF
      refine hnext out (by omega) hF.symm ?_
      simp [textK, prevL]
    | succ j =>
      obtain ⟨y, hyj⟩ : ∃ y, xs[j]? = some y := ⟨_, List.getElem?_eq_getElem (by omega)⟩
      obtain ⟨y1, y2, y3, _⟩ := tk_cells y
      have hp : prevL xs (j + 1) = longK y.1 := by simp only [prevL, hyj]
      have e1 : wr .i64 (((j + 1 : Nat) : Int) - 1) = (j : Int) := by rw [wr64 (by omega) (by omega)]; omega
      rw [decide_eq_true (by omega), cond_true, e1] at hF
      simp only [idx_tk hyj, obS, y1, y2, y3, s_wide] at hF
      rw [hp] at hnext ⊢
      cases hxk : longK x.1 with
      | false =>
        rw [hxk, cond_false] at hF
        simp only [obS, onS_l, t1, t2, t3, s_written hxl', w1 out (by omega)] at hF
        rw [fin out (by omega) (fun l => some (Sum.inl (xs.map tkT, ((), (xs.map tkT, ((xs.length : Int), (((j + 1 : Nat) : Int), ((), (l, ())))))))))] at hF
        simp only [obS, onS_l] at hF
        rw [wr_succ (show j + 1 < mx by unfold mx; omega)] at hF
        refine hnext out (by omega) hF.symm ?_
        simp [textK, hxk]
      | true =>
        rw [hxk, cond_true] at hF
        generalize hyk : longK y.1 = b at *
        cases b with
        | false =>
          rw [cond_false] at hF
          simp only [obS, onS_l, t1, t2, t3, s_written hxl', w1 out (by omega)] at hF
          rw [fin out (by omega) (fun l => some (Sum.inl (xs.map tkT, ((), (xs.map tkT, ((xs.length : Int), (((j + 1 : Nat) : Int), ((), (l, ())))))))))] at hF
          simp only [obS, onS_l] at hF
          rw [wr_succ (show j + 1 < mx by unfold mx; omega)] at hF
          refine hnext out (by omega) hF.symm ?_
          simp [textK]
        | true =>
          rw [cond_true, s_wb32 (by omega)] at hF
          simp only [obS, onS_l, t1, t2, t3, s_written hxl', w1 (out ++ [32]) (by simp)] at hF
          rw [fin (out ++ [32]) (by simp) (fun l => some (Sum.inl (xs.map tkT, ((), (xs.map tkT, ((xs.length : Int), (((j + 1 : Nat) : Int), ((), (l, ())))))))))] at hF
          simp only [obS, onS_l] at hF
          rw [wr_succ (show j + 1 < mx by unfold mx; omega)] at hF
          refine hnext (out ++ [32]) (by simp) hF.symm ?_
          simp [textK, hxk]
theorem s_Text {xs : List Tk} (hx : ∀ x ∈ xs, x.2.1.length < mx) (hn : xs.length ≤ 10000) : u_lexer_Text (xs.map tkT, ()) = some (bs (textK false xs), ()) := by
  unfold u_lexer_Text
  have := s_text_loop hx hn xs.length 0 [] (by omega) (by simp)
  rw [show ((0 : Nat) : Int) = 0 from rfl, show ([] : Bs).map byteT = [] from rfl] at this
  simp only [lenL_eq, List.length_map, this, obS, onS_l, List.drop_zero, List.nil_append]
  rw [show prevL xs 0 = false from rfl, s_string]
  rfl
end Go.Eng.Lex

/- Which tokens are valid: the program and the reference agree. -/
namespace Go.Eng.Lex
open Go.Eng

theorem single_no (c : UInt8) : singleK c = 0 ∨ 6 ≤ singleK c := by
  unfold singleK
  repeat' (first | (split; right; omega))
  exact .inl rfl
theorem quot_pr : ∀ (n : Nat) (l : Bs) (q : Bs × Nat), l.length ≤ n → quotL l = some q → q.1.all prB = true := by
  intro n
  induction n with
  | zero =>
    intro l q hl h
    have : l = [] := List.eq_nil_of_length_eq_zero (by omega)
    subst this
    rw [quotL] at h; cases h
  | succ n ih =>
    intro l q hl h
    cases l with
    | nil => rw [quotL] at h; cases h
    | cons c l =>
      rw [quotL_cons] at h
      simp only [List.length_cons] at hl
      split at h
      · cases h
      · rename_i hc
        have hp : prB c = true := by unfold prB; simp; omega
        split at h
        · split at h
          · cases hq : quotL l.tail with
            | none => rw [hq] at h; cases h
            | some q' =>
              rw [hq] at h
              cases h
              simp only [List.all_cons, hp, Bool.true_and]
              exact ih _ _ (by rw [List.length_tail]; omega) hq
          · cases h; rfl
        · cases hq : quotL l with
          | none => rw [hq] at h; cases h
          | some q' =>
            rw [hq] at h
            cases h
            simp only [List.all_cons, hp, Bool.true_and]
            exact ih _ _ (by omega) hq
theorem okT32 : okT [32] := .inr ⟨32, [], rfl, by decide⟩
theorem tokL_39 (X : Bs) : tokL (39 :: X) = match quotL X with | some q => (3, q.1, q.2 + 1) | none => (3, [], 0) := by
  unfold tokL
  have a1 : upB (hd (39 :: X)) = false := (by decide : upB 39 = false)
  have a2 : dgB (hd (39 :: X)) = false := (by decide : dgB 39 = false)
  have a3 : (hd (39 :: X)).toNat = 39 := rfl
  simp only [a1, a2, a3, Bool.false_eq_true, false_or, or_self, Nat.reduceEqDiff, if_false, if_true, List.tail_cons]
  rfl
theorem tokL_46 (X : Bs) : tokL (46 :: X) = if upB (hd X) then if (hd (X.drop (runL inB X))).toNat = 46 then (4, X.take (runL inB X), runL inB X + 2) else (0, [], 0) else (0, [], 0) := by
  unfold tokL
  have a1 : upB (hd (46 :: X)) = false := (by decide : upB 46 = false)
  have a2 : dgB (hd (46 :: X)) = false := (by decide : dgB 46 = false)
  have a3 : (hd (46 :: X)).toNat = 46 := rfl
  simp only [a1, a2, a3, Bool.false_eq_true, false_or, or_self, Nat.reduceEqDiff, if_false, if_true, List.tail_cons, List.drop_succ_cons, show (46 : Nat) ≠ 39 by decide]
theorem tokL_35 (X : Bs) : tokL (35 :: X) = if runL dgB X = 0 then (0, [], 0) else (5, X.take (runL dgB X), runL dgB X + 1) := by
  unfold tokL
  have a1 : upB (hd (35 :: X)) = false := (by decide : upB 35 = false)
  have a2 : dgB (hd (35 :: X)) = false := (by decide : dgB 35 = false)
  have a3 : (hd (35 :: X)).toNat = 35 := rfl
  simp only [a1, a2, a3, Bool.false_eq_true, false_or, or_self, Nat.reduceEqDiff, if_false, if_true, List.tail_cons, show (35 : Nat) ≠ 39 by decide, show (35 : Nat) ≠ 46 by decide]
  rfl
theorem tok_conv {k : Int} {s : Bs} (h1 : 1 ≤ k) (h2 : k ≤ 12) (hw : longK k = false → s = []) (h : tokL (coreK k s ++ [32]) = (k.toNat, s, (coreK k s).length)) : validK k s = true := by
  obtain ⟨r1, r2, r3⟩ := okT_run okT32
  by_cases e1 : k = 1
  · subst e1
    have hk : coreK 1 s = s := rfl
    rw [hk] at h
    unfold tokL at h
    simp only at h
    split at h
    · rename_i hu
      simp only [Prod.mk.injEq] at h
      obtain ⟨_, _, h3⟩ := h
      rw [runL_app _ r1] at h3
      cases s with
      | nil => exact absurd hu (by decide)
      | cons c t =>
        have hu' : upB c = true := hu
        have hwd : wdB c = true := by unfold wdB; rw [hu']; rfl
        have h4 : nameL true (c :: t) = (c :: t).length := by
          unfold nameL
          rw [if_pos (show upB (hd (c :: t)) = true from hu')]
          simp only [runL, hwd, if_true] at h3
          exact h3
        unfold validK
        rw [if_pos rfl, h4]
        simp
    · repeat' split at h
      all_goals (simp only [Prod.mk.injEq] at h; obtain ⟨h3, _⟩ := h)
      all_goals first
        | (exact absurd h3 (by decide))
        | (have := single_no (hd (s ++ [32])); have h5 : (1 : Int).toNat = 1 := rfl; omega)
  by_cases e2 : k = 2
  · subst e2
    have hk : coreK 2 s = s := rfl
    rw [hk] at h
    unfold tokL at h
    simp only at h
    split at h
    · simp only [Prod.mk.injEq] at h; exact absurd h.1 (by decide)
    · split at h
      · rename_i hu
        simp only [Prod.mk.injEq] at h
        obtain ⟨_, _, h3⟩ := h
        rw [numL_app okT32] at h3
        have hne : s ≠ [] := fun e => by subst e; revert hu; decide
        unfold validK
        rw [if_neg (by decide), if_pos rfl]
        simp [hne, h3]
      · repeat' split at h
        all_goals (simp only [Prod.mk.injEq] at h; obtain ⟨h3, _⟩ := h)
        all_goals first
          | (exact absurd h3 (by decide))
          | (have := single_no (hd (s ++ [32])); have h5 : (2 : Int).toNat = 2 := rfl; omega)
  by_cases e3 : k = 3
  · subst e3
    have hk : coreK 3 s = 39 :: (dbl s ++ [39]) := rfl
    rw [hk, List.cons_append, tokL_39] at h
    unfold validK
    rw [if_neg (by decide), if_neg (by decide), if_neg (by decide), if_neg (by decide), if_pos rfl]
    split at h
    · rename_i q hq
      simp only [Prod.mk.injEq] at h
      rw [← h.2.1]
      exact quot_pr _ _ q (Nat.le_refl _) hq
    · simp only [Prod.mk.injEq, List.length_cons] at h
      omega
  by_cases e4 : k = 4
  · subst e4
    have hk : coreK 4 s = 46 :: (s ++ [46]) := rfl
    rw [hk, List.cons_append, tokL_46] at h
    have hap : s ++ [46] ++ [32] = s ++ [46, 32] := by simp
    rw [hap, runL_app inB (show runL inB [46, 32] = 0 from rfl)] at h
    split at h
    · rename_i hu
      split at h
      · simp only [Prod.mk.injEq, List.length_cons, List.length_append, List.length_nil] at h
        obtain ⟨_, _, h3⟩ := h
        have h4 : runL inB s = s.length := by omega
        cases s with
        | nil => exact absurd hu (by decide)
        | cons c t =>
          have hu' : upB c = true := hu
          have hwd : inB c = true := by unfold inB; rw [hu']; rfl
          have h5 : nameL false (c :: t) = (c :: t).length := by
            unfold nameL
            rw [if_pos (show upB (hd (c :: t)) = true from hu')]
            simp only [runL, hwd, if_true] at h4
            exact h4
          unfold validK
          rw [if_neg (by decide), if_neg (by decide), if_pos rfl, h5]
          simp
      · simp only [Prod.mk.injEq] at h; exact absurd h.1 (by decide)
    · simp only [Prod.mk.injEq] at h; exact absurd h.1 (by decide)
  by_cases e5 : k = 5
  · subst e5
    have hk : coreK 5 s = 35 :: s := rfl
    rw [hk, List.cons_append, tokL_35, runL_app _ r3] at h
    split at h
    · simp only [Prod.mk.injEq] at h; exact absurd h.1 (by decide)
    · rename_i hn
      simp only [Prod.mk.injEq, List.length_cons] at h
      obtain ⟨_, _, h3⟩ := h
      have h4 : runL dgB s = s.length := by omega
      have hne : s ≠ [] := fun e => by subst e; exact hn rfl
      unfold validK
      rw [if_neg (by decide), if_neg (by decide), if_neg (by decide), if_pos rfl]
      simp [hne, h4]
  have hs : s = [] := hw (by unfold longK; rw [decide_eq_false (show ¬ k ≤ 5 by omega)]; simp)
  unfold validK
  rw [if_neg e1, if_neg e2, if_neg e4, if_neg e5, if_neg e3]
  simp [hs]; omega
theorem s_valid {s : Bs} (hl : s.length ≤ 1000000000) (k a : Int) : u_lexer_valid (k, (bs s, (a, ()))) = some (validK k s, ()) := by
  have hm : s.length < mx := by unfold mx; omega
  have hc := core_le k s
  have hval : ∀ (h1 : 1 ≤ k) (h2 : k ≤ 12) (hw : longK k = false → s = []), (ob (u_lexer_written (k, (bs s, (a, ())))) fun x4 => (ob (catS x4.1 (ByteArray.mk #[32])) fun x5 => (ob (u_lexer_token (x5, ((0 : Int), ()))) fun x6 => (bif (eqI x6.2.2.2.1 (lenS x4.1)) then (bif (eqI x6.1 k) then (some ((eqS x6.2.1 (bs s)), ())) else (some (Bool.false, ()))) else (some (Bool.false, ())))))) = some (validK k s, ()) := fun h1 h2 hw => by
    have ht := s_token (l := coreK k s ++ [32]) (i := 0) (by rw [List.length_append]; unfold mx; simp; omega) (by simp)
    rw [show ((0 : Nat) : Int) = 0 from rfl, List.drop_zero] at ht
    simp only [s_written hm, obS, show ByteArray.mk #[32] = bs [32] from rfl, catS_bs (a := coreK k s) (b := [32]) (by simp; omega), ht, eqI_eq, lenS_bs, eqS_bs, Nat.zero_add]
    cases hv : validK k s with
    | true =>
      obtain ⟨hb, _⟩ := tok_back (r := [32]) hv (fun _ => okT32)
      rw [hb]
      simp only [decide_true, cond_true]
      rw [decide_eq_true (show ((k.toNat : Nat) : Int) = k by omega)]
      rfl
    | false =>
      generalize htk : tokL (coreK k s ++ [32]) = tk
      obtain ⟨kk, t, n⟩ := tk
      by_cases c1 : n = (coreK k s).length
      · by_cases c2 : (kk : Int) = k
        · by_cases c3 : t = s
          · have := tok_conv h1 h2 hw (by rw [htk, c1, c3]; congr 1; omega)
            rw [hv] at this; cases this
          · simp only [c1, c2, c3, decide_true, decide_false, cond_true]
        · simp only [c1, c2, decide_true, decide_false, cond_true, cond_false]
      · rw [decide_eq_false (show ¬ ((n : Int) = ((coreK k s).length : Int)) by omega), cond_false]
  unfold u_lexer_valid
  simp only [ltI_eq, s_wide, obS, bs_nil, eqS_bs, cond_dec]
  by_cases h1 : k < 1
  · rw [if_pos h1]
    have : validK k s = false := by
      unfold validK
      rw [if_neg (by omega), if_neg (by omega), if_neg (by omega), if_neg (by omega), if_neg (by omega), decide_eq_false (show ¬ 6 ≤ k by omega)]
      rfl
    rw [this]
  rw [if_neg h1]
  by_cases h2 : 12 < k
  · rw [if_pos h2]
    have : validK k s = false := by
      unfold validK
      rw [if_neg (by omega), if_neg (by omega), if_neg (by omega), if_neg (by omega), if_neg (by omega), decide_eq_false (show ¬ k ≤ 12 by omega)]
      simp
    rw [this]
  rw [if_neg h2]
  have hv := hval (by omega) (by omega)
  cases hw : longK k with
  | true =>
    rw [Bool.not_true, cond_false]
    exact hv (fun h => by rw [hw] at h; cases h)
  | false =>
    rw [Bool.not_false, cond_true]
    by_cases hs : s = []
    · rw [decide_eq_true hs, Bool.not_true, cond_false]
      exact hv (fun _ => hs)
    · rw [decide_eq_false hs, Bool.not_false, cond_true]
      have : validK k s = false := by
        have h6 : 6 ≤ k := by
          unfold longK at hw
          rw [decide_eq_true (show 1 ≤ k by omega), Bool.true_and] at hw
          have := of_decide_eq_false hw
          omega
        unfold validK
        rw [if_neg (by omega), if_neg (by omega), if_neg (by omega), if_neg (by omega), if_neg (by omega), decide_eq_false hs]
        simp
      rw [this]
end Go.Eng.Lex

/- The laws LexerTexts and LexerBack, told on lists of bytes. -/
namespace Go.Eng.Lex
open Go.Eng

def allV (xs : List Tk) : Bool := xs.all fun x => validK x.1 x.2.1
theorem sv_loop {xs : List Tk} (hx : ∀ x ∈ xs, x.2.1.length ≤ 1000000000) (hn : xs.length ≤ 1000000) : ∀ (d i : Nat), i + d = xs.length →
    loopU u_lexer_Valid_l0 (xs.map tkT, ((xs.length : Int), ((i : Int), ()))) = some (bif allV (xs.drop i) then .inr (.inl ()) else .inl (false, ())) := by
  intro d
  induction d with
  | zero =>
    intro i hi
    have : i = xs.length := by omega
    subst this
    rw [loopU_out (e := .inr (.inl ())) (by simp [u_lexer_Valid_l0])]
    simp [allV]
  | succ d ih =>
    intro i hi
    have hlt : i < xs.length := by omega
    obtain ⟨x, hxi⟩ : ∃ x, xs[i]? = some x := ⟨_, List.getElem?_eq_getElem hlt⟩
    have hdr : xs.drop i = x :: xs.drop (i + 1) := by
      obtain ⟨h1, rfl⟩ := List.getElem?_eq_some_iff.1 hxi
      exact List.drop_eq_getElem_cons h1
    obtain ⟨t1, t2, t3, _⟩ := tk_cells x
    generalize hres : u_lexer_Valid_l0 (xs.map tkT, ((xs.length : Int), ((i : Int), ()))) = res
    have hF := hres
    unfold u_lexer_Valid_l0 at hF
    simp only [ltI_eq, ltn, hlt, decide_true, cond_true, idx_tk hxi, obS, t1, t2, t3, s_valid (hx x (List.mem_of_getElem? hxi)), addI_eq] at hF
    rw [hdr]
    unfold allV
    rw [List.all_cons]
    cases hv : validK x.1 x.2.1 with
    | false =>
      rw [hv] at hF
      rw [loopU_out (hres.trans hF.symm)]; rfl
    | true =>
      rw [hv] at hF
      simp only [Bool.not_true, cond_false] at hF
      rw [wr_succ (show i < mx by unfold mx; omega)] at hF
      rw [loopU_go (hres.trans hF.symm), ih (i + 1) (by omega)]; rfl
theorem s_Valid {xs : List Tk} (hx : ∀ x ∈ xs, x.2.1.length ≤ 1000000000) (hn : xs.length ≤ 1000000) : u_lexer_Valid (xs.map tkT, ()) = some (allV xs, ()) := by
  unfold u_lexer_Valid
  have := sv_loop hx hn xs.length 0 (by omega)
  rw [show ((0 : Nat) : Int) = 0 from rfl, List.drop_zero] at this
  simp only [lenL_eq, List.length_map, this, obS]
  cases allV xs <;> rfl
theorem rv_loop {xs : List Tk} (hx : ∀ x ∈ xs, x.2.1.length ≤ 1000000000) (hn : xs.length ≤ 1000000) : ∀ (d i : Nat), i + d = xs.length →
    loopU u_ref23_Valid_l0 (xs.map tkT, ((i : Int), ())) = some (bif allV (xs.drop i) then .inr (.inl ()) else .inl (false, ())) := by
  intro d
  induction d with
  | zero =>
    intro i hi
    have : i = xs.length := by omega
    subst this
    rw [loopU_out (e := .inr (.inl ())) (by simp [u_ref23_Valid_l0])]
    simp [allV]
  | succ d ih =>
    intro i hi
    have hlt : i < xs.length := by omega
    obtain ⟨x, hxi⟩ : ∃ x, xs[i]? = some x := ⟨_, List.getElem?_eq_getElem hlt⟩
    have hdr : xs.drop i = x :: xs.drop (i + 1) := by
      obtain ⟨h1, rfl⟩ := List.getElem?_eq_some_iff.1 hxi
      exact List.drop_eq_getElem_cons h1
    obtain ⟨t1, t2, t3, _⟩ := tk_cells x
    have hxl := hx x (List.mem_of_getElem? hxi)
    generalize hres : u_ref23_Valid_l0 (xs.map tkT, ((i : Int), ())) = res
    have hF := hres
    unfold u_ref23_Valid_l0 at hF
    simp only [ltI_eq, lenL_eq, List.length_map, ltn, hlt, decide_true, cond_true, idx_tk hxi, obS, t1, t2, t3, r_valid (s := x.2.1) (by unfold mx; omega), addI_eq] at hF
    rw [hdr]
    unfold allV
    rw [List.all_cons]
    cases hv : validK x.1 x.2.1 with
    | false =>
      rw [hv] at hF
      rw [loopU_out (hres.trans hF.symm)]; rfl
    | true =>
      rw [hv] at hF
      simp only [Bool.not_true, cond_false] at hF
      rw [wr_succ (show i < mx by unfold mx; omega)] at hF
      rw [loopU_go (hres.trans hF.symm), ih (i + 1) (by omega)]; rfl
theorem r_Valid {xs : List Tk} (hx : ∀ x ∈ xs, x.2.1.length ≤ 1000000000) (hn : xs.length ≤ 1000000) : u_ref23_Valid (xs.map tkT, ()) = some (allV xs, ()) := by
  unfold u_ref23_Valid
  have := rv_loop hx hn xs.length 0 (by omega)
  rw [show ((0 : Nat) : Int) = 0 from rfl, List.drop_zero] at this
  simp only [this, obS]
  cases allV xs <;> rfl
/-- Lists of tokens on which program and reference agree. -/
def OKs (xs : List Tk) : Prop := (∀ x ∈ xs, x.2.1.length ≤ 1000000000) ∧ xs.length ≤ 10000
theorem lists_loop {ls : List (List Tk)} (h : ∀ xs ∈ ls, OKs xs) (hn : ls.length ≤ 100) : ∀ (d i : Nat), i + d = ls.length →
    loopU u_brepkernellaw23_LexerTexts_l0 (ls.map (fun xs => T.sl 3 (xs.map tkT)), ((ls.length : Int), ((i : Int), ()))) = some (.inr (.inl ())) := by
  intro d
  induction d with
  | zero =>
    intro i hi
    have : i = ls.length := by omega
    subst this
    exact loopU_out (by simp [u_brepkernellaw23_LexerTexts_l0])
  | succ d ih =>
    intro i hi
    have hlt : i < ls.length := by omega
    obtain ⟨xs, hxi⟩ : ∃ xs, ls[i]? = some xs := ⟨_, List.getElem?_eq_getElem hlt⟩
    obtain ⟨h1, h2⟩ := h xs (List.mem_of_getElem? hxi)
    have h1' : ∀ x ∈ xs, x.2.1.length < mx := fun x hx => by have := h1 x hx; unfold mx; omega
    have hix : chkI (lenL (ls.map (fun xs => T.sl 3 (xs.map tkT)))) (i : Int) = some i := by
      rw [lenL_eq, List.length_map, chkI_int (by omega) (by omega)]; simp
    have hg : idxN (ls.map (fun xs => T.sl 3 (xs.map tkT))) i = some (T.sl 3 (xs.map tkT)) := by rw [idxN_eq, List.getElem?_map, hxi]; rfl
    have hs : T.sl? 3 (T.cell (T.sl 3 (xs.map tkT)) 0) = some (xs.map tkT) := by simp
    rw [← ih (i + 1) (by omega)]
    refine loopU_go ?_
    unfold u_brepkernellaw23_LexerTexts_l0
    simp only [ltI_eq, ltn, hlt, decide_true, cond_true, hix, obS, hg, hs, s_Text h1' h2, r_Text h1' h2, s_Valid h1 (by omega), r_Valid h1 (by omega), eqS_bs, addI_eq]
    rw [wr_succ (show i < mx by unfold mx; omega)]
    cases allV xs <;> simp
theorem law_texts (zs : List Int) (raw : List Tk) (hr : ∀ x ∈ raw, x.2.1.length ≤ 1000000000) : u_brepkernellaw23_LexerTexts (zs.map intT, (raw.map tkT, ())) = some (true, ()) := by
  unfold u_brepkernellaw23_LexerTexts
  simp only [s_Light, List.length_map, obS, s_sane, ltI_eq, lenL_eq, s_Roll]
  by_cases hl : zs.length ≤ 500
  · rw [decide_eq_true hl, Bool.not_true, cond_false]
    by_cases h100 : raw.length ≤ 100
    · rw [decide_eq_false (by omega), cond_false]
      have d0 : DiceOK (zs.map intT) 0 := ⟨zs, rfl, by omega, by omega, by omega⟩
      obtain ⟨k1, s1, a1, p1, _, _, q1, d1⟩ := s_Token d0
      obtain ⟨k2, s2, a2, p2, _, _, q2, d2⟩ := s_Token d1
      obtain ⟨k3, s3, a3, p3, _, _, q3, d3⟩ := s_Token d2
      obtain ⟨ys, a4, p4, q4, r4, _⟩ := s_DTokens d3 (n := 6) (by omega) (by omega)
      simp only [p1, p2, p3, p4, obS]
      have hls := lists_loop (ls := [raw, [(k1, s1, 0), (k2, s2, 0), (k3, s3, 0)], ys]) (fun xs hxs => by
        simp only [List.mem_cons, List.not_mem_nil, or_false] at hxs
        rcases hxs with rfl | rfl | rfl
        · exact ⟨hr, by omega⟩
        · refine ⟨fun x hx => ?_, by simp⟩
          simp only [List.mem_cons, List.not_mem_nil, or_false] at hx
          rcases hx with rfl | rfl | rfl
          · show s1.length ≤ _; omega
          · show s2.length ≤ _; omega
          · show s3.length ≤ _; omega
        · exact ⟨fun x hx => by have := (r4 x hx).2.2.1; omega, by omega⟩) (by simp) 3 0 (by simp)
      have hls' : loopU u_brepkernellaw23_LexerTexts_l0 ([(T.sl 3 (raw.map tkT)), (T.sl 3 [(T.agg [(T.v (.int .i64 k1)), (T.v (.string (bs s1))), (T.v (.int .i64 0))]), (T.agg [(T.v (.int .i64 k2)), (T.v (.string (bs s2))), (T.v (.int .i64 0))]), (T.agg [(T.v (.int .i64 k3)), (T.v (.string (bs s3))), (T.v (.int .i64 0))])]), (T.sl 3 (ys.map tkT))], ((3 : Int), ((0 : Int), ()))) = some (.inr (.inl ())) := hls
      rw [show (([(T.sl 3 (raw.map tkT)), (T.sl 3 [(T.agg [(T.v (.int .i64 k1)), (T.v (.string (bs s1))), (T.v (.int .i64 0))]), (T.agg [(T.v (.int .i64 k2)), (T.v (.string (bs s2))), (T.v (.int .i64 0))]), (T.agg [(T.v (.int .i64 k3)), (T.v (.string (bs s3))), (T.v (.int .i64 0))])]), (T.sl 3 (ys.map tkT))] : List T).length : Int) = 3 from rfl, hls']
      rfl
    · rw [decide_eq_true (by omega), cond_true]
  · rw [decide_eq_false hl]; rfl
end Go.Eng.Lex
