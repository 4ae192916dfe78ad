/- An engine that turns the code of a function into a plain function on tuples, part 4: what it says of a function holds of every run; it has no conditions of its own. -/
import Derived.OpenShut
import Derived.Test.YtpgikmmiapcojaaEng3
set_option linter.unusedSimpArgs false
set_option linter.unusedVariables false

/- The engine: arguments of plain types (numbers, bools, strings, slices, structs, arrays), read as trees. -/
namespace Go.Eng
open Go.RowKit Go.ChangeShapes Go.WideShapes

section
variable (P : Program)
def consec : List Field → Nat → Option Nat
  | [], k => some k
  | g :: l, k => if g.offset = k then consec l (k + P.cellsOf g.type) else none
/-- No pointer, map, interface or function lies in it. -/
def plainTy : Nat → TypeId → Bool
  | 0, _ => false
  | f + 1, t => match P.underlying t with
    | some (.int _) => true
    | some .bool => true
    | some .string => true
    | some (.slice e) => plainTy f e && decide (0 < P.cellsOf e ∧ P.cellsOf e < 1000000000)
    | some (.struct fs) => decide (consec P fs.toList 0 = some (P.cellsOf t)) && fs.toList.all fun g => plainTy f g.type
    | some (.array n e) => plainTy f e && decide (P.cellsOf t = n * P.cellsOf e)
    | _ => false
variable {H : Type}
/-- A datum's cells, as trees. -/
def treesD : Nat → TypeId → DataW H → List T
  | 0, _, _ => []
  | f + 1, t, d => match P.underlying t with
    | some (.int k) => match d with
      | .lit (.int _ n) => [.v (.int k n)]
      | _ => []
    | some .bool => match d with
      | .lit (.bool b) => [.v (.bool b)]
      | _ => []
    | some .string => match d with
      | .lit (.string l) => [.v (.string ⟨l.toArray⟩)]
      | _ => []
    | some (.slice e) => match d with
      | .slice es _ => [.sl (P.cellsOf e) (es.map fun x => mkT (P.cellsOf e) (treesD f e x))]
      | _ => [.sl (P.cellsOf e) []]
    | some (.struct fs) => match d with
      | .agg ps => (fs.toList.zip ps).flatMap fun q => treesD f q.1.type q.2
      | _ => []
    | some (.array _ e) => match d with
      | .agg ps => ps.flatMap fun x => treesD f e x
      | _ => []
    | _ => []
/-- The datum is one of the type. -/
def wfD : Nat → TypeId → DataW H → Prop
  | 0, _, _ => False
  | f + 1, t, d => match P.underlying t with
    | some (.int k) => ∃ n, d = .lit (.int k n) ∧ (Lit.int k n).wf = true
    | some .bool => ∃ b, d = .lit (.bool b)
    | some .string => ∃ l, d = .lit (.string l)
    | some (.slice e) => d = .nil ∨ ∃ es sp, d = .slice es sp ∧ es.length ≤ maxLen ∧ ∀ x ∈ es, wfD f e x
    | some (.struct fs) => ∃ ps, d = .agg ps ∧ ps.length = fs.size ∧ ∀ (i : Nat) g p, fs[i]? = some g → ps[i]? = some p → wfD f g.type p
    | some (.array n e) => ∃ ps, d = .agg ps ∧ ps.length = n ∧ ∀ x ∈ ps, wfD f e x
    | _ => False
end

def NoAgg (l : List T) : Prop := ∀ t ∈ l, ∀ m, t ≠ .agg m
theorem RdT.nil' {w : World} {X : Nat → Prop} : RdT w X [] [] := ⟨rfl, fun i t y h => by simp at h⟩
theorem RdT.one' {w : World} {X : Nat → Prop} {t : T} {y : Value} (h : Rd w X t y) (h1 : y.oneCell' = true) : RdT w X [t] [y] := ⟨rfl, fun i t' y' e1 e2 => by
  cases i with
  | zero => simp at e1 e2; subst e1; subst e2; exact ⟨h, h1⟩
  | succ i => simp at e1⟩
theorem RdT.app' {w : World} {X : Nat → Prop} {l m : List T} {ys zs : List Value} (h : RdT w X l ys) (h' : RdT w X m zs) : RdT w X (l ++ m) (ys ++ zs) := by
  refine ⟨by simp [h.1, h'.1], fun i t y e1 e2 => ?_⟩
  rw [List.getElem?_append] at e1 e2
  rw [h.1] at e2
  split at e1
  · rename_i hi
    rw [if_pos hi] at e2
    exact h.2 i t y e1 e2
  · rename_i hi
    rw [if_neg hi] at e2
    exact h'.2 _ t y e1 e2
theorem NoAgg.app {l m : List T} (h : NoAgg l) (h' : NoAgg m) : NoAgg (l ++ m) := fun t ht => by
  rcases List.mem_append.1 ht with ht | ht
  · exact h t ht
  · exact h' t ht
theorem drop_split {α : Type} (l : List α) (k n : Nat) : l.drop k = (l.drop k).take n ++ l.drop (k + n) := by
  rw [← List.drop_drop, List.take_append_drop]

section
variable {H : Type} {enc : TypeId × Value → H} {P : Program} {w : World}
theorem trod_tree : ∀ (f : Nat) (t : TypeId) (fuel : Nat) (cs : List Value) (x : DataW H × List MemPlace), plainTy P f t = true → DataW.trod enc P w 0 (fun _ => true) true fuel t cs = some x →
    wfD P f t x.1 ∧ RdT w (fun _ => False) (treesD P f t x.1) cs ∧ NoAgg (treesD P f t x.1) ∧ (cs.length = P.cellsOf t ∨ cs.length = 1)
  | 0, t, fuel, cs, x, hp, _ => by simp [plainTy] at hp
  | f + 1, t, fuel, cs, x, hp, h => by
    unfold plainTy at hp
    unfold wfD treesD
    split at hp
    · rename_i k ht
      obtain ⟨n, rfl, rfl, hw⟩ := DataW.trod_int ht h
      simp only [ht]
      exact ⟨⟨n, rfl, hw⟩, .one' (.v _) rfl, fun t ht m => by simp at ht; rw [ht]; simp, .inr rfl⟩
    · rename_i ht
      obtain ⟨b, rfl, rfl⟩ := DataW.trod_bool ht h
      simp only [ht]
      exact ⟨⟨b, rfl⟩, .one' (.v _) rfl, fun t ht m => by simp at ht; rw [ht]; simp, .inr rfl⟩
    · rename_i ht
      obtain ⟨s, rfl, rfl, _⟩ := DataW.trod_string ht h
      simp only [ht]
      exact ⟨⟨_, rfl⟩, .one' (.v _) rfl, fun t ht m => by simp at ht; rw [ht]; simp, .inr rfl⟩
    · rename_i e ht
      simp only [Bool.and_eq_true, decide_eq_true_eq] at hp
      obtain ⟨hpe, hc0⟩ := hp
      rcases DataW.trod_slice ht h with ⟨rfl, rfl⟩ | ⟨a, len, cap, elems, rest, n, _, rfl, rfl, hb, hl, hm, hlen, hel, _⟩
      · simp only [ht]
        exact ⟨.inl trivial, .one' (.nil _ hc0.2) rfl, fun t ht m => by simp at ht; rw [ht]; simp, .inr rfl⟩
      · simp only [ht]
        have each : ∀ (i : Nat) z, elems[i]? = some z → ∃ ys, w.cells? 0 (a.add (i * P.cellsOf e)) (P.cellsOf e) = some ys ∧ wfD P f e z.1 ∧ RdT w (fun _ => False) (treesD P f e z.1) ys ∧ NoAgg (treesD P f e z.1) := fun i z hz => by
          have hi : i < len := by rw [← hlen]; exact (List.getElem?_eq_some_iff.1 hz).1
          have he := hel i hi
          rw [hz, Option.bind_eq_some_iff] at he
          obtain ⟨ys, h1, h2⟩ := he
          obtain ⟨g1, g2, g3, _⟩ := trod_tree f e n ys z hpe h2
          exact ⟨ys, h1, g1, g2, g3⟩
        refine ⟨.inr ⟨_, _, rfl, by simp only [List.length_map]; omega, fun d hd => ?_⟩, ?_, fun t ht m => by simp at ht; rw [ht]; simp, .inr rfl⟩
        · obtain ⟨z, hz, rfl⟩ := List.mem_map.1 hd
          obtain ⟨i, hi⟩ := List.getElem?_of_mem hz
          obtain ⟨ys, _, g1, _⟩ := each i z hi
          exact g1
        · refine .one' ?_ rfl
          -- the cells of the row
          have key : ∀ (els : List (DataW H × List MemPlace)) (k : Nat), (∀ (i : Nat) z, els[i]? = some z → elems[k + i]? = some z) →
              ∃ ys : List Value, RdT w (fun _ => False) (flat ((els.map (·.1)).map fun x => mkT (P.cellsOf e) (treesD P f e x))) ys ∧ Uni (P.cellsOf e) ((els.map (·.1)).map fun x => mkT (P.cellsOf e) (treesD P f e x)) ∧
                ∀ (i : Nat) y, ys[i]? = some y → w.cell? (a.add (k * P.cellsOf e + i)) = some y := by
            intro els
            induction els with
            | nil => intro k _; exact ⟨[], .nil', .nil _, fun i y h => by simp at h⟩
            | cons z els ih =>
              intro k hk
              obtain ⟨ys1, c1, g1, g2, g3⟩ := each k z (by simpa using hk 0 z rfl)
              obtain ⟨ys2, q1, q2, q3⟩ := ih (k + 1) fun i z' hz' => by have := hk (i + 1) z' (by simpa using hz'); rwa [show k + 1 + i = k + (i + 1) by omega]
              have hcs := World.cells?_some c1
              have hlen1 : (treesD P f e z.1).length = P.cellsOf e := by rw [← g2.1]; exact hcs.2.1
              have hmk : (mkT (P.cellsOf e) (treesD P f e z.1)).cells = treesD P f e z.1 := mkT_cells hlen1 g3
              refine ⟨ys1 ++ ys2, ?_, ?_, fun i y hi => ?_⟩
              · simp only [List.map_cons]
                rw [flat_cons, hmk]
                exact g2.app' q1
              · intro t ht
                simp only [List.map_cons, List.mem_cons] at ht
                rcases ht with rfl | ht
                · rw [hmk]; exact hlen1
                · exact q2 t ht
              · rw [List.getElem?_append] at hi
                have hl1 : ys1.length = P.cellsOf e := hcs.2.1
                split at hi
                · rename_i hlt
                  have := hcs.2.2 i (by omega)
                  rw [add_add] at this
                  rw [this]; exact hi
                · rename_i hge
                  have := q3 _ y hi
                  rw [← this, hl1]
                  congr 2
                  rw [Nat.add_mul]
                  omega
          obtain ⟨ys, k1, k2, k3⟩ := key elems 0 (fun i z hz => by simpa using hz)
          have hll : ((elems.map (·.1)).map fun x => mkT (P.cellsOf e) (treesD P f e x)).length = len := by simp [hlen]
          have := Rd.sl (w := w) (X := fun _ => False) (P.cellsOf e) _ a cap ys hc0.2 (by rw [hll]; exact hl) hm k2 k1.1 (fun i y hi => ⟨by have := k3 i y hi; simpa using this, fun h => h, by
            have hlt : i < (flat ((elems.map (·.1)).map fun x => mkT (P.cellsOf e) (treesD P f e x))).length := by rw [← k1.1]; exact (List.getElem?_eq_some_iff.1 hi).1
            exact (k1.2 i _ y (List.getElem?_eq_getElem hlt) hi).2⟩) (fun i t y h1 h2 => (k1.2 i t y h1 h2).1)
          rw [hll] at this
          exact this
    · rename_i fs ht
      simp only [Bool.and_eq_true, decide_eq_true_eq, List.all_eq_true] at hp
      obtain ⟨hcon, hpf⟩ := hp
      obtain ⟨xs, n, _, rfl, hcl, hxl, hxs⟩ := DataW.trod_struct ht h
      simp only [ht]
      have each : ∀ (i : Nat) g z, fs[i]? = some g → xs[i]? = some z → wfD P f g.type z.1 ∧ RdT w (fun _ => False) (treesD P f g.type z.1) ((cs.drop g.offset).take (P.cellsOf g.type)) ∧ NoAgg (treesD P f g.type z.1) := fun i g z hg hz => by
        have h1 := hxs i g hg
        rw [hz] at h1
        obtain ⟨g1, g2, g3, _⟩ := trod_tree f g.type n _ z (hpf g (Array.mem_toList_iff.2 (Array.mem_of_getElem? hg))) h1
        exact ⟨g1, g2, g3⟩
      refine ⟨⟨_, rfl, by simpa using hxl, fun i g p hg hp => ?_⟩, ?_, ?_, .inl hcl⟩
      · rw [List.getElem?_map] at hp
        cases hz : xs[i]? with
        | none => simp [hz] at hp
        | some z => simp only [hz, Option.map_some, Option.some.injEq] at hp; subst hp; exact (each i g z hg hz).1
      · have key : ∀ (gs : List Field) (zs : List (DataW H × List MemPlace)) (k : Nat), gs.length = zs.length → consec P gs k = some cs.length → (∀ (i : Nat) g z, gs[i]? = some g → zs[i]? = some z → RdT w (fun _ => False) (treesD P f g.type z.1) ((cs.drop g.offset).take (P.cellsOf g.type))) →
            RdT w (fun _ => False) ((gs.zip (zs.map (·.1))).flatMap fun q => treesD P f q.1.type q.2) (cs.drop k) := by
          intro gs
          induction gs with
          | nil =>
            intro zs k hl hk _
            simp only [consec, Option.some.injEq] at hk
            rw [List.drop_eq_nil_of_le (by omega)]
            exact .nil'
          | cons g gs ih =>
            intro zs k hl hk hz
            cases zs with
            | nil => simp at hl
            | cons z zs =>
              simp only [consec] at hk
              split at hk
              · rename_i hoff
                have h1 := hz 0 g z rfl rfl
                rw [hoff] at h1
                rw [drop_split cs k (P.cellsOf g.type)]
                simp only [List.map_cons, List.zip_cons_cons, List.flatMap_cons]
                exact h1.app' (ih zs _ (by simpa using hl) hk fun i g' z' e1 e2 => hz (i + 1) g' z' (by simpa using e1) (by simpa using e2))
              · cases hk
        have := key fs.toList xs 0 (by rw [Array.length_toList, hxl]) (by rw [hcl]; exact hcon) fun i g z e1 e2 => (each i g z (by rw [← Array.getElem?_toList]; exact e1) e2).2.1
        rwa [List.drop_zero] at this
      · intro u hu
        obtain ⟨q, hq, hu⟩ := List.mem_flatMap.1 hu
        obtain ⟨i, hi⟩ := List.getElem?_of_mem hq
        rw [List.getElem?_zip_eq_some] at hi
        obtain ⟨e1, e2⟩ := hi
        rw [List.getElem?_map] at e2
        cases hz : xs[i]? with
        | none => simp [hz] at e2
        | some z =>
          simp only [hz, Option.map_some, Option.some.injEq] at e2
          have := (each i q.1 z (by rw [← Array.getElem?_toList]; exact e1) hz).2.2
          rw [e2] at this
          exact this u hu
    · rename_i m e ht
      simp only [Bool.and_eq_true, decide_eq_true_eq] at hp
      obtain ⟨hpe, hcc⟩ := hp
      obtain ⟨xs, n, _, rfl, hcl, hxl, hxs⟩ := DataW.trod_array ht h
      simp only [ht]
      have each : ∀ (i : Nat) z, xs[i]? = some z → wfD P f e z.1 ∧ RdT w (fun _ => False) (treesD P f e z.1) ((cs.drop (i * P.cellsOf e)).take (P.cellsOf e)) ∧ NoAgg (treesD P f e z.1) := fun i z hz => by
        have h1 := hxs i (by rw [← hxl]; exact (List.getElem?_eq_some_iff.1 hz).1)
        rw [hz] at h1
        obtain ⟨g1, g2, g3, _⟩ := trod_tree f e n _ z hpe h1
        exact ⟨g1, g2, g3⟩
      refine ⟨⟨_, rfl, by simpa using hxl, fun d hd => ?_⟩, ?_, ?_, .inl hcl⟩
      · obtain ⟨z, hz, rfl⟩ := List.mem_map.1 hd
        obtain ⟨i, hi⟩ := List.getElem?_of_mem hz
        exact (each i z hi).1
      · have key : ∀ (zs : List (DataW H × List MemPlace)) (k : Nat), (k + zs.length) * P.cellsOf e = cs.length → (∀ (i : Nat) z, zs[i]? = some z → xs[k + i]? = some z) →
            RdT w (fun _ => False) ((zs.map (·.1)).flatMap fun x => treesD P f e x) (cs.drop (k * P.cellsOf e)) := by
          intro zs
          induction zs with
          | nil =>
            intro k hk _
            rw [List.drop_eq_nil_of_le (by simp only [List.length_nil, Nat.add_zero] at hk; omega)]
            exact .nil'
          | cons z zs ih =>
            intro k hk hz
            have h1 := (each k z (by simpa using hz 0 z rfl)).2.1
            rw [drop_split cs (k * P.cellsOf e) (P.cellsOf e)]
            simp only [List.map_cons, List.flatMap_cons]
            refine h1.app' ?_
            have := ih (k + 1) (by rw [← hk]; simp only [List.length_cons]; congr 1; omega) fun i z' hz' => by have := hz (i + 1) z' (by simpa using hz'); rwa [show k + 1 + i = k + (i + 1) by omega]
            rwa [Nat.add_mul, Nat.one_mul] at this
        have := key xs 0 (by rw [Nat.zero_add, hxl, hcl, hcc]) (fun i z hz => by simpa using hz)
        rwa [Nat.zero_mul, List.drop_zero] at this
      · intro u hu
        obtain ⟨d, hd, hu⟩ := List.mem_flatMap.1 hu
        obtain ⟨z, hz, rfl⟩ := List.mem_map.1 hd
        obtain ⟨i, hi⟩ := List.getElem?_of_mem hz
        exact (each i z hi).2.2 u hu
    · cases hp
end
end Go.Eng

/- The engine: a law's contract at a row, whatever its form. -/
namespace Go.Eng
open Go.RowKit Go.ChangeShapes Go.WideShapes

theorem trodAll_len {H : Type} {enc : TypeId × Value → H} {P : Program} {W : World} : ∀ (ts : List TypeId) (vs : List Value) (ds : List (DataW H)) (p : List MemPlace), DataW.TrodAll enc P W 0 (fun _ => true) true ts vs ds p → ds.length = ts.length
  | [], vs, ds, p, h => by obtain ⟨_, rfl, _⟩ := trodAll_nil h; rfl
  | t :: ts, vs, ds, p, h => by obtain ⟨v, vs', d, ds', q, r, rfl, rfl, rfl, h1, h2⟩ := trodAll_cons h; simp [trodAll_len _ _ _ _ h2]
theorem law_contract {P : Program} {f : FuncId} {fn : Func} {s : ChangeSpec} {tb : TypeId} {H : Type} {enc : TypeId × Value → H} (hl : laidOutB P = true)
    (hread : fn.params.toList.all (fun t => P.readableRec t && decide (t < P.types.size)) = true) (hres : fn.resultTypes = #[tb]) (hb : P.underlying tb = some .bool)
    (hvars : s.vars = []) (hspec : ∀ ds : List (DataW H), ds.length = fn.params.size → s.fn H ds = { results := [.lit (.bool true)], args := ds })
    {W : World} {args : Array Value} {ds gs : List (DataW H)} {before : List MemPlace} (hW : DataW.Whole enc P fn.params.toList s.vars false W args.toList ds gs before)
    (law : ∀ p, DataW.TrodAll enc P W 0 (fun _ => true) true fn.params.toList args.toList ds p → gs = [] → Calls P f args W fun e W' => e = .returned (.bool true) ∧ Below W.heap.size W W') :
    Calls P f args W fun e W' => ∃ v, e = .returned v ∧ s.post enc P fn false true false false W args v W' := by
  have hW' := hW
  obtain ⟨p, q, hA, hV, rfl, _, _⟩ := hW
  rw [hvars] at hV
  obtain ⟨rfl, rfl⟩ := trodVars_none hV
  rw [List.append_nil] at hW'
  have hlt : ∀ x ∈ p, x.block < W.heap.size := fun x hx => hW'.lt x hx
  have hds := hspec ds (by rw [trodAll_len _ _ _ _ hA]; simp)
  refine (law p hA rfl).mono fun e W' ⟨he, hbel⟩ => ?_
  subst he
  refine ⟨_, rfl, ds, [], p, [], p, [], hW', ?_, ?_, ?_, hbel.frame _, fun h => by cases h⟩
  · rw [List.append_nil, hds, hres]
    exact trodAll_mk1 (shut_bool hb _)
  · rw [List.append_nil, hds]
    exact trodAll_below hl hbel _ _ _ _ (fun t ht => by simpa using List.all_eq_true.1 hread t ht) hA hlt
  · rw [List.append_nil, hds, hvars]; rfl
/-- An argument of one cell, of a plain type. -/
theorem rd_plain {H : Type} {enc : TypeId × Value → H} {P : Program} {W : World} {f : Nat} {t : TypeId} {v : Value} {d : DataW H} {p : List MemPlace} (hp : plainTy P f t = true) (hv : v.cells = #[v]) (h : DataW.Trod enc P W 0 (fun _ => true) true t v d p) :
    wfD P f t d ∧ ∀ x, treesD P f t d = [x] → RdS W (fun _ => False) (fun _ => none) (.c (.t x)) v := by
  obtain ⟨fuel, hf⟩ := h
  rw [hv] at hf
  obtain ⟨h1, h2, _, _⟩ := trod_tree f t fuel _ _ hp hf
  refine ⟨h1, fun x hx => ?_⟩
  rw [hx] at h2
  obtain ⟨g1, g2⟩ := h2.2 0 x v rfl rfl
  exact .inr ⟨g1, g2⟩
end Go.Eng
