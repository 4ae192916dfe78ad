/- An engine that turns the code of a function into a plain function on tuples, part 2: what it says of a function holds of every run; it has no conditions of its own. -/
import Derived.MapKept
import Derived.Lib.ConvBytes
import Derived.Lib.MinMax
import Derived.LoopN
import Derived.Scope
import Derived.Test.YtpgikmmiapcojaaEng1
set_option linter.unusedSimpArgs false
set_option linter.unusedVariables false

/- The engine, part J: slices, lengths, conversions, literals of slices. -/
namespace Go.Eng
open Go.RowKit

section
variable {R : Type} {P : Program} {w0 w w' : World} {F Xc X : Nat → Prop} {ρ0 : Base} {ρ : Rho} {st : St} {a : Act} {r : R}

/-- An optional operand's abstract value is that of the value. -/
def OptRd (w : World) (X : Nat → Prop) (ρ : Rho) : Option D → Option Value → Prop
  | some d, some v => RdD w X ρ d v
  | none, none => True
  | _, _ => False


theorem optInt_ok {od : Option D} {ov : Option Value} {dflt : Int} {k : Int → Option R} (h : OptRd w X ρ od ov) (hk : optInt od dflt k = some r) :
    ∃ n, k n = some r ∧ ((ov = none ∧ n = dflt) ∨ ∃ kd, ov = some (.int kd n)) := by
  cases od with
  | none =>
    cases ov with
    | none => exact ⟨dflt, hk, .inl ⟨rfl, rfl⟩⟩
    | some v => exact h.elim
  | some d =>
    cases ov with
    | none => exact h.elim
    | some v =>
      obtain ⟨kd, n, rfl, hk1⟩ := asInt'_ok h hk
      exact ⟨n, hk1, .inr ⟨kd, rfl⟩⟩

theorem sliceBounds_ok {isS : Bool} {len cap : Nat} {lo hi : Option Value} {l h : Int} (hl : (lo = none ∧ l = 0) ∨ ∃ kd, lo = some (.int kd l)) (hh : (hi = none ∧ h = len) ∨ ∃ kd, hi = some (.int kd h))
    (h0 : 0 ≤ h) (hlen : h ≤ len) (hcap : len ≤ cap) (l0 : 0 ≤ l) (hlh : l ≤ h) :
    (Instr.sliceBounds isS len cap lo hi none).run P w = .ok (l.toNat, h.toNat, cap) w := by
  have hb : ∀ (kd : IntKind) (i : Int) (n : Nat) (c : BoundsCode), 0 ≤ i → i ≤ n → (Instr.sliceBound (.int kd i) n c).run P w = .ok i.toNat w := by
    intro kd i n c h1 h2
    unfold Instr.sliceBound
    simp only [asIntOf, Sem.run_bind, Sem.run_pure, Result.andThen_ok]
    rw [Sem.run_ite, if_pos ⟨h1, h2⟩]
    rfl
  unfold Instr.sliceBounds
  rcases hh with ⟨rfl, rfl⟩ | ⟨kd, rfl⟩ <;> rcases hl with ⟨rfl, rfl⟩ | ⟨kd', rfl⟩
  · simp only [Sem.run_bind, Sem.run_pure, Result.andThen_ok]; rfl
  · simp only [Sem.run_bind, Sem.run_pure, Result.andThen_ok]
    rw [hb _ _ _ _ l0 (by omega)]
    simp only [Result.andThen_ok, Int.toNat_natCast]
  · simp only [Sem.run_bind, Sem.run_pure, Result.andThen_ok]
    rw [hb _ _ _ _ h0 (by omega)]
    simp only [Result.andThen_ok]
    rfl
  · simp only [Sem.run_bind, Sem.run_pure, Result.andThen_ok]
    rw [hb _ _ _ _ h0 (by omega)]
    simp only [Result.andThen_ok]
    rw [hb _ _ _ _ l0 (by omega)]
    simp only [Result.andThen_ok]

theorem sliceBounds3_ok {len cap : Nat} {lo : Option Value} {l h m : Int} {kh km : IntKind} (hl : (lo = none ∧ l = 0) ∨ ∃ kd, lo = some (.int kd l)) (m0 : 0 ≤ m) (hm : m ≤ cap) (h0 : 0 ≤ h) (hhm : h ≤ m) (l0 : 0 ≤ l) (hlh : l ≤ h) :
    (Instr.sliceBounds true len cap lo (some (.int kh h)) (some (.int km m))).run P w = .ok (l.toNat, h.toNat, m.toNat) w := by
  have hb : ∀ (kd : IntKind) (i : Int) (n : Nat) (c : BoundsCode), 0 ≤ i → i ≤ n → (Instr.sliceBound (.int kd i) n c).run P w = .ok i.toNat w := by
    intro kd i n c h1 h2
    unfold Instr.sliceBound
    simp only [asIntOf, Sem.run_bind, Sem.run_pure, Result.andThen_ok]
    rw [Sem.run_ite, if_pos ⟨h1, h2⟩]
    rfl
  unfold Instr.sliceBounds
  rcases hl with ⟨rfl, rfl⟩ | ⟨kd', rfl⟩
  · simp only [Sem.run_bind, Sem.run_pure, Result.andThen_ok]
    rw [hb _ _ _ _ m0 hm]
    simp only [Result.andThen_ok]
    rw [hb _ _ _ _ h0 (by omega)]
    simp only [Result.andThen_ok]
    rfl
  · simp only [Sem.run_bind, Sem.run_pure, Result.andThen_ok]
    rw [hb _ _ _ _ m0 hm]
    simp only [Result.andThen_ok]
    rw [hb _ _ _ _ h0 (by omega)]
    simp only [Result.andThen_ok]
    rw [hb _ _ _ _ l0 (by omega)]
    simp only [Result.andThen_ok]
/-- What a part of a slice is. -/
theorem cutO_ok {n : Nat} {c : C} {v : Value} {q : Int × (Nat × Nat → Bool → C)} (hR : Rel w0 F Xc ρ0 ρ st a w) (hc : RdC1 w (XB st.objs ρ Xc) ρ c v) (hq : cutO st n c = some q) :
    ∃ (ad : Option Addr) (L cap : Nat), v = .slice ad L cap ∧ L ≤ cap ∧ q.1 = L ∧ ∀ (lo hi m : Nat) (tg : Bool), lo ≤ hi → hi ≤ m → hi ≤ L → m ≤ cap → (tg = true → hi = m) →
      RdC1 w (XB st.objs ρ Xc) ρ (q.2 (lo, hi - lo) tg) (.slice (if m = lo then ad else ad.map (·.add (lo * n))) (hi - lo) (m - lo)) := by
  unfold cutO at hq
  split at hq
  · rename_i y
    cases hes : y.rw? n with
    | none => simp [hes] at hq
    | some es =>
      simp only [hes, Option.map_some, Option.some.injEq] at hq
      subst hq
      rcases hc with hc | ⟨hc, _⟩
      · cases hc
      obtain ⟨hnm, hes⟩ := T.rw_some hes
      have hy : Rd w (XB st.objs ρ Xc) (.sl n es) v := by
        unfold T.sl? at hes
        split at hes
        · rw [if_pos hnm] at hes; cases hes; have := Rd.inv_v hc; subst this; exact .nil n hnm
        · split at hes
          · rename_i hk; cases hes; subst hk; exact hc
          · cases hes
        · cases hes
      cases hy with
      | mp _ _ _ _ _ hbig => omega
      | nil =>
        refine ⟨none, 0, 0, rfl, Nat.le_refl _, by unfold lenL; rfl, fun lo hi m tg h1 h2 h3 h4 _ => ?_⟩
        have e1 : hi = 0 := by omega
        have e2 : lo = 0 := by omega
        have e3 : m = 0 := by omega
        subst e1; subst e2; subst e3
        refine .inr ⟨?_, rfl⟩
        show Rd _ _ (.sl n (cutN [] 0 0)) (.slice none 0 0)
        unfold cutN
        exact .nil n hnm
      | sl _ _ ad c ys _ hc' hm hu hyl hcell hr =>
        refine ⟨some ad, _, c, rfl, hc', by unfold lenL; rfl, fun lo hi m tg h1 h2 h3 h4 _ => .inr ⟨?_, rfl⟩⟩
        show Rd _ _ (.sl n (cutN es lo (hi - lo))) _
        unfold cutN
        have hlen : ((es.drop lo).take (hi - lo)).length = hi - lo := by rw [List.length_take, List.length_drop]; omega
        have hfl : flat ((es.drop lo).take (hi - lo)) = ((flat es).drop (lo * n)).take ((hi - lo) * n) := by rw [(hu.drop lo).flat_take, hu.flat_drop]
        by_cases hml : m = lo
        · rw [if_pos hml]
          have hz : hi - lo = 0 := by omega
          rw [hz, List.take_zero]
          exact .sl n [] ad _ [] hnm (Nat.zero_le _) (by omega) (.nil _) rfl (fun i y hi => by simp at hi) (fun i t y hi _ => by simp [flat] at hi)
        · rw [if_neg hml]
          have hul := hu.length
          have key : Rd w (XB st.objs ρ Xc) (.sl n ((es.drop lo).take (hi - lo))) (.slice (some (ad.add (lo * n))) ((es.drop lo).take (hi - lo)).length (m - lo)) := by
            refine .sl n _ _ _ ((ys.drop (lo * n)).take ((hi - lo) * n)) hnm (by rw [hlen]; omega) (by omega) ((hu.drop lo).take _) (by rw [hfl]; simp [hyl]) (fun i y hi => ?_) (fun i t y h1 h2 => ?_)
            · rw [List.getElem?_take] at hi
              split at hi
              · rw [List.getElem?_drop] at hi
                rw [add_add, add_block]
                exact hcell _ y hi
              · cases hi
            · rw [hfl] at h1
              rw [List.getElem?_take] at h1 h2
              split at h1
              · rename_i hlt
                rw [if_pos hlt] at h2
                rw [List.getElem?_drop] at h1 h2
                exact hr _ t y h1 h2
              · cases h1
          rw [hlen] at key
          exact key
  · rename_i key
    split at hq
    · rename_i fz e n' es hob
      split at hq
      · rename_i hn
        subst hn
        cases hq
        rcases hc with hc | ⟨hc, _⟩
        · cases hc
        obtain ⟨hv, e1, e2⟩ := hR.objs key _ hob
        have hcc : ρ key = some v := hc
        rw [hcc] at e1
        cases e1
        obtain ⟨ad, cap, hv, hlc, hnil⟩ : ∃ ad cap, v = .slice ad es.length cap ∧ es.length ≤ cap ∧ (ad = none → cap = 0) := by
          rcases row_slice e2 with ⟨rfl, rfl⟩ | ⟨a0, cap, rfl, h1, _⟩
          · exact ⟨none, 0, rfl, Nat.le_refl _, fun _ => rfl⟩
          · exact ⟨some a0, cap, rfl, h1, fun h => by cases h⟩
        subst hv
        refine ⟨ad, es.length, cap, rfl, hlc, by unfold lenL; rfl, fun lo hi m tg h1 h2 h3 h4 h5 => .inr ⟨⟨_, hcc, ad, es.length, cap, m - lo, _, rfl, rfl, by omega, by omega, by omega, fun h6 => by rw [if_neg (by omega)], fun h6 => by have := h5 h6; omega⟩, rfl⟩⟩
      · cases hq
    · cases hq
  · rename_i key m' b len tg'
    split at hq
    · rename_i hn
      subst hn
      cases hq
      rcases hc with hc | ⟨⟨hv, q1, q2⟩, _⟩
      · cases hc
      obtain ⟨ao, L, c, cc, ao', rfl, rfl, g1, g2, g3, g4, g5⟩ := q2
      refine ⟨ao', len, cc, rfl, g2, by unfold natI; rfl, fun lo hi m tg h1 h2 h3 h4 h5 => .inr ⟨?_, rfl⟩⟩
      show RdC _ _ _ (.cut key m' (addN b lo) (hi - lo) tg) _
      unfold addN
      refine ⟨_, q1, ao, L, c, m - lo, _, rfl, rfl, by omega, by omega, by omega, fun h6 => ?_, fun h6 => by have := h5 h6; omega⟩
      rw [if_neg (by omega), g4 (by omega), Option.map_map]
      cases ao with
      | none => rfl
      | some a0 => simp only [Option.map_some, Function.comp, add_add, Nat.add_mul]
    · cases hq
  · cases hq

theorem sliceK_ok {t : TypeId} {x : D} {v : Value} {lo hi mx : Option D} {vlo vhi vmx : Option Value} {k : D → Option R} (hR : Rel w0 F Xc ρ0 ρ st a w) (h : RdD w (XB st.objs ρ Xc) ρ x v) (hlo : OptRd w (XB st.objs ρ Xc) ρ lo vlo) (hhi : OptRd w (XB st.objs ρ Xc) ρ hi vhi)
    (hmx : OptRd w (XB st.objs ρ Xc) ρ mx vmx) (hk : sliceK P st t x lo hi mx k = some r) : ∃ y d, (Instr.sliceAt t v vlo vhi vmx).run P w = .ok y w ∧ RdD w (XB st.objs ρ Xc) ρ d y ∧ k d = some r := by
  unfold sliceK at hk
  split at hk
  · rename_i hu
    split at hk
    case h_2 => cases hk
    have : vmx = none := by cases vmx with | none => rfl | some v => exact hmx.elim
    subst this
    obtain ⟨s, rfl, hk1⟩ := asS_ok h hk
    obtain ⟨h', hk2, eh⟩ := optInt_ok hhi hk1
    obtain ⟨l', hk3, el⟩ := optInt_ok hlo hk2
    obtain ⟨s', hs', hk4⟩ := ob_some hk3
    clear hk hk1 hk2 hk3
    unfold subS at hs'
    split at hs'
    · rename_i hc
      obtain ⟨c1, c2, c3, c4⟩ := hc
      cases hs'
      refine ⟨_, _, ?_, .str _, hk4⟩
      unfold Instr.sliceAt
      simp only [Sem.run_bind, run_underlying hu, Result.andThen_ok]
      unfold Instr.slice
      simp only [Sem.run_bind, run_underlying hu, Result.andThen_ok, Option.isSome_none, Bool.false_eq_true, if_false, Sem.run_pure]
      rw [sliceBounds_ok el (by unfold lenS at eh; exact eh) c1 c2 (Nat.le_refl _) c3 c4]
      rfl
    · cases hs'
  · rename_i e hu
    split at hk
    case h_2 => cases hk
    rename_i n hn
    obtain ⟨c, rfl, hc, hk1⟩ := asC_ok h hk
    clear hk
    have key2 : ∀ {L cap : Nat} {ad : Option Addr} {h' l' : Int}, vmx = none → ((vhi = none ∧ h' = L) ∨ ∃ kd, vhi = some (.int kd h')) → ((vlo = none ∧ l' = 0) ∨ ∃ kd, vlo = some (.int kd l')) → 0 ≤ l' → l' ≤ h' → h' ≤ L → L ≤ cap →
        (Instr.sliceAt t (.slice ad L cap) vlo vhi vmx).run P w = .ok (.slice (if cap = l'.toNat then ad else ad.map (·.add (l'.toNat * n))) (h'.toNat - l'.toNat) (cap - l'.toNat)) w := by
      intro L cap ad h' l' hm eh el c1 c2 c3 hcap
      subst hm
      unfold Instr.sliceAt
      simp only [Sem.run_bind, run_underlying hu, Result.andThen_ok]
      unfold Instr.slice
      simp only [Sem.run_bind, run_underlying hu, Result.andThen_ok]
      rw [sliceBounds_ok el eh (by omega) c3 hcap c1 c2]
      simp only [Result.andThen_ok, run_sizeOf hn, Sem.run_bind, Sem.run_pure]
    split at hk1
    · rename_i y
      have : vmx = none := by cases vmx with | none => rfl | some v => exact hmx.elim
      obtain ⟨es, hes, hk1'⟩ := ob_some hk1
      obtain ⟨h', hk2, eh⟩ := optInt_ok hhi hk1'
      obtain ⟨l', hk3, el⟩ := optInt_ok hlo hk2
      obtain ⟨es', hes', hk4⟩ := ob_some hk3
      clear hk1 hk1' hk2 hk3
      obtain ⟨ad, L, cap, rfl, g1, g2, g3⟩ := cutO_ok (n := n) (q := (lenL es, fun p _ => .t (.sl n (cutN es p.1 p.2)))) hR hc (by simp only [cutO, hes, Option.map_some])
      dsimp only at g2 g3
      unfold cutL at hes'
      split at hes'
      case isFalse => cases hes'
      rename_i hcc
      obtain ⟨c1, c2, c3, c4⟩ := hcc
      cases hes'
      have hLe : (es.length : Int) = L := by unfold lenL at g2; exact g2
      refine ⟨_, _, key2 this (by rw [g2] at eh; exact eh) el c3 c4 (by omega) g1, ?_, hk4⟩
      have := g3 l'.toNat h'.toNat cap false (by omega) (by omega) (by omega) (Nat.le_refl _) (fun h => by cases h)
      have e3 : cutN es l'.toNat (h'.toNat - l'.toNat) = (es.take h'.toNat).drop l'.toNat := by unfold cutN; rw [List.drop_take]
      rw [e3] at this
      exact this
    · rename_i hnt
      have : vmx = none := by cases vmx with | none => rfl | some v => exact hmx.elim
      obtain ⟨q, hq, hk1'⟩ := ob_some hk1
      obtain ⟨h', hk2, eh⟩ := optInt_ok hhi hk1'
      obtain ⟨l', hk3, el⟩ := optInt_ok hlo hk2
      obtain ⟨p, hp, hk4⟩ := ob_some hk3
      clear hk1 hk1' hk2 hk3
      obtain ⟨ad, L, cap, rfl, g1, g2, g3⟩ := cutO_ok hR hc hq
      rw [g2] at hp eh
      obtain ⟨c1, c2, c3, rfl⟩ := cutI_some hp
      refine ⟨_, _, key2 this eh el c1 c2 c3 g1, ?_, hk4⟩
      have := g3 l'.toNat h'.toNat cap false (by omega) (by omega) (by omega) (Nat.le_refl _) (fun h => by cases h)
      have e3 : (h' - l').toNat = h'.toNat - l'.toNat := by omega
      rw [e3]
      exact this
    · rename_i m
      split at hk1
      case h_2 => cases hk1
      rename_i hd
      cases vmx with
      | none => exact hmx.elim
      | some vm =>
      cases vhi with
      | none => exact hhi.elim
      | some vh =>
      obtain ⟨q, hq, hk2⟩ := ob_some hk1
      obtain ⟨km, m', rfl, hk3⟩ := asInt'_ok hmx hk2
      obtain ⟨kh, h', rfl, hk4⟩ := asInt'_ok hhi hk3
      obtain ⟨l', hk5, el⟩ := optInt_ok hlo hk4
      obtain ⟨p, hp, hk6⟩ := ob_some hk5
      clear hk1 hk2 hk3 hk4 hk5
      obtain ⟨ad, L, cap, rfl, g1, g2, g3⟩ := cutO_ok hR hc hq
      rw [g2] at hp
      obtain ⟨c1, c2, c3, c4, rfl⟩ := cut3_some hp
      refine ⟨.slice (if m'.toNat = l'.toNat then ad else ad.map (·.add (l'.toNat * n))) (h'.toNat - l'.toNat) (m'.toNat - l'.toNat), _, ?_, ?_, hk6⟩
      · unfold Instr.sliceAt
        simp only [Sem.run_bind, run_underlying hu, Result.andThen_ok]
        unfold Instr.slice
        simp only [Sem.run_bind, run_underlying hu, Result.andThen_ok]
        rw [sliceBounds3_ok el (by omega) (by omega) (by omega) (by omega) c1 c2]
        simp only [Result.andThen_ok, run_sizeOf hn, Sem.run_bind, Sem.run_pure]
      · have := g3 l'.toNat h'.toNat m'.toNat true (by omega) (by omega) (by omega) (by omega) (fun _ => by omega)
        have e3 : (h' - l').toNat = h'.toNat - l'.toNat := by omega
        rw [e3]
        exact this
  · cases hk

theorem lenK_ok {t ty : TypeId} {x : D} {v : Value} {k : D → Option R} (hR : Rel w0 F Xc ρ0 ρ st a w) (h : RdD w (XB st.objs ρ Xc) ρ x v) (hk : lenK P st t x k = some r) :
    ∃ y d, (Builtin.len_ #[t] ty #[v]).run P w = .ok y w ∧ RdD w (XB st.objs ρ Xc) ρ d y ∧ k d = some r := by
  have hlen : ∀ {d : TypeDesc} {y : Value} {q : Value}, P.underlying t = some d → (match d, y with
      | .string, .string s => some (goInt s.size)
      | .array n _, _ => some (goInt n)
      | .slice _, .slice _ n _ => some (goInt n)
      | _, _ => none) = some q → (Builtin.len_ #[t] ty #[y]).run P w = .ok q w := by
    intro d y q hu he
    unfold Builtin.len_
    simp only [List.getElem?_toArray, List.getElem?_cons_zero, Sem.run_bind, run_underlying hu, Result.andThen_ok]
    split at he <;> first
      | (cases he; rfl)
      | (cases he; done)
  unfold lenK at hk
  split at hk
  · rename_i hu
    obtain ⟨s, rfl, hk1⟩ := asS_ok h hk
    exact ⟨_, _, hlen hu rfl, .int .i64 _, by unfold lenS at hk1; exact hk1⟩
  · rename_i e hu
    obtain ⟨c, rfl, hc, hk1⟩ := asC_ok h hk
    clear hk
    split at hk1
    · rename_i y
      obtain ⟨n, hn, hk2⟩ := ob_some hk1
      rcases hc with hc | ⟨hc, _⟩
      · cases hc
      · unfold T.len? at hn
        split at hn
        · cases hn
          have := Rd.inv_v hc
          subst this
          exact ⟨_, _, hlen hu rfl, .int .i64 _, hk2⟩
        · split at hn
          case isFalse => cases hn
          rename_i hnm
          cases hn
          unfold lenL at hk2
          cases hc with
          | mp _ _ _ _ _ hbig => omega
          | nil => exact ⟨_, _, hlen hu rfl, .int .i64 _, hk2⟩
          | sl => exact ⟨_, _, hlen hu rfl, .int .i64 _, hk2⟩
        · cases hn
    · rename_i key
      split at hk1
      · rename_i fz e' n' es hob
        rcases hc with hc | ⟨hc, _⟩
        · cases hc
        · obtain ⟨hv, e1, e2⟩ := hR.objs key _ hob
          simp only [RdC] at hc
          rw [hc] at e1
          cases e1
          unfold lenL at hk1
          rcases row_slice e2 with ⟨rfl, rfl⟩ | ⟨a0, cap, rfl, h1, h2, xs, hr, hcell⟩
          · exact ⟨_, _, hlen hu rfl, .int .i64 _, hk1⟩
          · exact ⟨_, _, hlen hu rfl, .int .i64 _, hk1⟩
      · cases hk1
    · rename_i key n lo len tg
      rcases hc with hc | ⟨⟨hv, q1, q2⟩, _⟩
      · cases hc
      · obtain ⟨ao, L, c, cc, ao', rfl, rfl, g1, g2, g3, g4, _⟩ := q2
        unfold natI at hk1
        exact ⟨_, _, hlen hu rfl, .int .i64 _, hk1⟩
    · rename_i key
      split at hk1
      case h_2 => cases hk1
      rename_i K hK
      split at hk1
      case h_2 => cases hk1
      rename_i l0 hob
      rcases hc with hc | ⟨⟨vs, q1, q2⟩, _⟩
      · cases hc
      · obtain ⟨hole, e', e2, n', l, vs', f1, f2, f3, f4⟩ := rrAt_ok hR hK q1
        rw [hob] at f1
        cases f1
        unfold lenL at hk1
        rcases f4.head (f3.trans q2) with ⟨rfl, rfl⟩ | ⟨a0, cap, rfl⟩
        · exact ⟨_, _, hlen hu rfl, .int .i64 _, hk1⟩
        · exact ⟨_, _, hlen hu rfl, .int .i64 _, hk1⟩
    · cases hk1
  · rename_i n e hu
    exact ⟨_, _, hlen hu rfl, .int .i64 _, hk⟩
  · rename_i kt e hu
    have hmap : ∀ {g : Nat} {es : Array MapEntry} {clock : Nat}, w.heap[g]? = some (.map es clock) → (Builtin.len_ #[t] ty #[.map (some g)]).run P w = .ok (goInt es.size) w := by
      intro g es clock hg
      unfold Builtin.len_
      simp only [List.getElem?_toArray, List.getElem?_cons_zero, Sem.run_bind, run_underlying hu, Result.andThen_ok, MapKept.run_getObj_map hg]
      rfl
    obtain ⟨c, rfl, hc, hk1⟩ := asC_ok h hk
    clear hk
    split at hk1
    · rename_i n l
      split at hk1
      case isFalse => cases hk1
      rename_i hnm
      rcases hc with hc | ⟨hc, _⟩
      · cases hc
      · unfold lenL at hk1
        cases hc with
        | mp _ _ g es clock _ hg _ hl => exact ⟨_, _, hmap hg, by rw [hl]; exact .int .i64 _, hk1⟩
        | nil => omega
        | sl => omega
    · rename_i key
      split at hk1
      · rename_i fz e' n' es hob
        rcases hc with hc | ⟨hc, _⟩
        · cases hc
        · obtain ⟨hv, e1, e2⟩ := hR.objs key _ hob
          simp only [RdC] at hc
          rw [hc] at e1
          cases e1
          unfold lenL at hk1
          obtain ⟨_, g, es', clock, rfl, hg, he, _⟩ := e2
          exact ⟨_, _, hmap hg, by rw [he.1]; exact .int .i64 _, hk1⟩
      · cases hk1
    · cases hk1
  · cases hk

theorem capsOf_ok : ∀ {l : List D} {vs : List Value} {caps : List (Nat × Nat)}, l.length = vs.length → (∀ (i : Nat) d v, l[i]? = some d → vs[i]? = some v → RdD w X ρ d v) → capsOf l = some caps →
    vs.length = caps.length ∧ ∀ (i : Nat) p v, caps[i]? = some p → vs[i]? = some v → ∃ h, ρ p.1 = some h ∧ PtrAt h p.2 v
  | [], vs, caps, hl, _, hc => by
    simp only [capsOf, Option.some.injEq] at hc
    subst hc
    exact ⟨hl.symm, fun i p v h1 _ => by simp at h1⟩
  | d :: l, vs, caps, hl, hr, hc => by
    cases vs with
    | nil => simp at hl
    | cons v vs =>
      unfold capsOf at hc
      split at hc
      · rename_i heq; cases heq
      · rename_i k j l' heq
        cases heq
        cases hcl : capsOf l with
        | none => simp [hcl] at hc
        | some caps' =>
          simp only [hcl, Option.map_some, Option.some.injEq] at hc
          subst hc
          obtain ⟨e1, e2⟩ := capsOf_ok (l := l) (vs := vs) (by simpa using hl) (fun i d v h1 h2 => hr (i + 1) d v (by simpa using h1) (by simpa using h2)) hcl
          refine ⟨by simp [e1], fun i p v' h1 h2 => ?_⟩
          cases i with
          | zero =>
            simp at h1 h2
            subst h1; subst h2
            rcases hr 0 _ _ rfl rfl with hh | ⟨hh, _⟩
            · cases hh
            · exact hh
          | succ i => exact e2 i p v' (by simpa using h1) (by simpa using h2)
      · cases hc

theorem makeFuncK_ok {fn : Fn} {first captured : List D} {vf vc : Array Value} {k : D → Option R} (hf : first.length = vf.toList.length) (hl : captured.length = vc.toList.length)
    (hr : ∀ (i : Nat) d v, captured[i]? = some d → vc.toList[i]? = some v → RdD w X ρ d v) (hk : makeFuncK fn first captured k = some r) :
    ∃ y d, (Instr.makeFunc fn vf vc).run P w = .ok y w ∧ RdD w X ρ d y ∧ k d = some r := by
  unfold makeFuncK at hk
  split at hk
  · rename_i f
    have hvf : vf = #[] := by
      have : vf.toList = [] := List.eq_nil_of_length_eq_zero hf.symm
      exact Array.toList_eq_nil_iff.1 this
    subst hvf
    split at hk
    · rename_i hc
      obtain ⟨e1, _⟩ := capsOf_ok hl hr hc
      have hvc : vc = #[] := Array.toList_eq_nil_iff.1 (List.eq_nil_of_length_eq_zero e1)
      subst hvc
      exact ⟨_, _, rfl, .val rfl, hk⟩
    · rename_i caps _ hc
      obtain ⟨e1, e2⟩ := capsOf_ok hl hr hc
      refine ⟨_, _, rfl, .one (c := .fn f caps) ⟨vc.toList, by simp, e1, e2⟩ rfl, hk⟩
    · cases hk
  · cases hk
end
end Go.Eng

/- The engine, part K: conversions, make, literals of slices. -/
namespace Go.Eng
open Go.RowKit

theorem mapM_some {α β : Type} {f : α → Option β} : ∀ {l : List α} {m : List β}, l.mapM f = some m → m.length = l.length ∧ ∀ (i : Nat) a, l[i]? = some a → ∃ b, m[i]? = some b ∧ f a = some b
  | [], m, h => by simp at h; subst h; simp
  | a :: l, m, h => by
    rw [List.mapM_cons] at h
    cases hf : f a with
    | none => simp [hf] at h
    | some b =>
      cases hl : l.mapM f with
      | none => simp [hf, hl] at h
      | some bs =>
        simp only [hf, hl, Option.bind_eq_bind, Option.bind_some, Option.pure_def, Option.some.injEq] at h
        subst h
        obtain ⟨e1, e2⟩ := mapM_some hl
        refine ⟨by simp [e1], fun i a' hi => ?_⟩
        cases i with
        | zero => simp at hi; subst hi; exact ⟨b, rfl, hf⟩
        | succ i => exact e2 i a' (by simpa using hi)

theorem push_all (bs : List UInt8) : ∀ (acc : List UInt8), (bs.foldl (fun (r : ByteArray) b => r.push b) ⟨acc.toArray⟩) = ⟨(acc ++ bs).toArray⟩ := by
  induction bs with
  | nil => intro acc; simp
  | cons b bs ih =>
    intro acc
    rw [List.foldl_cons]
    have : (⟨acc.toArray⟩ : ByteArray).push b = ⟨(acc ++ [b]).toArray⟩ := by simp [ByteArray.push]
    rw [this, ih]
    simp

section
variable {R : Type} {P : Program} {w0 w w' : World} {F Xc X : Nat → Prop} {ρ0 : Base} {ρ : Rho} {st : St} {a : Act} {r : R}

theorem convertK_ok {src dst : TypeId} {x : D} {v : Value} {k : D → Option R} (hR : Rel w0 F Xc ρ0 ρ st a w) (h : RdD w (XB st.objs ρ Xc) ρ x v) (hk : convertK P st src dst x k = some r) :
    ∃ y d, (convert src dst v).run P w = .ok y w ∧ RdD w (XB st.objs ρ Xc) ρ d y ∧ k d = some r := by
  unfold convertK at hk
  split at hk
  · rename_i ks kd hs hd
    obtain ⟨k', n, rfl, hk1⟩ := asInt'_ok h hk
    refine ⟨.int kd (kd.wrap n), _, ?_, .int kd _, by unfold wr at hk1; exact hk1⟩
    unfold convert
    simp only [Sem.run_bind, run_underlying hs, run_underlying hd, Result.andThen_ok]
    rfl
  · rename_i hs hd
    obtain ⟨s, rfl, hk1⟩ := asS_ok h hk
    refine ⟨.string s, _, ?_, .str s, hk1⟩
    unfold convert
    simp only [Sem.run_bind, run_underlying hs, run_underlying hd, Result.andThen_ok]
    rfl
  · rename_i e hs hd
    split at hk
    case h_2 => cases hk
    rename_i he
    obtain ⟨c, rfl, hc, hk1⟩ := asC_ok h hk
    clear hk
    obtain ⟨l, hk2, hu, ys, hys, hy⟩ := elemsK_ok hR hc hk1
    obtain ⟨s, hst, hk3⟩ := ob_some hk2
    clear hk1 hk2
    unfold strOf at hst
    cases hm : l.mapM T.byte? with
    | none => simp [hm] at hst
    | some bs =>
      simp only [hm, Option.map_some, Option.some.injEq] at hst
      subst hst
      obtain ⟨m1, m2⟩ := mapM_some hm
      have hconv : ∀ (ad : Option Addr) (p q : Nat), (convert src dst (.slice ad p q)).run P w = (Conv.bytesToString (.slice ad p q)).run P w := by
        intro ad p q
        unfold convert
        simp only [Sem.run_bind, run_underlying hs, run_underlying hd, Result.andThen_ok, run_underlying he]
      have hflat : flat l = l := flat_one fun t ht => by
        obtain ⟨i, hi, rfl⟩ := List.getElem_of_mem ht
        obtain ⟨b, _, hb⟩ := m2 i _ (List.getElem?_eq_getElem hi)
        unfold T.byte? at hb
        split at hb
        · rename_i heq; rw [heq]; rfl
        · cases hb
      rw [hflat] at hys
      rcases hy with ⟨q, rfl, rfl⟩ | ⟨ad, q, rfl, hq, hcell⟩
      · refine ⟨.string .empty, _, by rw [hconv]; rfl, .str _, ?_⟩
        have : bs = [] := List.eq_nil_of_length_eq_zero (by simpa using m1)
        subst this
        exact hk3
      · obtain ⟨ns, hns, hnb⟩ : ∃ ns : List Int, ys = ns.map (Value.int .u8) ∧ ns.map (fun n => UInt8.ofNat n.toNat) = bs := by
          refine ⟨ys.map intOf, ?_, ?_⟩
          · rw [List.map_map]
            apply List.ext_getElem?
            intro i
            rw [List.getElem?_map]
            cases hyi : ys[i]? with
            | none => rfl
            | some y =>
              have hlt : i < l.length := by rw [← hys.1]; exact (List.getElem?_eq_some_iff.1 hyi).1
              obtain ⟨b, _, hb⟩ := m2 i _ (List.getElem?_eq_getElem hlt)
              obtain ⟨hr, _⟩ := hys.2 i _ y (List.getElem?_eq_getElem hlt) hyi
              unfold T.byte? at hb
              split at hb
              · rename_i n heq
                rw [heq] at hr
                rw [hr.inv_v]
                rfl
              · cases hb
          · rw [List.map_map]
            apply List.ext_getElem?
            intro i
            rw [List.getElem?_map]
            cases hyi : ys[i]? with
            | none =>
              have : bs.length ≤ i := by rw [m1, ← hys.1]; exact List.getElem?_eq_none_iff.1 hyi
              rw [List.getElem?_eq_none this]; rfl
            | some y =>
              have hlt : i < l.length := by rw [← hys.1]; exact (List.getElem?_eq_some_iff.1 hyi).1
              obtain ⟨b, hbi, hb⟩ := m2 i _ (List.getElem?_eq_getElem hlt)
              obtain ⟨hr, _⟩ := hys.2 i _ y (List.getElem?_eq_getElem hlt) hyi
              unfold T.byte? at hb
              split at hb
              · rename_i n heq
                rw [heq] at hr
                rw [hr.inv_v, hbi]
                simp only [Option.some.injEq] at hb
                simp [← hb, intOf]
              · cases hb
        have hload : (loadCells ad l.length).run P w = .ok (ns.map (Value.int .u8)).toArray w := by
          have := run_loadCells_list (P := P) w ad ys hcell
          rw [hys.1] at this
          rw [this, hns]
        refine ⟨_, _, by rw [hconv]; exact run_bytesToString w ad l.length q ns hload, .str _, ?_⟩
        have hf : ns.foldl (fun r n => r.push (UInt8.ofNat n.toNat)) ByteArray.empty = ⟨bs.toArray⟩ := by
          have := push_all (ns.map (fun n => UInt8.ofNat n.toNat)) []
          rw [List.foldl_map, hnb, List.nil_append] at this
          exact this
        rw [hf]
        exact hk3
  · cases hk

/-- A row that was made at its full length. -/
theorem newRow_ok {dst : Option Nat} {e : TypeId} {n : Nat} {l : List T} {cap : Nat} {cur : Array Value} {k : St → Nat → Option R} (h : Rel w0 F Xc ρ0 ρ st a w) (hn : 0 < n ∧ n < 1000000000) (hu : Uni n l)
    (hc : l.length ≤ cap) (hm : cap ≤ maxLen) (hsz : cur.size = cap * n) (hl : RdT w (XB st.objs ρ Xc) (flat l) (cur.toList.take (l.length * n))) (hk : newK st dst (.row false e n l) k = some r) :
    ∃ ρ' st' key, Rel w0 F Xc ρ0 ρ' st' a (w.alloc (.cells cur e)) ∧ RdD (w.alloc (.cells cur e)) (XB st'.objs ρ' Xc) ρ' (.s (.c (.row key))) (.slice (some ⟨w.heap.size, 0, none⟩) l.length cap) ∧ k st' key = some r := by
  obtain ⟨d, _, hf, hk1⟩ := newK_ok hk
  have hnone : ρ (st.np + d) = none := h.objs _ _ hf
  refine ⟨_, _, _, h.new (hv := .slice (some ⟨w.heap.size, 0, none⟩) l.length cap) hf (Stp.alloc (fun _ => False) w (.cells cur e)) (fun b hb => by simp only [blk] at hb; split at hb <;> simp only [Option.some.injEq, reduceCtorEq] at hb; omega)
    (fun X' hX => ?_) (Nat.le_add_right _ _) (by simp), .one (c := .row (st.np + d)) (by simp [RdC, upd]) rfl, hk1⟩
  have hm' : l.length * n ≤ cap * n := Nat.mul_le_mul_right _ hc
  exact ⟨hn, hu, ⟨cur.toList.take (l.length * n), rowAt.of_own (b := 0) ⟨by rw [List.length_take, show cur.toList.length = cap * n from hsz]; omega, .inr ⟨w.heap.size, cap, cur, rfl, Nat.zero_le _, heap_alloc_new w _, hc, hm, hsz, rfl⟩⟩,
    hl.step (Stp.alloc (fun _ => False) _ _) (fun _ hb => False.elim hb) hX⟩, fun hc => by cases hc⟩

theorem chunks_len : ∀ (c n : Nat) (l : List T), (chunks c n l).length = c
  | 0, _, _ => rfl
  | c + 1, n, l => by simp [chunks, chunks_len c n]
theorem chunks_ok : ∀ (c n : Nat) (l : List T), l.length = c * n → 0 < n → (∀ t ∈ l, ∀ m, t ≠ .agg m) → Uni n (chunks c n l) ∧ flat (chunks c n l) = l
  | 0, n, l, h, _, _ => by
    have : l = [] := List.eq_nil_of_length_eq_zero (by simpa using h)
    subst this
    exact ⟨.nil n, rfl⟩
  | c + 1, n, l, h, hn, ha => by
    rw [Nat.add_mul, Nat.one_mul] at h
    obtain ⟨e1, e2⟩ := chunks_ok c n (l.drop n) (by simp; omega) hn (fun t ht => ha t (List.mem_of_mem_drop ht))
    have hc := mkT_cells (n := n) (ts := l.take n) (by simp; omega) (fun t ht => ha t (List.mem_of_mem_take ht))
    refine ⟨fun t ht => ?_, ?_⟩
    · simp only [chunks, List.mem_cons] at ht
      rcases ht with rfl | ht
      · rw [hc]; simp; omega
      · exact e1 t ht
    · simp only [chunks, flat_cons, hc, e2, List.take_append_drop]

theorem flatMap_const {α : Type} (c : Nat) (l : List α) : ((List.range c).flatMap fun _ => l).length = c * l.length := by
  induction c with
  | zero => simp
  | succ c ih => rw [List.range_succ, List.flatMap_append, List.length_append, ih]; simp [Nat.add_mul]

theorem flatMap_const_get {α : Type} (c : Nat) (l : List α) (i : Nat) (hi : i < c * l.length) : ((List.range c).flatMap fun _ => l)[i]? = l[i % l.length]? := by
  induction c with
  | zero => simp at hi
  | succ c ih =>
    rw [List.range_succ, List.flatMap_append, List.getElem?_append, flatMap_const]
    split
    · exact ih (by assumption)
    · rename_i hlt
      rw [Nat.add_mul, Nat.one_mul] at hi
      have : i % l.length = i - c * l.length := by
        have h1 : i = (i - c * l.length) + l.length * c := by have := Nat.mul_comm c l.length; omega
        conv => lhs; rw [h1]
        rw [Nat.add_mul_mod_self_left, Nat.mod_eq_of_lt (by omega)]
      simp [this]

theorem flat_rep (c : Nat) (x : T) : flat (List.replicate c x) = (List.range c).flatMap fun _ => x.cells := by
  induction c with
  | zero => rfl
  | succ c ih => rw [List.replicate_succ', flat_append, ih, List.range_succ, List.flatMap_append]; simp [flat]

theorem made_get (z : Array Value) (n i : Nat) (hi : i < n) (hz : 0 < z.size) : (madeCells z n).toList[i]? = z.toList[i % z.size]? := by
  have hlt : i % z.size < z.size := Nat.mod_lt _ hz
  unfold madeCells
  rw [Array.getElem?_toList, Array.getElem?_map, Array.getElem?_range, if_pos hi, Option.map_some, Array.getElem?_toList, getElem!_pos z _ hlt, Array.getElem?_eq_getElem hlt]

theorem made_rd {z : Array Value} {ts : List T} {c m : Nat} (h : RdT w X ts z.toList) (hz : 0 < z.size) (hm : c * z.size ≤ m) : RdT w X ((List.range c).flatMap fun _ => ts) ((madeCells z m).toList.take (c * z.size)) := by
  have hl := h.1
  rw [Array.length_toList] at hl
  refine ⟨by rw [List.length_take, Array.length_toList, size_madeCells, flatMap_const, ← hl, Nat.min_eq_left hm], fun i t y h1 h2 => ?_⟩
  rw [List.getElem?_take] at h2
  split at h2
  · rename_i hi
    rw [made_get z m i (by omega) hz] at h2
    rw [flatMap_const_get c ts i (by rw [hl] at hi; exact hi), ← hl] at h1
    exact h.2 _ t y h1 h2
  · cases h2

theorem makeSliceK_ok {dst : Option Nat} {t : TypeId} {l c : D} {vl vc : Value} {k : St → D → Option R} (h : Rel w0 F Xc ρ0 ρ st a w) (hl : RdD w (XB st.objs ρ Xc) ρ l vl) (hc : RdD w (XB st.objs ρ Xc) ρ c vc)
    (hk : makeSliceK P st dst t l c k = some r) :
    ∃ y w' ρ' st' d, (Instr.makeSlice t vl vc).run P w = .ok y w' ∧ Rel w0 F Xc ρ0 ρ' st' a w' ∧ RdD w' (XB st'.objs ρ' Xc) ρ' d y ∧ k st' d = some r := by
  unfold makeSliceK at hk
  split at hk
  case h_2 => cases hk
  rename_i e ht
  split at hk
  case h_2 => cases hk
  rename_i i hi
  split at hk
  case h_2 => cases hk
  rename_i z hz
  split at hk
  case h_2 => cases hk
  rename_i cs hcs
  split at hk
  case h_2 => cases hk
  rename_i ts hts
  split at hk
  case isFalse => cases hk
  rename_i hcond
  obtain ⟨hlen, hpos⟩ := hcond
  obtain ⟨k1, l, rfl, hk1⟩ := asInt'_ok hl hk
  obtain ⟨k2, c, rfl, hk2⟩ := asInt'_ok hc hk1
  obtain ⟨p, hp, hk3⟩ := ob_some hk2
  clear hk hk1 hk2
  unfold mkLen at hp
  split at hp
  case isFalse => cases hp
  rename_i hcon
  obtain ⟨c1, c2, c3, c4⟩ := hcon
  cases hp
  obtain ⟨hz1, hz2⟩ := zcells_ok (w := w) (X := XB st.objs ρ Xc) (ρ := ρ) hcs
  obtain ⟨t1, t2, t3⟩ := treesOf_ok hz1 hts
  have hmt := mkT_cells (n := i.size) (ts := ts) hlen t3
  have hzl : z.cells.size = i.size := by have := t2.1; rw [Array.length_toList] at this; omega
  have hrun := run_make (P := P) w t e i z ht hi hz k1 k2 l c c1 c2 c3 (by simp only [maxLen] at c4; omega)
  simp only [repL] at hk3
  have hmul : l.toNat * i.size ≤ c.toNat * i.size := Nat.mul_le_mul_right _ (by omega)
  obtain ⟨ρ', st', key, hR, hd, hk4⟩ := newRow_ok (cap := c.toNat) (cur := madeCells z.cells (c.toNat * i.size)) h hpos (fun t ht => by rw [List.eq_of_mem_replicate ht, hmt, hlen]) (by simp; omega) (by omega) (size_madeCells _ _) (by
    rw [flat_rep, hmt, List.length_replicate, ← hzl]
    exact made_rd t2 (by omega) (by rw [hzl]; exact hmul)) hk3
  rw [List.length_replicate] at hd
  exact ⟨_, _, ρ', st', _, hrun, hR, hd, hk4⟩

theorem makeRRK_ok {dst : Option Nat} {t : TypeId} {l c : D} {vl vc : Value} {k : St → D → Option R} (h : Rel w0 F Xc ρ0 ρ st a w) (hl : RdD w (XB st.objs ρ Xc) ρ l vl) (hc : RdD w (XB st.objs ρ Xc) ρ c vc)
    (hk : makeRRK P st dst t l c k = some r) :
    ∃ y w' ρ' st' d, (Instr.makeSlice t vl vc).run P w = .ok y w' ∧ Rel w0 F Xc ρ0 ρ' st' a w' ∧ RdD w' (XB st'.objs ρ' Xc) ρ' d y ∧ k st' d = some r := by
  unfold makeRRK at hk
  split at hk
  case h_2 => cases hk
  rename_i e ht
  split at hk
  case h_2 => cases hk
  rename_i i e2 hi he2
  split at hk
  case h_2 => cases hk
  rename_i n hz hn2
  split at hk
  case isFalse => cases hk
  rename_i hcond
  obtain ⟨hsz, hpos⟩ := hcond
  obtain ⟨k1, l, rfl, hk1⟩ := asInt'_ok hl hk
  obtain ⟨k2, c, rfl, hk2⟩ := asInt'_ok hc hk1
  obtain ⟨p, hp, hk3⟩ := ob_some hk2
  clear hk hk1 hk2
  unfold mkLen at hp
  split at hp
  case isFalse => cases hp
  rename_i hcon
  obtain ⟨c1, c2, c3, c4⟩ := hcon
  cases hp
  have hrun := run_make (P := P) w t e i (.slice none 0 0) ht hi hz k1 k2 l c c1 c2 c3 (by simp only [maxLen] at c4; omega)
  simp only [repL] at hk3
  obtain ⟨d, _, hf, hk4⟩ := newK_ok hk3
  rw [hsz, Nat.mul_one] at hrun
  have hone : (Value.slice none 0 0).cells = #[.slice none 0 0] := rfl
  have hms : (madeCells #[Value.slice none 0 0] c.toNat).size = c.toNat := size_madeCells _ _
  have hget : ∀ j, j < c.toNat → (madeCells #[Value.slice none 0 0] c.toNat).toList[j]? = some (.slice none 0 0) := fun j hj => by
    rw [made_get _ _ _ hj (by decide)]
    have : j % (#[Value.slice none 0 0] : Array Value).size = 0 := Nat.mod_one j
    rw [this]; rfl
  have hlc : l.toNat ≤ c.toNat := by omega
  have hcm : c.toNat ≤ maxLen := by omega
  refine ⟨_, _, _, _, _, hrun, h.newG (hv := .tuple (.slice (some ⟨w.heap.size, 0, none⟩) l.toNat c.toNat :: List.replicate l.toNat (.slice none 0 0)).toArray) (o := .rr none e e2 n (List.replicate l.toNat [])) hf
    (Stp.alloc (fun _ => False) w (.cells (madeCells #[.slice none 0 0] c.toNat) e)) (fun b hb => ?_) (fun X' hX => ?_) (Nat.le_add_right _ _) (by simp), .one (c := .rk (st.np + d)) ⟨(.slice (some ⟨w.heap.size, 0, none⟩) l.toNat c.toNat :: List.replicate l.toNat (.slice none 0 0)).toArray, by simp [upd], rfl⟩ rfl, hk4⟩
  · rcases hb with hb | ⟨vs, hvs, y, hy, hyb⟩
    · cases hb
    · cases hvs
      simp only [List.mem_cons] at hy
      rcases hy with rfl | hy
      · simp only [blk] at hyb; split at hyb <;> simp only [Option.some.injEq, reduceCtorEq] at hyb; omega
      · rw [List.eq_of_mem_replicate hy] at hyb; cases hyb
  · have hnilb : ∀ (j : Nat) y b, (List.replicate l.toNat (Value.slice none 0 0))[j]? = some y → ¬ blk y = some b := fun j y b hj hb => by
      rw [List.eq_of_mem_replicate (List.mem_of_getElem? hj)] at hb; cases hb
    refine ⟨hpos, .slice (some ⟨w.heap.size, 0, none⟩) l.toNat c.toNat, List.replicate l.toNat (.slice none 0 0), (madeCells #[.slice none 0 0] c.toNat).toList.take (l.toNat * 1), rfl, ?_, by simp, fun j y z q1 q2 => ?_, fun j m y q1 q2 => ?_, fun j1 j2 y z b q1 q2 q3 q4 => ?_⟩
    · rw [List.length_replicate]
      exact rowAt.of_own (b := 0) ⟨by rw [List.length_take, Array.length_toList, hms]; omega, .inr ⟨w.heap.size, c.toNat, _, rfl, Nat.zero_le _, heap_alloc_new w _, hlc, hcm, hms.trans (Nat.mul_one _).symm, rfl⟩⟩
    · have hj : j < l.toNat := by have := (List.getElem?_eq_some_iff.1 q2).1; simpa using this
      rw [List.getElem?_take, if_pos (by omega), hget j (by omega)] at q1
      cases q1
      rw [List.getElem?_replicate, if_pos hj] at q2
      cases q2
      exact ⟨rfl, fun _ => rfl⟩
    · have e1 := List.eq_of_mem_replicate (List.mem_of_getElem? q1)
      have e3 := List.eq_of_mem_replicate (List.mem_of_getElem? q2)
      subst e1; subst e3
      exact ⟨.nil n, [], rowAt.nil _ _ _, ⟨rfl, fun i t y h1 _ => by simp [flat] at h1⟩⟩
    · cases j1 with
      | succ j1 => exact (hnilb j1 y b (by simpa using q1) q3).elim
      | zero => cases j2 with
        | succ j2 => exact (hnilb j2 z b (by simpa using q2) q4).elim
        | zero => rfl
theorem buildSliceK1_ok {dst : Option Nat} {t : TypeId} {len : Nat} {parts : List (Nat × D)} {vparts : Array (Nat × Value)} {k : St → D → Option R} (h : Rel w0 F Xc ρ0 ρ st a w) (hlen : parts.length = vparts.toList.length)
    (hp : ∀ (i : Nat) p q, parts[i]? = some p → vparts.toList[i]? = some q → p.1 = q.1 ∧ RdD w (XB st.objs ρ Xc) ρ p.2 q.2) (hk : buildSliceK1 P st dst t len parts k = some r) :
    ∃ y w' ρ' st' d, (Instr.buildSlice t len vparts).run P w = .ok y w' ∧ Rel w0 F Xc ρ0 ρ' st' a w' ∧ RdD w' (XB st'.objs ρ' Xc) ρ' d y ∧ k st' d = some r := by
  unfold buildSliceK1 at hk
  split at hk
  case h_2 => cases hk
  rename_i e ht
  split at hk
  case h_2 => cases hk
  rename_i i hi
  split at hk
  case h_2 => cases hk
  rename_i z hz
  split at hk
  case h_2 => cases hk
  rename_i cs hcs
  split at hk
  case isFalse => cases hk
  rename_i hcond
  obtain ⟨hcl, hpos, hlpos, hmax⟩ := hcond
  split at hk
  case h_2 => cases hk
  rename_i l hl
  split at hk
  case h_2 => cases hk
  rename_i q hfq
  obtain ⟨objs', l'⟩ := q
  dsimp only at hk
  split at hk
  case h_2 => cases hk
  rename_i tys htys
  obtain ⟨hz1, hz2⟩ := zcells_ok (w := w) (X := XB st.objs ρ Xc) (ρ := ρ) hcs
  have hzl : z.cells.size = i.size := by have := hz1.1; rw [Array.length_toList] at this; omega
  have hinit : RdL w (XB st.objs ρ Xc) ρ ((List.range len).flatMap fun _ => cs) (madeCells z.cells (len * i.size)).toList := by
    refine ⟨by rw [Array.length_toList, size_madeCells, flatMap_const, hcl], fun j c y h1 h2 => ?_⟩
    have hj : j < len * i.size := by
      have := (List.getElem?_eq_some_iff.1 h2).1
      rw [Array.length_toList, size_madeCells] at this; exact this
    rw [made_get z.cells _ j hj (by omega)] at h2
    rw [flatMap_const_get len cs j (by rw [hcl]; exact hj), hcl, ← hzl] at h1
    exact hz1.2 _ c y h1 h2
  obtain ⟨ys', e1, e2⟩ := aFill_ok (fun q => some (q * i.size, i.size)) parts vparts.toList _ _ l hinit hlen hp hl
  obtain ⟨h, e2⟩ := frzL_ok h e2 hfq
  obtain ⟨ts, hk, t1, t2, t3⟩ := treesG_ok e2 hk
  have hsize : ys'.size = len * i.size := by
    have hfill : ∀ (place : Nat → Option (Nat × Nat)) (vp : List (Nat × Value)) (ys zs : Array Value), Instr.fill place ys vp = some zs → zs.size = ys.size := by
      intro place vp
      induction vp with
      | nil => intro ys zs h; simp only [Instr.fill, Option.some.injEq] at h; rw [h]
      | cons p vp ih =>
        intro ys zs h
        obtain ⟨pi, pv⟩ := p
        simp only [Instr.fill] at h
        split at h
        · cases h
        · rename_i off size hpl
          split at h
          · cases h
          · rename_i hcnd
            have := ih _ _ h
            rw [this, ← Array.foldl_toList]
            have hf := fold_set pv.cells.toList 0 off ys (by
              simp only [ne_eq, Bool.or_eq_true, decide_eq_true_eq, not_or, Decidable.not_not] at hcnd
              rw [Array.length_toList]; omega)
            rw [Array.toList_zipIdx]
            have hl' := congrArg List.length hf
            rw [Array.length_toList] at hl'
            rw [show (fun (cs : Array Value) (x : Value × Nat) => match x with | (c, j) => cs.setIfInBounds (off + j) c) = fun cs x => cs.setIfInBounds (off + x.2) x.1 from rfl, hl']
            simp only [ne_eq, Bool.or_eq_true, decide_eq_true_eq, not_or, Decidable.not_not] at hcnd
            simp; omega
    rw [hfill _ _ _ _ e1, size_madeCells]
  have htl : ts.length = len * i.size := by have := t2.1; rw [Array.length_toList] at this; omega
  obtain ⟨u1, u2⟩ := chunks_ok len i.size ts htl hpos.1 t3
  have hlen' : len ≤ len * i.size := Nat.le_mul_of_pos_right _ hpos.1
  obtain ⟨ρ', st', key, hR, hd, hk4⟩ := newRow_ok (cap := len) (cur := ys') (e := e) h hpos u1 (by rw [chunks_len]; exact Nat.le_refl _) (by simp only [maxLen]; omega) hsize (by
    rw [u2, chunks_len, List.take_of_length_le (by rw [Array.length_toList]; omega)]
    exact t2) hk
  rw [chunks_len] at hd
  refine ⟨_, _, ρ', st', _, ?_, hR, hd, hk4⟩
  unfold Instr.buildSlice
  have hne : len * i.size ≠ 0 := by have := Nat.mul_pos hlpos hpos.1; omega
  simp only [Sem.run_bind, run_underlying ht, Result.andThen_ok, run_sizeOf (show szO P e = some i.size by simp [szO, hi])]
  rw [if_neg (by omega), if_neg hne]
  simp only [Sem.run_bind, run_zeroValue hi hz, Result.andThen_ok, Sem.run_pure]
  rw [show (Array.range (len * i.size)).map (fun x => z.cells[x % z.cells.size]!) = madeCells z.cells (len * i.size) from rfl, e1]
  simp [newRow]
theorem buildSliceK_ok {dst : Option Nat} {t : TypeId} {len : Nat} {parts : List (Nat × D)} {vparts : Array (Nat × Value)} {k : St → D → Option R} (h : Rel w0 F Xc ρ0 ρ st a w) (hlen : parts.length = vparts.toList.length)
    (hp : ∀ (i : Nat) p q, parts[i]? = some p → vparts.toList[i]? = some q → p.1 = q.1 ∧ RdD w (XB st.objs ρ Xc) ρ p.2 q.2) (hk : buildSliceK P st dst t len parts k = some r) :
    ∃ y w' ρ' st' d, (Instr.buildSlice t len vparts).run P w = .ok y w' ∧ Rel w0 F Xc ρ0 ρ' st' a w' ∧ RdD w' (XB st'.objs ρ' Xc) ρ' d y ∧ k st' d = some r := by
  unfold buildSliceK at hk
  split at hk
  · rename_i hc
    obtain ⟨rfl, hpe⟩ := hc
    have hpe' : parts = [] := List.isEmpty_iff.1 hpe
    subst hpe'
    have hv : vparts = #[] := Array.toList_eq_nil_iff.1 (List.eq_nil_of_length_eq_zero hlen.symm)
    subst hv
    split at hk
    case h_2 => cases hk
    rename_i e ht
    split at hk
    case h_2 => cases hk
    rename_i n hn
    split at hk
    case isFalse => cases hk
    rename_i hpos
    obtain ⟨ρ', st', key, hR, hd, hk4⟩ := newRow_ok (cap := 0) (cur := #[]) (e := e) (l := []) h hpos (.nil n) (Nat.le_refl _) (Nat.zero_le _) (by simp) ⟨by simp [flat], fun i t y h1 _ => by simp [flat] at h1⟩ hk
    refine ⟨_, _, ρ', st', _, ?_, hR, hd, hk4⟩
    unfold Instr.buildSlice
    simp [run_underlying ht, run_sizeOf hn, newRow, Instr.fill]
    rw [show (Array.range 0).map (fun _ => (default : Value)) = #[] from Array.ext' (by simp [Array.toList_range])]
  · exact buildSliceK1_ok h hlen hp hk
end
end Go.Eng

/- The engine: a whole array of the call's own as a slice. -/
namespace Go.Eng
open Go.RowKit

section
variable {R : Type} {P : Program} {w0 w w' : World} {F Xc X : Nat → Prop} {ρ0 : Base} {ρ : Rho} {st : St} {a : Act} {r : R}

theorem sliceArrK_ok {t : TypeId} {x : D} {vx : Value} {k : St → D → Option R} (h : Rel w0 F Xc ρ0 ρ st a w) (hx : RdD w (XB st.objs ρ Xc) ρ x vx) (hk : sliceArrK P st t x k = some r) :
    ∃ y st' d, (Instr.sliceAt t vx none none none).run P w = .ok y w ∧ Rel w0 F Xc ρ0 ρ st' a w ∧ RdD w (XB st'.objs ρ Xc) ρ d y ∧ k st' d = some r := by
  unfold sliceArrK at hk
  split at hk
  case h_2 => cases hk
  rename_i n e hu
  split at hk
  case h_2 => cases hk
  rename_i m tys key hm hty
  split at hk
  case h_2 => cases hk
  rename_i l hob
  split at hk
  case isFalse => cases hk
  rename_i hcond
  obtain ⟨hlen, hpos, hmax⟩ := hcond
  obtain ⟨hv, f1, g, ys, ty, f2, f3, f0, f4⟩ := h.objs key _ hob
  have hk9 := treesG_ok f4 hk
  obtain ⟨ts, hk1, t1, t2, t3⟩ := hk9
  rcases hx with hx | ⟨⟨hv', q1, ba, q2, q3⟩, _⟩
  · cases hx
  rw [f1] at q1
  cases q1
  rw [f2] at q2
  simp only [baseA, Option.some.injEq] at q2
  subst q2
  have hadd : (⟨g, 0, none⟩ : Addr).add 0 = ⟨g, 0, none⟩ := by unfold Addr.add; simp
  rw [hadd] at q3
  subst q3
  have hlt : key < st.objs.length := (List.getElem?_eq_some_iff.1 hob).1
  have hblk : blk hv = some g := by rw [f2]; rfl
  have hHas : Has st.objs ρ key g := ⟨_, hv, hob, rfl, f1, .inl hblk⟩
  have hnl : ∀ b, ¬ Has (st.objs.set key (.fbox (ts.map .t))) ρ key b := fun b ⟨o, v, g1, g2, _, _⟩ => by
    rw [List.getElem?_set_self hlt] at g1
    cases g1
    cases g2
  have hXX : ∀ b, XB (st.objs.set key (.fbox (ts.map .t))) ρ Xc b → XB st.objs ρ Xc b := fun b hb => by
    rcases hb with ⟨q, hq⟩ | hb
    · by_cases hqk : q = key
      · subst hqk; exact (hnl b hq).elim
      · obtain ⟨o, v, g1, g2, g3, g4⟩ := hq
        rw [List.getElem?_set_ne (Ne.symm hqk)] at g1
        exact .inl ⟨q, o, v, g1, g2, g3, g4⟩
    · exact .inr hb
  have hng : ¬ XB (st.objs.set key (.fbox (ts.map .t))) ρ Xc g := fun hb => by
    rcases hb with ⟨q, hq⟩ | hb
    · by_cases hqk : q = key
      · subst hqk; exact hnl g hq
      · obtain ⟨o, v, g1, g2, g3, g4⟩ := hq
        rw [List.getElem?_set_ne (Ne.symm hqk)] at g1
        exact hqk (h.sep q key g ⟨o, v, g1, g2, g3, g4⟩ hHas)
    · exact h.xc g hHas.mut hb
  have hts : RdT w (XB (st.objs.set key (.fbox (ts.map .t))) ρ Xc) ts ys.toList := ⟨t2.1, fun i t y e1 e2 => ⟨(t2.2 i t y e1 e2).1.weak hXX, (t2.2 i t y e1 e2).2⟩⟩
  have hR : Rel w0 F Xc ρ0 ρ { st with objs := st.objs.set key (.fbox (ts.map .t)) } a w := by
    refine h.change (Y := fun _ => False) _ ρ (· = key) (.refl _ w) (fun j hj => ⟨by rw [List.getElem?_set_ne (fun e => hj e.symm)], rfl⟩) (.refl _) (fun b hb => hb.elim)
      (fun j b hj hb => by subst hj; exact (hnl b hb).elim) (fun j j' b hj hj' _ _ => hj.trans hj'.symm) (fun hX j o hj ho => ?_) (fun _ _ => rfl)
    subst hj
    rw [List.getElem?_set_self hlt] at ho
    cases ho
    refine ⟨hv, f1, g, ys, ty, f2, f3, ⟨by simpa using hts.1, fun i c y e1 e2 => ?_⟩, hng⟩
    rw [List.getElem?_map] at e1
    cases ht : ts[i]? with
    | none => simp [ht] at e1
    | some tt =>
      simp only [ht, Option.map_some, Option.some.injEq] at e1
      subst e1
      exact .inr (hts.2 i tt y ht e2)
  have hcl := chunks_len n m ts
  have htl : ts.length = n * m := by rw [t1, hlen]
  obtain ⟨u1, u2⟩ := chunks_ok n m ts htl hpos.1 t3
  have hnm : n ≤ n * m := Nat.le_mul_of_pos_right _ hpos.1
  refine ⟨.slice (some ⟨g, 0, none⟩) n n, _, _, ?_, hR, ?_, hk1⟩
  · unfold Instr.sliceAt
    simp only [Sem.run_bind, run_underlying hu, Result.andThen_ok, Instr.sureAddr, Sem.run_pure, Instr.sliceBounds, run_sizeOf hm]
    by_cases hn0 : n = 0
    · subst hn0; rfl
    · rw [if_neg hn0]
      simp only [Nat.zero_mul, hadd, Nat.sub_zero]
  · have key : Rd w (XB (st.objs.set key (.fbox (ts.map .t))) ρ Xc) (.sl m (chunks n m ts)) (.slice (some ⟨g, 0, none⟩) (chunks n m ts).length n) := by
      refine .sl m _ _ n ys.toList hpos.2 (by rw [hcl]; exact Nat.le_refl _) (by simp only [maxLen]; omega) u1 (by rw [u2]; exact hts.1) (fun i y hi => ?_) fun i t y e1 e2 => ?_
      · have hi' : ys[i]? = some y := by simpa using hi
        have had : (⟨g, 0, none⟩ : Addr).add i = ⟨g, i, none⟩ := by unfold Addr.add; split <;> simp_all
        have hil : i < ts.length := by
          have h1 := hts.1
          rw [← h1]; exact (List.getElem?_eq_some_iff.1 hi).1
        refine ⟨by rw [had, cell_of_row w g i ys ty (0, 0) f3]; exact hi', hng, (hts.2 i _ y (List.getElem?_eq_getElem hil) hi).2⟩
      · rw [u2] at e1
        exact (hts.2 i t y e1 e2).1
    rw [hcl] at key
    exact .inr ⟨key, rfl⟩
theorem sliceG_ok {t : TypeId} {x : D} {v : Value} {lo hi mx : Option D} {vlo vhi vmx : Option Value} {k : St → D → Option R} (hR : Rel w0 F Xc ρ0 ρ st a w) (h : RdD w (XB st.objs ρ Xc) ρ x v) (hlo : OptRd w (XB st.objs ρ Xc) ρ lo vlo) (hhi : OptRd w (XB st.objs ρ Xc) ρ hi vhi)
    (hmx : OptRd w (XB st.objs ρ Xc) ρ mx vmx) (hk : sliceG P st t x lo hi mx k = some r) : ∃ y st' d, (Instr.sliceAt t v vlo vhi vmx).run P w = .ok y w ∧ Rel w0 F Xc ρ0 ρ st' a w ∧ RdD w (XB st'.objs ρ Xc) ρ d y ∧ k st' d = some r := by
  unfold sliceG at hk
  split at hk
  · split at hk
    case isFalse => cases hk
    rename_i hn
    obtain ⟨h1, h2, h3⟩ := hn
    have e1 : vlo = none := by
      cases lo with
      | none => cases vlo with | none => rfl | some v => exact hlo.elim
      | some d => cases h1
    have e2 : vhi = none := by
      cases hi with
      | none => cases vhi with | none => rfl | some v => exact hhi.elim
      | some d => cases h2
    have e3 : vmx = none := by
      cases mx with
      | none => cases vmx with | none => rfl | some v => exact hmx.elim
      | some d => cases h3
    subst e1; subst e2; subst e3
    exact sliceArrK_ok hR h hk
  · obtain ⟨y, d, q1, q2, q3⟩ := sliceK_ok (P := P) (w := w) hR h hlo hhi hmx hk
    exact ⟨y, st, d, q1, hR, q2, q3⟩
end
end Go.Eng

/- The engine: a string's bytes as a slice. -/
namespace Go.Eng
open Go.RowKit

@[irreducible] def bytesO (s : ByteArray) : Option (List T) := if s.size ≤ 140737488355328 then some (bytesL s) else none
section
variable {R : Type} (P : Program)
def convQ (st : St) (src dst : TypeId) (x : D) (k : D → Option R) : Option R :=
  match P.underlying src, P.underlying dst with
  | some .string, some (.slice e) => match P.underlying e with
    | some (.int .u8) => asS x fun s => ob (bytesO s) fun l => k (.s (.c (.t (.sl 1 l))))
    | _ => none
  | _, _ => convertK P st src dst x k
end
section
variable {R : Type} {P : Program} {w0 w : World} {F Xc : Nat → Prop} {ρ0 : Base} {ρ : Rho} {st : St} {a : Act} {r : R}
theorem bytes_flat (s : ByteArray) : flat (bytesL s) = bytesL s := by
  unfold bytesL
  induction s.data.toList with
  | nil => rfl
  | cons b l ih => rw [List.map_cons, flat_cons, ih]; rfl
theorem convQ_ok {src dst : TypeId} {x : D} {v : Value} {k : D → Option R} (hR : Rel w0 F Xc ρ0 ρ st a w) (h : RdD w (XB st.objs ρ Xc) ρ x v) (hk : convQ P st src dst x k = some r) :
    ∃ y w' d, (convert src dst v).run P w = .ok y w' ∧ Stp (fun _ => False) w w' ∧ RdD w' (XB st.objs ρ Xc) ρ d y ∧ k d = some r := by
  unfold convQ at hk
  split at hk
  · rename_i e hs hd
    split at hk
    case h_2 => cases hk
    rename_i he
    obtain ⟨s, rfl, hk1⟩ := asS_ok h hk
    obtain ⟨l, hl, hk2⟩ := ob_some hk1
    unfold bytesO at hl
    split at hl
    case isFalse => cases hl
    rename_i hsz
    cases hl
    have hrun := Lib.run_convert_string_bytes (P := P) w src dst e s hs hd he
    refine ⟨_, _, _, hrun, ⟨rfl, rfl, rfl, ?_, fun b hb _ => Lib.bytesWorld_at_old w e s b hb⟩, RdD.one (c := .t (.sl 1 (bytesL s))) ?_ rfl, hk2⟩
    · have := Lib.bytesWorld_size w e s; omega
    · have hbl : bytesL s = s.data.toList.map fun b => .v (.int .u8 b.toNat) := by unfold bytesL; rfl
      have hln : (bytesL s).length = s.size := by rw [hbl]; simp
      have key := Rd.sl (w := Lib.bytesWorld w e s) (X := XB st.objs ρ Xc) 1 (bytesL s) ⟨w.heap.size, 0, none⟩ (grownCap w s.size 0 e) (s.data.toList.map fun b => .int .u8 b.toNat)
        (by decide) (by rw [hln]; exact grownCap_ge w s.size 0 e) (grownCap_le_maxLen w s.size 0 e (by unfold maxLen; omega))
        (fun t ht => by rw [hbl] at ht; obtain ⟨b, _, rfl⟩ := List.mem_map.1 ht; rfl) (by rw [bytes_flat, hln]; simp)
        (fun i y hi => by
          rw [List.getElem?_map] at hi
          obtain ⟨b, hb, rfl⟩ := Option.map_eq_some_iff.1 hi
          have hlt : i < s.size := by have := (List.getElem?_eq_some_iff.1 hb).1; simpa using this
          refine ⟨?_, fun hx => ?_, rfl⟩
          · have hc := Lib.bytesWorld_cell w e s i hlt
            have ha : (Addr.mk w.heap.size 0 none).add i = ⟨w.heap.size, i, none⟩ := by unfold Addr.add; split <;> simp_all
            rw [ha, hc, List.getD_eq_getElem?_getD, hb]; rfl
          · rcases hx with hx | hx
            · have := hR.lt hx
              exact Nat.lt_irrefl _ this
            · have h1 := hR.xcl _ hx
              have h2 := hR.frame.size
              have : w.heap.size < w0.heap.size := h1
              omega)
        (fun i t y h1 h2 => by
          rw [bytes_flat, hbl, List.getElem?_map] at h1
          rw [List.getElem?_map] at h2
          obtain ⟨b, hb, rfl⟩ := Option.map_eq_some_iff.1 h1
          obtain ⟨b', hb', rfl⟩ := Option.map_eq_some_iff.1 h2
          rw [hb] at hb'; cases hb'
          exact .v _)
      rw [hln] at key
      exact key
  · obtain ⟨y, d, h1, h2, h3⟩ := convertK_ok hR h hk
    exact ⟨y, w, d, h1, .refl _ _, h2, h3⟩
end
end Go.Eng

/- The engine, part Cp: copy. -/
namespace Go.Eng
open Go.RowKit

@[irreducible] def minI (a b : Nat) : Int := (min a b : Nat)
@[irreducible] def lenN {α : Type} (l : List α) : Nat := l.length
@[irreducible] def cpN {α : Type} (es : List α) (lo len : Nat) (src : List α) : List α := es.take lo ++ src.take (min src.length len) ++ es.drop (lo + min src.length len)
section
variable {R : Type} (P : Program)
def copyK (st : St) (t : TypeId) (s x : D) (k : St → D → Option R) : Option R :=
  match P.underlying t with
  | some (.slice e) => match szO P e with
    | some n => asC s fun cs => asC x fun cx => elemsK st n cx fun src => match cs with
      | .row key => match st.objs[key]? with
        | some (.row false e' n' es) => if n' = n then k { st with objs := st.objs.set key (.row false e' n (cpN es 0 (lenN es) src)) } (dI .i64 (minI (lenN src) (lenN es))) else none
        | _ => none
      | .cut key m lo len _ => match st.objs[key]? with
        | some (.row false e' n' es) => if n' = n ∧ m = n then k { st with objs := st.objs.set key (.row false e' n (cpN es lo len src)) } (dI .i64 (minI (lenN src) len)) else none
        | _ => none
      | _ => none
    | none => none
  | _ => none
end

section
variable {R : Type} {P : Program} {w0 w w' : World} {F Xc : Nat → Prop} {ρ0 : Base} {ρ : Rho} {st : St} {a : Act} {r : R}

/-- Cells of a row are written. -/
theorem Rel.splice (h : Rel w0 F Xc ρ0 ρ st a w) {key : Nat} {e : TypeId} {n : Nat} {es es' : List T} {hv : Value} {g off cap p : Nat} {cur : Array Value} {ts : List T} {vs : List Value}
    (hob : st.objs[key]? = some (.row false e n es)) (e1 : ρ key = some hv) (z1 : hv = .slice (some ⟨g, off, none⟩) es.length cap) (z2 : 0 < cap) (z3 : w.heap[g]? = some (.cells cur e (0, 0))) (z4 : es.length ≤ cap) (z5 : cap ≤ maxLen) (z6 : off + cap * n ≤ cur.size)
    (hl : es'.length = es.length) (u1 : Uni n es') (u2 : flat es' = (flat es).take p ++ ts ++ (flat es).drop (p + ts.length)) (ht : RdT w (XB st.objs ρ Xc) ts vs) (hp : p + ts.length ≤ es.length * n) :
    Rel w0 F Xc ρ0 ρ { st with objs := st.objs.set key (.row false e n es') } a (w.setRow g (cur.toList.take (off + p) ++ vs ++ cur.toList.drop (off + p + vs.length)).toArray) := by
  obtain ⟨hv', f1, f2⟩ := h.objs key _ hob
  rw [e1] at f1
  cases f1
  obtain ⟨h0, hu, ⟨xs, hown, hr⟩, hf⟩ := f2
  have hcapm : es.length * n ≤ cap * n := Nat.mul_le_mul_right _ z4
  have hflt : (flat es).length = es.length * n := hu.length
  have hcl : off + cap * n ≤ cur.toList.length := by rw [Array.length_toList]; exact z6
  have hdl : (cur.toList.drop off).length = cur.toList.length - off := List.length_drop
  have hxl : xs.length = es.length * n := hown.1
  have hvl : vs.length = ts.length := ht.1
  have z7 : (cur.toList.drop off).take (es.length * n) = xs := by
    rcases hown.2 with ⟨hn | ⟨a, hn⟩, hz⟩ | ⟨g', off', cap', cur', q1, q2, q3, q4, q5, q6, q7⟩
    · rw [z1] at hn; cases hn
    · rw [hz, Nat.zero_mul] at hxl
      rw [hz, Nat.zero_mul, List.take_zero, List.eq_nil_of_length_eq_zero hxl]
    · rw [z1] at q1
      cases q1
      rw [z3] at q3
      cases q3
      exact q7
  have hlt : key < st.objs.length := (List.getElem?_eq_some_iff.1 hob).1
  have hblk : blk hv = some g := by rw [z1]; simp [blk]; omega
  have hHas : Has st.objs ρ key g := ⟨_, hv, hob, rfl, e1, .inl hblk⟩
  refine h.change _ ρ (· = key) (setRow_stp w g _) (fun jj hj => ⟨by rw [List.getElem?_set_ne (fun e => hj e.symm)], rfl⟩) (.refl _) (fun b hb => ⟨key, rfl, hb ▸ hHas⟩)
    (fun jj b hj hb => ?_) (fun jj j' b hj hj' _ _ => hj.trans hj'.symm) (fun hX jj o' hj ho' => ?_) (fun _ _ => rfl)
  · subst hj
    obtain ⟨o', v, _, _, q3, q4⟩ := hb
    rw [e1] at q3
    cases q3
    have q5 := q4.one (by rw [z1]; rfl)
    rw [hblk] at q5
    cases q5
    exact .inl ⟨_, rfl, hHas⟩
  · subst hj
    rw [List.getElem?_set_self hlt] at ho'
    cases ho'
    refine ⟨hv, e1, h0, u1, ⟨xs.take p ++ vs ++ xs.drop (p + vs.length), ⟨?_, .inr ⟨g, off, cap, _, by rw [hl]; exact z1, z2, setRow_heap w g cur _ e (0, 0) z3, by rw [hl]; exact z4, z5, ?_, ?_⟩⟩, ?_⟩, fun hc => by cases hc⟩
    · rw [list_setRange _ _ _ _ (by omega) rfl, hl]; exact hown.1
    · rw [List.size_toArray, list_setRange _ _ _ _ (by omega) rfl, Array.length_toList]; exact z6
    · have := take_splice (cur.toList.drop off) vs p (es.length * n) (by omega) (by omega)
      rw [hl, drop_splice _ _ _ _ _ (by omega), this, z7]
    · rw [u2]
      have hr' := hr.step (X' := XB (st.objs.set jj (O.row false e n es')) ρ Xc) (setRow_stp w g (cur.toList.take (off + p) ++ vs ++ cur.toList.drop (off + p + vs.length)).toArray) (fun b hb => .inl ⟨_, hb ▸ hHas⟩) hX
      have ht' := ht.step (X' := XB (st.objs.set jj (O.row false e n es')) ρ Xc) (setRow_stp w g (cur.toList.take (off + p) ++ vs ++ cur.toList.drop (off + p + vs.length)).toArray) (fun b hb => .inl ⟨_, hb ▸ hHas⟩) hX
      rw [hvl] at hr' ht' ⊢
      exact hr'.splice ht' (p := p) (by omega)

theorem CutOf.whole {h : Value} {fz : Bool} {e : TypeId} {n : Nat} {es : List T} {X : Nat → Prop} (ho : okO w X ρ h (.row fz e n es)) : CutOf h n 0 es.length false h := by
  rcases row_slice ho with ⟨rfl, rfl⟩ | ⟨a, cap, rfl, h1, _⟩
  · exact ⟨none, 0, 0, 0, none, rfl, rfl, Nat.le_refl _, Nat.le_refl _, Nat.le_refl _, fun h => by omega, fun h => by cases h⟩
  · exact ⟨some a, _, cap, cap, some a, rfl, rfl, by omega, h1, by omega, fun _ => by simp [Addr.add], fun h => by cases h⟩

theorem copy_core {t u ty e0 : TypeId} {n key lo len : Nat} {tg : Bool} {e : TypeId} {es src : List T} {hv y vx : Value} {ys : List Value} (h : Rel w0 F Xc ρ0 ρ st a w) (ht : P.underlying t = some (.slice e0)) (hn : szO P e0 = some n)
    (hob : st.objs[key]? = some (.row false e n es)) (e1 : ρ key = some hv) (hc : CutOf hv n lo len tg y) (hus : Uni n src) (hys : RdT w (XB st.objs ρ Xc) (flat src) ys)
    (hy : (∃ q, vx = .slice none 0 q ∧ src = []) ∨ ∃ ad q, vx = .slice (some ad) src.length q ∧ src.length ≤ q ∧ ∀ (j : Nat) u, ys[j]? = some u → w.cell? (ad.add j) = some u) :
    ∃ w', (Builtin.copy_ #[t, u] ty #[y, vx]).run P w = .ok (.int .i64 (minI src.length len)) w' ∧ Rel w0 F Xc ρ0 ρ { st with objs := st.objs.set key (.row false e n (cpN es lo len src)) } a w' := by
  obtain ⟨hv', f1, f2⟩ := h.objs key _ hob
  rw [e1] at f1
  cases f1
  have f2' := f2
  obtain ⟨hpos, hu, ⟨xs, hown, hr⟩, hf⟩ := f2
  have hklt : key < st.objs.length := (List.getElem?_eq_some_iff.1 hob).1
  obtain ⟨ao, L, c, cc, ao', rfl, rfl, g1, g2, g3, g4, _⟩ := hc
  unfold minI cpN
  have hnm : Nat.min src.length len = min src.length len := rfl
  have hlenOf : (Builtin.lenOf vx).run P w = .ok src.length w := by
    rcases hy with ⟨q, rfl, rfl⟩ | ⟨ad, q, rfl, _⟩ <;> rfl
  have hL : L = es.length := by
    rcases row_slice f2' with ⟨h1, rfl⟩ | ⟨a, cap, h1, _⟩
    · cases h1; rfl
    · cases h1; rfl
  subst hL
  have hone : ∀ v ∈ ys, v.oneCell' = true := fun v hv => by
    obtain ⟨i, hi, rfl⟩ := List.getElem_of_mem hv
    have hlt : i < (flat src).length := by rw [← hys.1]; exact hi
    exact (hys.2 i _ _ (List.getElem?_eq_getElem hlt) (List.getElem?_eq_getElem hi)).2
  have hyl : ys.length = src.length * n := by rw [hys.1, hus.length]
  have hm1 : min src.length len * n ≤ src.length * n := Nat.mul_le_mul_right _ (Nat.min_le_left _ _)
  have hfirst : (Builtin.firstCells n (min src.length len) vx).run P w = .ok (ys.take (min src.length len * n)).toArray w := by
    rcases hy with ⟨q, rfl, rfl⟩ | ⟨ad, q, rfl, _, hcell⟩
    · have : ys = [] := List.eq_nil_of_length_eq_zero (by simpa using hyl)
      subst this
      simpa using run_firstCells_none w n (min 0 len) 0 q
    · refine run_firstCells_some w n (min src.length len) ad src.length q _ (by rw [List.length_take]; omega) (fun j v hj => ?_)
      rw [List.getElem?_take] at hj
      split at hj
      · exact hcell j v hj
      · cases hj
  have hrun : ∀ (w' : World), (match ao' with | some a => storeCells a (ys.take (min src.length len * n)) 0 | none => pure ()).run P w = .ok () w' →
      (Builtin.copy_ #[t, u] ty #[.slice ao' len cc, vx]).run P w = .ok (.int .i64 ((min src.length len : Nat) : Int)) w' := fun w' hs => by
    unfold Builtin.copy_
    simp only [List.getElem?_toArray, List.getElem?_cons_zero, List.getElem?_cons_succ, Sem.run_bind, run_underlying ht, Result.andThen_ok, hlenOf, run_sizeOf hn, hnm, hfirst]
    cases ao' with
    | none => simp only [Sem.run_pure] at hs ⊢; cases hs; rfl
    | some a' =>
      dsimp only at hs ⊢
      simp only [Sem.run_bind]
      rw [hs]
      rfl
  by_cases hz : min src.length len = 0
  · refine ⟨w, hrun w ?_, ?_⟩
    · rw [hz, Nat.zero_mul, List.take_zero]
      cases ao' <;> rfl
    · rw [hz, List.take_zero, List.append_nil, Nat.add_zero, List.take_append_drop]
      have : st.objs.set key (.row false e n es) = st.objs := by
        apply List.ext_getElem?
        intro i
        rw [List.getElem?_set]
        split
        · rename_i hi; subst hi; exact hob.symm
        · rfl
      rw [this]
      exact h
  · rcases hown.2 with ⟨hnn, h0⟩ | ⟨g, off, cap, cur, q1, q2, q3, q4, q5, q6, q7⟩
    · exfalso; omega
    · cases q1
      have h5 := g4 (by omega)
      have hadd : (⟨g, off, none⟩ : Addr).add (lo * n) = ⟨g, off + lo * n, none⟩ := by unfold Addr.add; split <;> simp_all
      simp only [Option.map_some, hadd] at h5
      subst h5
      have hmul : (lo + min src.length len) * n ≤ es.length * n := Nat.mul_le_mul_right _ (by omega)
      have hmul2 : es.length * n ≤ c * n := Nat.mul_le_mul_right _ q4
      rw [Nat.add_mul] at hmul
      have hst := run_storeCells_at P g (off + lo * n) e (ys.take (min src.length len * n)) 0 cur w q3 (by rw [List.length_take]; omega) (fun v hv => hone v (List.mem_of_mem_take hv))
      refine ⟨_, hrun _ hst, ?_⟩
      simp only [Nat.add_zero]
      have hftl : (flat (src.take (min src.length len))).length = min src.length len * n := by rw [hus.flat_take, List.length_take, hus.length]; omega
      refine h.splice (p := lo * n) (ts := flat (src.take (min src.length len))) hob e1 rfl q2 q3 q4 q5 q6 ?_ ?_ ?_ ?_ ?_
      · simp; omega
      · intro t ht
        rcases List.mem_append.1 ht with ht | ht
        · rcases List.mem_append.1 ht with ht | ht
          · exact hu t (List.mem_of_mem_take ht)
          · exact hus t (List.mem_of_mem_take ht)
        · exact hu t (List.mem_of_mem_drop ht)
      · rw [flat_append, flat_append, hu.flat_take, hu.flat_drop, hftl, Nat.add_mul]
      · rw [hus.flat_take]
        refine ⟨by simp [hys.1], fun i t z h1 h2 => ?_⟩
        rw [List.getElem?_take] at h1 h2
        split at h1
        · rename_i hlt
          rw [if_pos hlt] at h2
          exact hys.2 i t z h1 h2
        · cases h1
      · rw [hftl]; exact hmul

theorem copyK_ok {t u ty : TypeId} {s x : D} {vs vx : Value} {k : St → D → Option R} (h : Rel w0 F Xc ρ0 ρ st a w) (hs : RdD w (XB st.objs ρ Xc) ρ s vs) (hx : RdD w (XB st.objs ρ Xc) ρ x vx)
    (hk : copyK P st t s x k = some r) :
    ∃ y w' st' d, (Builtin.copy_ #[t, u] ty #[vs, vx]).run P w = .ok y w' ∧ Rel w0 F Xc ρ0 ρ st' a w' ∧ RdD w' (XB st'.objs ρ Xc) ρ d y ∧ k st' d = some r := by
  unfold copyK at hk
  split at hk
  case h_2 => cases hk
  rename_i e0 ht
  split at hk
  case h_2 => cases hk
  rename_i n hn
  obtain ⟨cs, rfl, hcs, hk1⟩ := asC_ok hs hk
  obtain ⟨cx, rfl, hcx, hk2⟩ := asC_ok hx hk1
  clear hk hk1
  obtain ⟨src, hk3, hus, ys, hys, hy⟩ := elemsK_ok h hcx hk2
  clear hk2
  split at hk3
  · rename_i key
    split at hk3
    case h_2 => cases hk3
    rename_i e n' es hob
    split at hk3
    case isFalse => cases hk3
    rename_i hnn
    subst hnn
    rcases hcs with hcs | ⟨hcs, _⟩
    · cases hcs
    have e1 : ρ key = some vs := hcs
    obtain ⟨hv, f1, f2⟩ := h.objs key _ hob
    rw [e1] at f1
    cases f1
    obtain ⟨w', r1, r2⟩ := copy_core (u := u) (ty := ty) h ht hn hob e1 (CutOf.whole f2) hus hys hy
    unfold lenN at hk3
    exact ⟨_, w', _, _, r1, r2, .int .i64 _, hk3⟩
  · rename_i key m lo len tg
    split at hk3
    case h_2 => cases hk3
    rename_i e n' es hob
    split at hk3
    case isFalse => cases hk3
    rename_i hnn
    obtain ⟨rfl, rfl⟩ := hnn
    rcases hcs with hcs | ⟨⟨v, q1, q2⟩, _⟩
    · cases hcs
    obtain ⟨w', r1, r2⟩ := copy_core (u := u) (ty := ty) h ht hn hob q1 q2 hus hys hy
    unfold lenN at hk3
    exact ⟨_, w', _, _, r1, r2, .int .i64 _, hk3⟩
  · cases hk3
end
end Go.Eng

/- The engine, part Nil: is a slice nil? -/
namespace Go.Eng
open Go.RowKit

@[irreducible] def nilL {α : Type} (l : List α) : Bool := l.isEmpty
def ambD : D := .s (.c .amb)
section
variable {R : Type} (P : Program)
def isNilD : D → Bool
  | .s (.c (.t (.v (.slice none 0 0)))) => true
  | _ => false
def nilQ (st : St) (eq : Bool) (c : C) (k : D → Option R) : Option R := match c with
  | .t (.v (.slice none 0 0)) => k (dB eq)
  | .t (.sl n l) => if n < 1000000000 then (bif nilL l then k ambD else k (dB (!eq))) else none
  | .row key => match st.objs[key]? with
    | some (.row _ _ _ es) => bif nilL es then k ambD else k (dB (!eq))
    | _ => none
  | _ => none
def binN (st : St) (op : BinOp) (ty yty : TypeId) (x y : D) (k : D → Option R) : Option R := match P.underlying ty with
  | some (.slice _) => if isNilD y = true then asC x fun c => if op = .eql then nilQ st true c k else if op = .neq then nilQ st false c k else none else none
  | _ => binQ P op ty yty x y k
end
section
variable {R : Type} {P : Program} {w0 w : World} {F Xc : Nat → Prop} {ρ0 : Base} {ρ : Rho} {st : St} {a : Act} {r : R}
theorem eq_nil_run (t e : TypeId) (a : Option Addr) (l c : Nat) (h : P.underlying t = some (.slice e)) : (Op.equal t (.slice a l c) (.slice none 0 0)).run P w = .ok a.isNone w := by
  have key : ∀ d : Nat, (Op.equalIn (d + 1) t (.slice a l c) (.slice none 0 0)).run P w = .ok a.isNone w := fun d => by
    cases a <;> simp [Op.equalIn, run_underlying h]
  exact key 9999
theorem isNilD_ok {X : Nat → Prop} {d : D} {v : Value} (h : RdD w X ρ d v) (hd : isNilD d = true) : v = .slice none 0 0 := by
  unfold isNilD at hd
  split at hd
  · rcases h with h | ⟨h, _⟩
    · cases h
    · exact Rd.inv_v h
  · cases hd
theorem nilQ_ok {eq : Bool} {c : C} {v : Value} {k : D → Option R} (hR : Rel w0 F Xc ρ0 ρ st a w) (hc : RdC1 w (XB st.objs ρ Xc) ρ c v) (hk : nilQ st eq c k = some r) :
    ∃ ad l q d, v = .slice ad l q ∧ k d = some r ∧ RdD w (XB st.objs ρ Xc) ρ d (.bool (ad.isNone == eq)) := by
  have amb : ∀ b : Bool, RdD w (XB st.objs ρ Xc) ρ ambD (.bool b) := fun b => .one (c := .amb) ⟨b, rfl⟩ rfl
  have nn : ∀ (x : Addr), RdD w (XB st.objs ρ Xc) ρ (dB (!eq)) (.bool ((some x).isNone == eq)) := fun x => by
    cases eq <;> exact .bool _
  unfold nilQ at hk
  split at hk
  · rcases hc with hc | ⟨hc, _⟩
    · cases hc
    · have := Rd.inv_v hc
      subst this
      exact ⟨none, 0, 0, _, rfl, hk, by cases eq <;> exact .bool _⟩
  · rename_i n l
    split at hk
    case isFalse => cases hk
    rename_i hnm
    rcases hc with hc | ⟨hc, _⟩
    · cases hc
    · unfold nilL at hk
      have hc' : Rd w (XB st.objs ρ Xc) (.sl n l) v := hc
      cases hc' with
      | mp _ _ _ _ _ hbig => omega
      | nil => exact ⟨none, 0, 0, _, rfl, hk, amb _⟩
      | sl _ _ ad c ys =>
        cases hl : l.isEmpty with
        | true => rw [hl] at hk; exact ⟨some ad, _, c, _, rfl, hk, amb _⟩
        | false => rw [hl] at hk; exact ⟨some ad, _, c, _, rfl, hk, nn ad⟩
  · rename_i key
    split at hk
    · rename_i fz e n es hob
      rcases hc with hc | ⟨hc, _⟩
      · cases hc
      · obtain ⟨hv, e1, e2⟩ := hR.objs key _ hob
        have hcc : ρ key = some v := hc
        rw [hcc] at e1
        cases e1
        unfold nilL at hk
        rcases row_slice e2 with ⟨rfl, rfl⟩ | ⟨a0, cap, rfl, _⟩
        · exact ⟨none, 0, 0, _, rfl, hk, amb _⟩
        · cases hl : es.isEmpty with
          | true => rw [hl] at hk; exact ⟨some a0, _, cap, _, rfl, hk, amb _⟩
          | false => rw [hl] at hk; exact ⟨some a0, _, cap, _, rfl, hk, nn a0⟩
    · cases hk
  · cases hk
theorem binN_ok {op : BinOp} {ty yty : TypeId} {x y : D} {xo yo : Operand} {vx vy : Value} {k : D → Option R} (hR : Rel w0 F Xc ρ0 ρ st a w) (hx : RdD w (XB st.objs ρ Xc) ρ x vx) (hy : RdD w (XB st.objs ρ Xc) ρ y vy) (hk : binN P st op ty yty x y k = some r) :
    ∃ d v, (do eqGuard op ty xo yo vx vy; binOp op ty vx vy : Sem Value).run P w = .ok v w ∧ RdD w (XB st.objs ρ Xc) ρ d v ∧ k d = some r := by
  unfold binN at hk
  split at hk
  · rename_i e hu
    split at hk
    case isFalse => cases hk
    rename_i hn
    have := isNilD_ok hy hn
    subst this
    obtain ⟨c, rfl, hc, hk1⟩ := asC_ok hx hk
    split at hk1
    · rename_i ho
      subst ho
      obtain ⟨ad, l, q, d, rfl, hk2, hd⟩ := nilQ_ok hR hc hk1
      refine ⟨d, _, ?_, hd, hk2⟩
      simp only [Sem.run_bind, eqGuard_run (a := .slice ad l q) (by simp) (by simp), Result.andThen_ok]
      simp [binOp, eq_nil_run ty e ad l q hu]
    · split at hk1
      · rename_i ho
        subst ho
        obtain ⟨ad, l, q, d, rfl, hk2, hd⟩ := nilQ_ok hR hc hk1
        refine ⟨d, _, ?_, hd, hk2⟩
        simp only [Sem.run_bind, eqGuard_run (a := .slice ad l q) (by simp) (by simp), Result.andThen_ok]
        simp [binOp, eq_nil_run ty e ad l q hu]
      · cases hk1
  · exact binQ_ok hx hy hk
end
end Go.Eng

/- The engine, part L: calls by contract. -/
namespace Go.Eng
open Go.RowKit

/-- What a function does, in terms of abstract arguments and the objects that they name (in their order): the results and the objects behind the call; new ones at the end. -/
structure Inl where
  go : {R : Type} → St → Option Nat → List D → (St → D → Option R) → Option R
/-- A function without a body: what it makes of its arguments. -/
structure Ext where
  go : {R : Type} → List D → (D → Option R) → Option R
/-- (inl: the code itself is walked at the call) -/
structure Callee where
  rows : List (Option (TypeId × Nat)) := []
  call : {R : Type} → List S1 → List O → (List S1 → List O → Option R) → Option R
  inl : Option Inl := none
  ext : Option Ext := none
  quiet : List Nat := []
  loose : List Nat := []

def RdRes (w : World) (X : Nat → Prop) (ρ : Rho) (rs : List S1) (v : Value) : Prop := match rs with
  | [s] => RdS w X ρ s v
  | l => ∃ vs : Array Value, v = .tuple vs ∧ RdSs w X ρ l vs.toList

def Post (w : World) (Xc : Nat → Prop) (ρ : Rho) (po : List O) (rs : List S1) (po' : List O) (e : Ending) (w' : World) : Prop :=
  ∃ v ρ', e = .returned v ∧ Stp (mutB po ρ) w w' ∧ (∀ k, k < po.length → ρ' k = ρ k) ∧ po.length ≤ po'.length ∧
    (∀ (k : Nat) o, po'[k]? = some o → okK w' (XB po' ρ' Xc) ρ' k o) ∧ Sep po' ρ' ∧ (∀ k b, Has po' ρ' k b → (∃ k', Has po ρ k' b) ∨ w.heap.size ≤ b) ∧ RdRes w' (XB po' ρ' Xc) ρ' rs v

/-- A global that holds an int. -/
def IntGlobal (P : Program) (g : Nat) (k : IntKind) : Prop := ∃ t zero, g < P.globals.size ∧ ((begin P (fun _ _ => 0) default).world.heap[g]?).bind Obj.row? = some (zero, t) ∧ zero.size = 1 ∧ P.buildable t = true ∧
  P.cellTypes P.depth t = some [t] ∧ P.underlying t = some (.int k)
/-- Globals that hold ints are not written. -/
def Good (P : Program) (w : World) (F : Nat → Prop) : Prop := ∀ g k, IntGlobal P g k → ¬ F g ∧ ∃ m, w.cell? ⟨g, 0, none⟩ = some (.int k m)
theorem Good.call {P : Program} {w0 w : World} {F F' : Nat → Prop} (hG : Good P w0 F) (hfr : Stp F w0 w) (h1 : ∀ b, F' b → w0.heap.size ≤ b ∨ F b) : Good P w F' :=
  fun g k hg => let ⟨a, m, hm⟩ := hG g k hg
    ⟨fun hb => (h1 g hb).elim (fun hh => Nat.lt_irrefl _ (Nat.lt_of_lt_of_le (World.block_lt_of_cell? w0 _ hm) hh)) a, m, hfr.cell hm a⟩
def Contract (P : Program) (f : FuncId) (args : List S1) (po : List O) (rs : List S1) (po' : List O) : Prop :=
  ∀ (w : World) (Xc : Nat → Prop) (ρ : Rho) (vals : List Value), (∀ (k : Nat) o, po[k]? = some o → okK w (XB po ρ Xc) ρ k o) → Sep po ρ → (∀ b, Xc b → b < w.heap.size) → (∀ b, mutB po ρ b → ¬ Xc b) → Good P w (mutB po ρ) → RdSs w (XB po ρ Xc) ρ args vals →
    Calls P f vals.toArray w (Post w Xc ρ po rs po')

def Inl.OK (P : Program) (f : FuncId) (I : Inl) : Prop :=
  ∀ {R : Type} {w0 w : World} {F Xc : Nat → Prop} {ρ0 : Base} {ρ : Rho} {st : St} {a : Act} {r : R} (dst : Option Nat) (ds : List D) (vals : List Value) (k : St → D → Option R), Good P w0 F → Rel w0 F Xc ρ0 ρ st a w → ds.length = vals.length →
    (∀ (i : Nat) d v, ds[i]? = some d → vals[i]? = some v → RdD w (XB st.objs ρ Xc) ρ d v) → I.go st dst ds k = some r →
    Calls P f vals.toArray w fun e w' => ∃ v ρ' st' d, e = .returned v ∧ Rel w0 F Xc ρ0 ρ' st' a w' ∧ RdD w' (XB st'.objs ρ' Xc) ρ' d v ∧ k st' d = some r
def Callee.OK0 (P : Program) (f : FuncId) (A : Callee) : Prop :=
  ∀ {R : Type} (args : List S1) (po : List O) (k : List S1 → List O → Option R) (r : R), A.call args po k = some r → ∃ rs po', k rs po' = some r ∧ Contract P f args po rs po'
def Ext.OK (P : Program) (f : FuncId) (I : Ext) : Prop :=
  ∀ {R : Type} {w : World} {X : Nat → Prop} {ρ : Rho} {r : R} (ds : List D) (vals : List Value) (k : D → Option R), ds.length = vals.length → (∀ (i : Nat) d v, ds[i]? = some d → vals[i]? = some v → RdD w X ρ d v) → I.go ds k = some r →
    ∃ y d, (callFunc f vals.toArray).run P w = .ok (.value y) w ∧ RdD w X ρ d y ∧ k d = some r
def Callee.OK (P : Program) (f : FuncId) (A : Callee) : Prop := A.OK0 P f ∧ (∀ I, A.inl = some I → I.OK P f) ∧ ∀ I, A.ext = some I → I.OK P f
def Callable (P : Program) (f : FuncId) : Prop := ∃ fn, P.funcs[f]? = some fn ∧ fn.body.isSome = true ∧ (fn.name == "runtime.NumGoroutine") = false
def GOK (P : Program) (Γ : FuncId → Option Callee) : Prop := ∀ f A, Γ f = some A → (A.ext = none → Callable P f) ∧ A.OK P f

def s1s : List D → Option (List S1)
  | [] => some []
  | .s s :: l => (s1s l).map (s :: ·)
  | .tup _ :: _ => none
def S1.list : S1 → List C
  | .c x => [x]
  | .agg x => x
def C.ks : C → List Nat
  | .box k _ => [k]
  | .fn _ caps => caps.map (·.1)
  | _ => []
def nub : List Nat → List Nat → List Nat
  | acc, [] => acc.reverse
  | acc, k :: l => if acc.contains k then nub acc l else nub (k :: acc) l
def keysL (l : List S1) : List Nat := nub [] (l.flatMap fun s => s.list.flatMap C.ks)
def rowsL (l : List S1) : List Nat := l.flatMap fun s => s.list.flatMap C.rs
def idxK (ks : List Nat) (k : Nat) : Option Nat := ks.idxOf? k

def prepC (st : St) (ks : List Nat) : C → Option C
  | .t x => some (.t x)
  | .row key => match st.objs[key]? with
    | some (.row _ _ n es) => some (.t (.sl n es))
    | some (.mp _ _ n es) => some (.t (.sl n es))
    | _ => none
  | .box k j => (idxK ks k).map fun i => .box i j
  | .fn f caps => (seqO (caps.map fun p => (idxK ks p.1).map fun i => (i, p.2))).map (.fn f)
  | .self t => some (.self t)
  | .cut key n lo len _ => match st.objs[key]? with
    | some (.row _ _ n' es) => if n' = n then some (.t (.sl n (cutN es lo len))) else none
    | _ => none
  | .top => some .top
  | _ => none
def prepS (st : St) (ks : List Nat) : S1 → Option S1
  | .c c => (prepC st ks c).map .c
  | .agg l => (seqO (l.map (prepC st ks))).map .agg
def isTree : C → Bool
  | .t _ => true
  | _ => false
def scalC : C → Bool
  | .t (.v _) => true
  | _ => false
def resD : List S1 → D
  | [s] => .s s
  | l => .tup l

/-- What goes by reference: a row of the call's own, or nil as an empty row. -/
def rowIn (st : St) (m : TypeId × Nat) : C → Option (Option Nat × O)
  | .row key => match st.objs[key]? with
    | some (.row false e n l) => if e = m.1 ∧ n = m.2 then some (some key, .row false e n l) else none
    | some (.mp false e n l) => if e = m.1 ∧ n = m.2 then some (some key, .mp false e n l) else none
    | _ => none
  | .t (.v (.slice none 0 0)) => if 0 < m.2 ∧ m.2 < 1000000000 then some (none, .row false m.1 m.2 []) else none
  | _ => none
/-- Cells as they are handed over; the rows that go by reference, counted from j on. -/
def handC (st : St) (ks : List Nat) : Nat → List (Option (TypeId × Nat)) → List C → Option (List C × List (Option Nat × O))
  | _, _, [] => some ([], [])
  | j, ms, c :: cs => match ms.headD none with
    | some m => match rowIn st m c, handC st ks (j + 1) ms.tail cs with
      | some p, some q => some (.row j :: q.1, p :: q.2)
      | _, _ => none
    | none => match prepC st ks c, handC st ks j ms.tail cs with
      | some c', some q => some (c' :: q.1, q.2)
      | _, _ => none
/-- The rows that go as trees. -/
def treeKeys : List (Option (TypeId × Nat)) → List C → List Nat
  | _, [] => []
  | ms, c :: cs => match ms.headD none with
    | some _ => treeKeys ms.tail cs
    | none => C.rs c ++ treeKeys ms.tail cs
def regroup : List S1 → List C → List S1
  | [], _ => []
  | .c _ :: l, cs => .c (cs.headD .top) :: regroup l cs.tail
  | .agg a :: l, cs => .agg (cs.take a.length) :: regroup l (cs.drop a.length)
def regroupB : List (List C) → List C → List O
  | [], _ => []
  | a :: l, cs => .box (cs.take a.length) :: regroupB l (cs.drop a.length)
def boxCells (objs : List O) (k : Nat) : Option (List C) := match objs[k]? with
  | some (.box l) => some l
  | _ => none
def capM (km : List (Option Nat)) (p : Nat × Nat) : Option (Nat × Nat) := match km[p.1]? with
  | some (some k) => some (k, p.2)
  | _ => none
/-- Objects that were handed over, by their keys here. -/
def backC (km : List (Option Nat)) : C → Option C
  | .t x => some (.t x)
  | .box i j => match km[i]? with
    | some (some k) => some (.box k j)
    | _ => none
  | .row i => match km[i]? with
    | some (some k) => some (.row k)
    | some none => some (.t (.v (.slice none 0 0)))
    | none => none
  | .fn f caps => (seqO (caps.map (capM km))).map (.fn f)
  | .self t => some (.self t)
  | .top => some .top
  | _ => none
def backS (km : List (Option Nat)) : S1 → Option S1
  | .c c => (backC km c).map .c
  | .agg l => (seqO (l.map (backC km))).map .agg
def backO (km : List (Option Nat)) : O → Option O
  | .box l => (seqO (l.map (backC km))).map .box
  | .row fz e n l => some (.row fz e n l)
  | .mp fz e n l => some (.mp fz e n l)
  | .dead => some .dead
  | .fbox _ => none
  | .rr _ _ _ _ _ => none
  | .fwd _ => none
  | .fresh => none
def setK (objs : List O) : List (Option Nat) → List O → List O
  | some k :: km, o :: os => setK (objs.set k o) km os
  | none :: km, _ :: os => setK objs km os
  | _, _ => objs
/-- Places for new objects. -/
def freshL (st : St) (dst : Option Nat) (cnt : Nat) : Option (List Nat) := match cnt, dst with
  | 0, _ => some []
  | n + 1, some d => let l := (([0, 1, 2, 3, 4, 5].map fun j => st.np + (j * st.env.length + d)).filter fun i => isFresh st.objs[i]?).take (n + 1)
    if l.length = n + 1 then some l else
      let l2 := ((List.range st.objs.length).filter fun i => decide (st.np ≤ i) && isFresh st.objs[i]?).take (n + 1)
      if l2.length = n + 1 then some l2 else none
  | _, none => none

section
variable {R : Type}
def callK0 (A : Callee) (st : St) (dst : Option Nat) (ds : List D) (k : St → D → Option R) : Option R :=
  match s1s ds with
  | none => none
  | some ss => match seqO ((keysL ss).map (boxCells st.objs)) with
    | none => none
    | some bl => match handC st (keysL ss) (keysL ss).length A.rows (ss.flatMap S1.list ++ bl.flatten) with
      | none => none
      | some (cs, rws) =>
        let rk := rws.filterMap (·.1)
        let tk := treeKeys A.rows (ss.flatMap S1.list ++ bl.flatten)
        let po := regroupB bl (cs.drop (ss.flatMap S1.list).length) ++ rws.map (·.2)
        if decide rk.Nodup && rk.all (fun z => !tk.contains z) then
          A.call (regroup ss cs) po fun rs po' =>
            if po.isEmpty && po'.isEmpty && rs.all (fun s => s.list.all scalC) then k st (resD rs)
            else match freshL { st with objs := freezeL st.objs tk } dst (po'.length - po.length) with
              | none => none
              | some nk =>
                let km := (keysL ss).map some ++ rws.map (·.1) ++ nk.map some
                if decide nk.Nodup && decide (po.length ≤ po'.length) then match seqO (po'.map (backO km)), seqO (rs.map (backS km)) with
                  | some po2, some rs' => k { st with objs := setK (freezeL st.objs tk) km po2 } (resD rs')
                  | _, _ => none
                else none
        else none
def callK (A : Callee) (st : St) (dst : Option Nat) (ds : List D) (k : St → D → Option R) : Option R := match A.inl with
  | some I => I.go st dst ds k
  | none => callK0 A st dst ds k
end

theorem s1s_ok : ∀ {l : List D} {m : List S1}, s1s l = some m → l = m.map .s
  | [], m, h => by simp only [s1s, Option.some.injEq] at h; subst h; rfl
  | .s s :: l, m, h => by
    simp only [s1s] at h
    cases hs : s1s l with
    | none => simp [hs] at h
    | some q =>
      simp only [hs, Option.map_some, Option.some.injEq] at h
      subst h
      rw [s1s_ok hs]; rfl
  | .tup _ :: l, m, h => by simp [s1s] at h
theorem nub_ok : ∀ (l acc : List Nat), acc.Nodup → (nub acc l).Nodup
  | [], acc, h => by simp only [nub]; exact List.pairwise_reverse.2 (h.imp fun hab => Ne.symm hab)
  | k :: l, acc, h => by
    simp only [nub]
    split
    · exact nub_ok l acc h
    · rename_i hc
      refine nub_ok l (k :: acc) (List.nodup_cons.2 ⟨fun hm => hc (by simpa using hm), h⟩)

theorem keysL_nodup (l : List S1) : (keysL l).Nodup := nub_ok _ _ List.nodup_nil
end Go.Eng

/- The engine, part M: a call by contract is sound. -/
namespace Go.Eng
open Go.RowKit

section
variable {P : Program} {w0 w w' : World} {F Xc X X' : Nat → Prop} {ρ0 : Base} {ρ ρ' : Rho} {st : St} {a : Act}

theorem freezeO_box {o : O} {l : List C} (h : freezeO o = .box l) : o = .box l := by cases o <;> simp [freezeO] at h ⊢; exact h
theorem freezeL_box : ∀ (rows : List Nat) (objs : List O) (k : Nat) (l : List C), objs[k]? = some (.box l) → (freezeL objs rows)[k]? = some (.box l)
  | [], _, _, _, h => h
  | q :: rows, objs, k, l, h => by
    simp only [freezeL]
    split
    · rename_i o ho
      refine freezeL_box rows _ k l ?_
      by_cases hq : q = k
      · subst hq
        rw [h] at ho
        cases ho
        rw [List.getElem?_set_self (List.getElem?_eq_some_iff.1 h).1]; rfl
      · rw [List.getElem?_set_ne hq]; exact h
    · exact freezeL_box rows objs k l h
theorem freezeL_np (rows : List Nat) : ∀ (objs : List O) (k : Nat), objs[k]? = some .fresh ↔ (freezeL objs rows)[k]? = some .fresh := by
  induction rows with
  | nil => intro objs k; exact Iff.rfl
  | cons q rows ih =>
    intro objs k
    simp only [freezeL]
    split
    · rename_i o ho
      rw [← ih]
      by_cases hq : q = k
      · subst hq
        rw [List.getElem?_set_self (List.getElem?_eq_some_iff.1 ho).1, ho]
        cases o <;> simp [freezeO]
      · rw [List.getElem?_set_ne hq]
    · exact ih objs k
/-- A row stays a row, and those named are frozen. -/
theorem nodup_idx {ks : List Nat} (hn : ks.Nodup) {i j k : Nat} (h1 : ks[i]? = some k) (h2 : ks[j]? = some k) : i = j := by
  obtain ⟨hi, e1⟩ := List.getElem?_eq_some_iff.1 h1
  obtain ⟨hj, e2⟩ := List.getElem?_eq_some_iff.1 h2
  rcases Nat.lt_trichotomy i j with hlt | heq | hlt
  · exact (List.pairwise_iff_getElem.1 hn i j hi hj hlt (e1.trans e2.symm)).elim
  · exact heq
  · exact (List.pairwise_iff_getElem.1 hn j i hj hi hlt (e2.trans e1.symm)).elim

theorem idxK_some {ks : List Nat} {k i : Nat} (h : idxK ks k = some i) : ks[i]? = some k := by
  unfold idxK at h
  rw [List.idxOf?_eq_some_iff] at h
  obtain ⟨hi, h1, _⟩ := h
  rw [List.getElem?_eq_getElem hi, h1]


theorem RdL.cons {c : C} {l : List C} {y : Value} {ys : List Value} (h1 : RdC1 w X ρ c y) (h2 : RdL w X ρ l ys) : RdL w X ρ (c :: l) (y :: ys) :=
  ⟨by simp [h2.1], fun i c' y' e1 e2 => by
    cases i with
    | zero => simp at e1 e2; subst e1; subst e2; exact h1
    | succ i => exact h2.2 i c' y' (by simpa using e1) (by simpa using e2)⟩
theorem RdL.uncons {c : C} {l : List C} {y : Value} {ys : List Value} (h : RdL w X ρ (c :: l) (y :: ys)) : RdC1 w X ρ c y ∧ RdL w X ρ l ys :=
  ⟨h.2 0 c y rfl rfl, by simpa using h.1, fun i c' y' e1 e2 => h.2 (i + 1) c' y' (by simpa using e1) (by simpa using e2)⟩

/-- What goes as a tree, or as a pointer. -/
theorem prepC_ok {ks : List Nat} {c c' : C} {y : Value} (h : Rel w0 F Xc ρ0 ρ st a w) (hX : ∀ b, X' b → XB st.objs ρ Xc b) (hks : ∀ k i, idxK ks k = some i → ∀ v, ρ k = some v → ρ' i = some v)
    (hr : ∀ key ∈ C.rs c, ∀ b v, ρ key = some v → blk v = some b → ¬ X' b)
    (hc : RdC1 w (XB st.objs ρ Xc) ρ c y) (hp : prepC st ks c = some c') : RdC1 w X' ρ' c' y := by
  unfold prepC at hp
  split at hp
  · cases hp
    rcases hc with hc | ⟨hc, h1⟩
    · cases hc
    · exact .inr ⟨Rd.weak hc hX, h1⟩
  · rename_i key
    split at hp
    · rename_i fz e n es hob
      cases hp
      rcases hc with hc | ⟨hc, h1⟩
      · cases hc
      · obtain ⟨v, e1, e2⟩ := h.objs key _ hob
        have hcc : ρ key = some y := hc
        rw [hcc] at e1
        cases e1
        exact .inr ⟨row_tree e2 hX (fun b hb => hr key (by simp [C.rs]) b y hcc hb), h1⟩
    · rename_i fz e n es hob
      cases hp
      rcases hc with hc | ⟨hc, h1⟩
      · cases hc
      · obtain ⟨v, e1, e2⟩ := h.objs key _ hob
        have hcc : ρ key = some y := hc
        rw [hcc] at e1
        cases e1
        exact .inr ⟨mp_tree e2 hX (fun b hb => hr key (by simp [C.rs]) b y hcc hb), h1⟩
    · cases hp
  · rename_i k j
    cases hi : idxK ks k with
    | none => simp [hi] at hp
    | some i =>
      simp only [hi, Option.map_some, Option.some.injEq] at hp
      subst hp
      rcases hc with hc | ⟨⟨v, e1, e2⟩, h1⟩
      · cases hc
      · exact .inr ⟨⟨v, hks k i hi v e1, e2⟩, h1⟩
  · rename_i f caps
    cases hs : seqO (caps.map fun p => (idxK ks p.1).map fun i => (i, p.2)) with
    | none => simp [hs] at hp
    | some caps' =>
      simp only [hs, Option.map_some, Option.some.injEq] at hp
      subst hp
      obtain ⟨q1, q2⟩ := seqO_get hs
      rcases hc with hc | ⟨⟨vs, e1, e2, e3⟩, h1⟩
      · cases hc
      · refine .inr ⟨⟨vs, e1, e2.trans q1.symm, fun i p v hp hv => ?_⟩, h1⟩
        obtain ⟨p0, g1, g2⟩ := seqO_get' hs i p hp
        obtain ⟨hh, f1, f2⟩ := e3 i p0 v g1 hv
        cases hix : idxK ks p0.1 with
        | none => simp [hix] at g2
        | some ix =>
          simp only [hix, Option.map_some, Option.some.injEq] at g2
          subst g2
          exact ⟨hh, hks _ _ hix _ f1, f2⟩
  · cases hp
    rcases hc with hc | ⟨hc, h1⟩
    · cases hc
    · exact .inr ⟨trivial, h1⟩
  · rename_i key n lo len tg
    split at hp
    · rename_i fz e n' es hob
      split at hp
      · rename_i hn
        subst hn
        cases hp
        rcases hc with hc | ⟨⟨v, q1, q2⟩, h1⟩
        · cases hc
        · obtain ⟨v', e1, e2⟩ := h.objs key _ hob
          rw [q1] at e1
          cases e1
          exact .inr ⟨cut_tree e2 q2 hX (fun b hb => hr key (by simp [C.rs]) b v q1 hb), h1⟩
      · cases hp
    · cases hp
  · cases hp; exact .inl rfl
  · cases hp

/-- The rows that go by reference, and how. -/
def RowP (st : St) (p : Option Nat × O) : Prop := ∃ e n l, (p.2 = .row false e n l ∨ p.2 = .mp false e n l) ∧ (∀ key, p.1 = some key → st.objs[key]? = some p.2) ∧ (p.1 = none → p.2 = .row false e n [] ∧ (0 < n ∧ n < 1000000000))
theorem rowIn_ok {m : TypeId × Nat} {c : C} {p : Option Nat × O} (h : rowIn st m c = some p) : RowP st p ∧ ((∃ key, c = .row key ∧ p.1 = some key) ∨ (c = .t (.v (.slice none 0 0)) ∧ p.1 = none)) := by
  unfold rowIn at h
  split at h
  · rename_i key
    split at h
    · rename_i e n l hob
      split at h
      · cases h
        exact ⟨⟨e, n, l, .inl rfl, fun k hk => by cases hk; exact hob, fun hk => by cases hk⟩, .inl ⟨key, rfl, rfl⟩⟩
      · cases h
    · rename_i e n l hob
      split at h
      · cases h
        exact ⟨⟨e, n, l, .inr rfl, fun k hk => by cases hk; exact hob, fun hk => by cases hk⟩, .inl ⟨key, rfl, rfl⟩⟩
      · cases h
    · cases h
  · split at h
    · rename_i hn
      cases h
      exact ⟨⟨_, _, [], .inl rfl, (fun k hk => (by cases hk)), fun _ => ⟨rfl, hn⟩⟩, .inr ⟨rfl, rfl⟩⟩
    · cases h
  · cases h
theorem handC_ok {ks : List Nat} (h : Rel w0 F Xc ρ0 ρ st a w) (hX : ∀ b, X' b → XB st.objs ρ Xc b) (hks : ∀ k i, idxK ks k = some i → ∀ v, ρ k = some v → ρ' i = some v) :
    ∀ (cs : List C) (j : Nat) (ms : List (Option (TypeId × Nat))) (cs' : List C) (rws : List (Option Nat × O)) (ys : List Value), handC st ks j ms cs = some (cs', rws) → (∀ key ∈ treeKeys ms cs, ∀ b v, ρ key = some v → blk v = some b → ¬ X' b) →
      (∀ (q : Nat) p, rws[q]? = some p → ρ' (j + q) = match p.1 with | some key => ρ key | none => some (.slice none 0 0)) → RdL w (XB st.objs ρ Xc) ρ cs ys → RdL w X' ρ' cs' ys
  | [], j, ms, cs', rws, ys, hh, _, _, hy => by
    cases ms <;> (simp only [handC, Option.some.injEq, Prod.mk.injEq] at hh; obtain ⟨rfl, _⟩ := hh; exact ⟨hy.1, fun i c y h1 _ => by simp at h1⟩)
  | c :: cs, j, ms, cs', rws, ys, hh, ht, hr, hy => by
    cases ys with
    | nil => simp [RdL] at hy
    | cons y ys =>
    obtain ⟨hy1, hy2⟩ := hy.uncons
    simp only [handC] at hh
    simp only [treeKeys] at ht
    split at hh
    · rename_i m hm
      rw [hm] at ht
      split at hh
      · rename_i p q hp hq
        cases hh
        obtain ⟨_, hpc⟩ := rowIn_ok hp
        have h0 := hr 0 p rfl
        refine .cons ?_ (handC_ok h hX hks cs (j + 1) ms.tail _ _ ys hq ht (fun i p' hi => by have := hr (i + 1) p' (by simpa using hi); rw [← this]; congr 1; omega) hy2)
        rcases hpc with ⟨key, rfl, hk⟩ | ⟨rfl, hk⟩
        · rw [hk] at h0
          rcases hy1 with hy1 | ⟨hy1, h1⟩
          · cases hy1
          · exact .inr ⟨h0.trans hy1, h1⟩
        · rw [hk] at h0
          rcases hy1 with hy1 | ⟨hy1, h1⟩
          · cases hy1
          · have := Rd.inv_v hy1
            subst this
            exact .inr ⟨h0, h1⟩
      · cases hh
    · rename_i hm
      rw [hm] at ht
      split at hh
      · rename_i c' q hp hq
        cases hh
        exact .cons (prepC_ok h hX hks (fun key hk => ht key (List.mem_append.2 (.inl hk))) hy1 hp) (handC_ok h hX hks cs j ms.tail _ _ ys hq (fun key hk => ht key (List.mem_append.2 (.inr hk))) hr hy2)
      · cases hh
theorem handC_rows {ks : List Nat} : ∀ (cs : List C) (j : Nat) (ms : List (Option (TypeId × Nat))) (cs' : List C) (rws : List (Option Nat × O)), handC st ks j ms cs = some (cs', rws) → ∀ p ∈ rws, RowP st p
  | [], j, ms, cs', rws, hh, p, hp => by
    cases ms <;> (simp only [handC, Option.some.injEq, Prod.mk.injEq] at hh; obtain ⟨_, rfl⟩ := hh; simp at hp)
  | c :: cs, j, ms, cs', rws, hh, p, hp => by
    simp only [handC] at hh
    split at hh
    · split at hh
      · rename_i p' q hp' hq
        cases hh
        rcases List.mem_cons.1 hp with rfl | hp
        · exact (rowIn_ok hp').1
        · exact handC_rows cs (j + 1) ms.tail _ _ hq p hp
      · cases hh
    · split at hh
      · rename_i c' q hp' hq
        cases hh
        exact handC_rows cs j ms.tail _ _ hq p hp
      · cases hh

theorem RdL.cut {X : Nat → Prop} {ρ : Rho} {cs : List C} {ys zs : List Value} (h : RdL w X ρ cs (ys ++ zs)) : RdL w X ρ (cs.take ys.length) ys ∧ RdL w X ρ (cs.drop ys.length) zs := by
  have h1 := h.take ys.length
  have h2 := h.drop ys.length
  rw [List.take_left] at h1
  rw [List.drop_left] at h2
  exact ⟨h1, h2⟩
theorem RdSs.cons {X : Nat → Prop} {ρ : Rho} {s : S1} {l : List S1} {y : Value} {ys : List Value} (h1 : RdS w X ρ s y) (h2 : RdSs w X ρ l ys) : RdSs w X ρ (s :: l) (y :: ys) :=
  ⟨by simp [h2.1], fun i s' y' e1 e2 => by
    cases i with
    | zero => simp at e1 e2; subst e1; subst e2; exact h1
    | succ i => exact h2.2 i s' y' (by simpa using e1) (by simpa using e2)⟩
theorem RdSs.tail {X : Nat → Prop} {ρ : Rho} {s : S1} {l : List S1} {y : Value} {ys : List Value} (h : RdSs w X ρ (s :: l) (y :: ys)) : RdS w X ρ s y ∧ RdSs w X ρ l ys :=
  ⟨h.2 0 s y rfl rfl, by simpa using h.1, fun i s' y' e1 e2 => h.2 (i + 1) s' y' (by simpa using e1) (by simpa using e2)⟩

theorem handC_tree {ks : List Nat} : ∀ (cs : List C) (j : Nat) (ms : List (Option (TypeId × Nat))) (cs' : List C) (rws : List (Option Nat × O)), handC st ks j ms cs = some (cs', rws) → ∀ key ∈ treeKeys ms cs, ∃ o, st.objs[key]? = some o ∧ o.rowy = true
  | [], j, ms, cs', rws, hh, key, hp => by cases ms <;> simp [treeKeys] at hp
  | c :: cs, j, ms, cs', rws, hh, key, hp => by
    simp only [handC] at hh
    simp only [treeKeys] at hp
    split at hh
    · rename_i m hm
      rw [hm] at hp
      split at hh
      · rename_i p' q hp' hq
        cases hh
        exact handC_tree cs (j + 1) ms.tail _ _ hq key hp
      · cases hh
    · rename_i hm
      rw [hm] at hp
      split at hh
      · rename_i c' q hp' hq
        cases hh
        rcases List.mem_append.1 hp with hp | hp
        · cases c with
          | row k =>
            simp only [C.rs, List.mem_singleton] at hp
            subst hp
            have hp2 : (match st.objs[key]? with | some (.row _ _ n es) => some (.t (.sl n es)) | some (.mp _ _ n es) => some (.t (.sl n es)) | _ => none : Option C) = some c' := hp'
            split at hp2
            · rename_i fz e n es hob; exact ⟨_, hob, rfl⟩
            · rename_i fz e n es hob; exact ⟨_, hob, rfl⟩
            · cases hp2
          | cut k m lo len tg =>
            simp only [C.rs, List.mem_singleton] at hp
            subst hp
            have hp2 : (match st.objs[key]? with | some (.row _ _ n' es) => if n' = m then some (.t (.sl m (cutN es lo len))) else none | _ => none : Option C) = some c' := hp'
            split at hp2
            · rename_i fz e n es hob; exact ⟨_, hob, rfl⟩
            · cases hp2
          | _ => simp [C.rs] at hp
        · exact handC_tree cs j ms.tail _ _ hq key hp
      · cases hh

theorem handC_self {ks : List Nat} : ∀ (cs : List C) (j : Nat) (ms : List (Option (TypeId × Nat))) (cs' : List C) (rws : List (Option Nat × O)), handC st ks j ms cs = some (cs', rws) → SelfLe cs cs'
  | [], j, ms, cs', rws, hh, i, t, hi => by cases ms <;> (simp only [handC, Option.some.injEq, Prod.mk.injEq] at hh; obtain ⟨rfl, _⟩ := hh; simp at hi)
  | c :: cs, j, ms, cs', rws, hh, i, t, hi => by
    simp only [handC] at hh
    split at hh
    · split at hh
      · rename_i p' q hp' hq
        cases hh
        cases i with
        | zero => simp at hi
        | succ i => simpa using handC_self cs (j + 1) ms.tail _ _ hq i t (by simpa using hi)
      · cases hh
    · split at hh
      · rename_i c' q hp' hq
        cases hh
        cases i with
        | zero =>
          simp only [List.getElem?_cons_zero, Option.some.injEq] at hi ⊢
          subst hi
          unfold prepC at hp'
          split at hp'
          · cases hp'
          · split at hp'
            · cases hp'
            · cases hp'
            · cases hp'
          · rename_i k j'
            cases h9 : idxK ks k with
            | none => simp [h9] at hp'
            | some v => simp [h9] at hp'
          · rename_i f caps
            cases h9 : seqO (caps.map fun p => (idxK ks p.1).map fun i => (i, p.2)) with
            | none => simp [h9] at hp'
            | some v => simp [h9] at hp'
          · cases hp'; rfl
          · split at hp'
            · split at hp' <;> cases hp'
            · cases hp'
          · cases hp'
          · cases hp'
        | succ i => simpa using handC_self cs j ms.tail _ _ hq i t (by simpa using hi)
      · cases hh
theorem regroupB_self : ∀ (bl : List (List C)) (cs : List C), SelfLe bl.flatten cs → ∀ (i : Nat) (l' : List C), (regroupB bl cs)[i]? = some (.box l') → SelfLe (bl.getD i []) l'
  | [], _, _, i, l', h => by simp [regroupB] at h
  | a :: bl, cs, hs, i, l', h => by
    rw [List.flatten_cons] at hs
    cases i with
    | zero => simp only [regroupB, List.getElem?_cons_zero, Option.some.injEq, O.box.injEq] at h; subst h; exact hs.left
    | succ i => exact regroupB_self bl _ hs.right i l' (by simpa [regroupB] using h)
theorem backC_self {km : List (Option Nat)} {c : C} {t : TypeId} (h : backC km c = some (.self t)) : c = .self t := by
  unfold backC at h
  split at h
  · cases h
  · split at h <;> cases h
  · split at h <;> cases h
  · rename_i f caps
    cases h9 : seqO (caps.map (capM km)) with
    | none => simp [h9] at h
    | some v => simp [h9] at h
  · cases h; rfl
  · cases h
  · cases h
theorem backL_self {km : List (Option Nat)} {l l' : List C} (hp : seqO (l.map (backC km)) = some l') : SelfLe l l' := fun i t hi => by
  obtain ⟨c, h1, h2⟩ := seqO_get' hp i _ hi
  rw [h1, backC_self h2]
theorem regroupB_len : ∀ (bl : List (List C)) (cs : List C), (regroupB bl cs).length = bl.length
  | [], _ => rfl
  | l :: bl, cs => by simp [regroupB, regroupB_len bl]
/-- Arguments as cells, and back. -/
theorem flatS_ok {X : Nat → Prop} {ρ : Rho} : ∀ (ss : List S1) (vals : List Value), RdSs w X ρ ss vals →
    ∃ ys, RdL w X ρ (ss.flatMap S1.list) ys ∧ ∀ (X' : Nat → Prop) (ρ' : Rho) (cs' : List C) (zs : List Value), RdL w X' ρ' cs' (ys ++ zs) → RdSs w X' ρ' (regroup ss cs') vals
  | [], vals, h => by
    have hv : vals = [] := List.eq_nil_of_length_eq_zero h.1
    subst hv
    exact ⟨[], ⟨rfl, fun i c y h1 _ => by simp at h1⟩, fun X' ρ' cs' zs _ => ⟨rfl, fun i s y h1 _ => by simp [regroup] at h1⟩⟩
  | s :: ss, vals, h => by
    cases vals with
    | nil => simp [RdSs] at h
    | cons v vals =>
    obtain ⟨h1, h2⟩ := h.tail
    obtain ⟨ys, q1, q2⟩ := flatS_ok ss vals h2
    cases s with
    | c c =>
      refine ⟨v :: ys, by rw [List.flatMap_cons]; exact (RdL.one (c := c) h1).append q1, fun X' ρ' cs' zs hcs => ?_⟩
      cases cs' with
      | nil => simp [RdL] at hcs
      | cons c' cs' =>
        obtain ⟨r1, r2⟩ := hcs.uncons
        exact .cons r1 (q2 X' ρ' cs' zs r2)
    | agg l =>
      obtain ⟨cs, rfl, hl⟩ := h1
      refine ⟨cs.toList ++ ys, by rw [List.flatMap_cons]; exact hl.append q1, fun X' ρ' cs' zs hcs => ?_⟩
      rw [List.append_assoc] at hcs
      obtain ⟨r1, r2⟩ := hcs.cut
      rw [hl.1] at r1 r2
      exact .cons ⟨cs, rfl, r1⟩ (q2 X' ρ' _ zs r2)
theorem flatS_len : ∀ (ss : List S1) (ys : List Value) {X : Nat → Prop} {ρ : Rho}, RdL w X ρ (ss.flatMap S1.list) ys → ys.length = (ss.flatMap S1.list).length := fun _ _ _ _ h => h.1
/-- Boxes as cells, and back. -/
theorem flatB_ok {X : Nat → Prop} {ρ : Rho} {Q : Nat → List Value → Prop} : ∀ (bl : List (List C)) (j : Nat), (∀ (i : Nat) l, bl[i]? = some l → ∃ zs, RdL w X ρ l zs ∧ Q (j + i) zs) →
    ∃ ys, RdL w X ρ bl.flatten ys ∧ ∀ (X' : Nat → Prop) (ρ' : Rho) (cs' : List C), RdL w X' ρ' cs' ys → (regroupB bl cs').length = bl.length ∧ ∀ (i : Nat) o, (regroupB bl cs')[i]? = some o → ∃ l' zs, o = .box l' ∧ Q (j + i) zs ∧ RdL w X' ρ' l' zs
  | [], j, h => ⟨[], ⟨rfl, fun i c y h1 _ => by simp at h1⟩, fun X' ρ' cs' _ => ⟨rfl, fun i o h => by simp [regroupB] at h⟩⟩
  | l :: bl, j, h => by
    obtain ⟨zs, hz1, hz2⟩ := h 0 l rfl
    obtain ⟨ys, q1, q2⟩ := flatB_ok (Q := Q) bl (j + 1) (fun i l' hi => by obtain ⟨zs, e1, e2⟩ := h (i + 1) l' (by simpa using hi); exact ⟨zs, e1, by rw [show j + 1 + i = j + (i + 1) by omega]; exact e2⟩)
    refine ⟨zs ++ ys, by rw [List.flatten_cons]; exact hz1.append q1, fun X' ρ' cs' hcs => ?_⟩
    obtain ⟨r1, r2⟩ := hcs.cut
    rw [hz1.1] at r1 r2
    obtain ⟨p1, p2⟩ := q2 X' ρ' _ r2
    refine ⟨by simp [regroupB, p1], fun i o ho => ?_⟩
    cases i with
    | zero => simp only [regroupB, List.getElem?_cons_zero, Option.some.injEq] at ho; subst ho; exact ⟨_, zs, rfl, hz2, r1⟩
    | succ i =>
      obtain ⟨l', zs', e1, e2, e3⟩ := p2 i o (by simpa [regroupB] using ho)
      exact ⟨l', zs', e1, by rw [show j + (i + 1) = j + 1 + i by omega]; exact e2, e3⟩

/-- A key's handle there is the handle of its key here. -/
def KmOK (km : List (Option Nat)) (ρ' ρ'' : Rho) : Prop := ∀ (i : Nat) m, km[i]? = some m → ∀ v, ρ' i = some v → match m with | some k => ρ'' k = some v | none => v = .slice none 0 0
theorem backC_ok {km : List (Option Nat)} {ρ'' : Rho} {c c' : C} {y : Value} (hX : ∀ b, X' b → X b) (hρ : KmOK km ρ' ρ'') (hc : RdC1 w X ρ' c y) (hp : backC km c = some c') : RdC1 w X' ρ'' c' y := by
  unfold backC at hp
  split at hp
  · cases hp
    rcases hc with hc | ⟨hc, h1⟩
    · cases hc
    · exact .inr ⟨Rd.weak hc hX, h1⟩
  · rename_i i j
    split at hp
    · rename_i k hk
      cases hp
      rcases hc with hc | ⟨⟨v, e1, e2⟩, h1⟩
      · cases hc
      · exact .inr ⟨⟨v, hρ i _ hk v e1, e2⟩, h1⟩
    · cases hp
  · rename_i i
    split at hp
    · rename_i k hk
      cases hp
      rcases hc with hc | ⟨hc, h1⟩
      · cases hc
      · exact .inr ⟨hρ i _ hk y hc, h1⟩
    · rename_i hk
      cases hp
      rcases hc with hc | ⟨hc, h1⟩
      · cases hc
      · have := hρ i _ hk y hc
        simp only at this
        subst this
        exact .inr ⟨.v _, h1⟩
    · cases hp
  · rename_i f caps
    cases hs : seqO (caps.map (capM km)) with
    | none => simp [hs] at hp
    | some caps' =>
      simp only [hs, Option.map_some, Option.some.injEq] at hp
      subst hp
      obtain ⟨q1, q2⟩ := seqO_get hs
      rcases hc with hc | ⟨⟨vs, e1, e2, e3⟩, h1⟩
      · cases hc
      · refine .inr ⟨⟨vs, e1, e2.trans q1.symm, fun i p v hp hv => ?_⟩, h1⟩
        obtain ⟨p0, g1, g2⟩ := seqO_get' hs i p hp
        obtain ⟨hh, f1, f2⟩ := e3 i p0 v g1 hv
        unfold capM at g2
        split at g2
        · rename_i k hk
          cases g2
          exact ⟨hh, hρ _ _ hk hh f1, f2⟩
        · cases g2
  · cases hp
    rcases hc with hc | ⟨hc, h1⟩
    · cases hc
    · exact .inr ⟨trivial, h1⟩
  · cases hp; exact .inl rfl
  · cases hp
theorem backL_ok {km : List (Option Nat)} {ρ'' : Rho} {l l' : List C} {ys : List Value} (hX : ∀ b, X' b → X b) (hρ : KmOK km ρ' ρ'') (hc : RdL w X ρ' l ys) (hp : seqO (l.map (backC km)) = some l') : RdL w X' ρ'' l' ys := by
  obtain ⟨q1, q2⟩ := seqO_get hp
  refine ⟨hc.1.trans q1.symm, fun i c y h1 h2 => ?_⟩
  obtain ⟨c0, g1, g2⟩ := seqO_get' hp i c h1
  exact backC_ok hX hρ (hc.2 i c0 y g1 h2) g2
theorem backS_ok {km : List (Option Nat)} {ρ'' : Rho} {s s' : S1} {y : Value} (hX : ∀ b, X' b → X b) (hρ : KmOK km ρ' ρ'') (hc : RdS w X ρ' s y) (hp : backS km s = some s') : RdS w X' ρ'' s' y := by
  cases s with
  | c c =>
    simp only [backS] at hp
    cases hq : backC km c with
    | none => simp [hq] at hp
    | some c' =>
      simp only [hq, Option.map_some, Option.some.injEq] at hp
      subst hp
      exact backC_ok hX hρ hc hq
  | agg l =>
    simp only [backS] at hp
    cases hq : seqO (l.map (backC km)) with
    | none => simp [hq] at hp
    | some l' =>
      simp only [hq, Option.map_some, Option.some.injEq] at hp
      subst hp
      obtain ⟨cs, rfl, hl⟩ := hc
      exact ⟨cs, rfl, backL_ok hX hρ hl hq⟩
theorem res_ok {km : List (Option Nat)} {ρ'' : Rho} {rs rs' : List S1} {v : Value} (hX : ∀ b, X' b → X b) (hρ : KmOK km ρ' ρ'') (h : RdRes w X ρ' rs v) (hp : seqO (rs.map (backS km)) = some rs') :
    RdD w X' ρ'' (resD rs') v := by
  obtain ⟨q1, q2⟩ := seqO_get hp
  have key : ∀ {vs : List Value}, RdSs w X ρ' rs vs → RdSs w X' ρ'' rs' vs := fun hl => ⟨hl.1.trans q1.symm, fun i s y h1 h2 => by
    obtain ⟨s0, g1, g2⟩ := seqO_get' hp i s h1
    exact backS_ok hX hρ (hl.2 i s0 y g1 h2) g2⟩
  match rs, rs', q1 with
  | [s], [s'], _ =>
    obtain ⟨s0, g1, g2⟩ := seqO_get' hp 0 s' rfl
    simp at g1
    subst g1
    exact backS_ok hX hρ h g2
  | [], [], _ => obtain ⟨vs, e, hl⟩ := h; exact ⟨vs, e, key hl⟩
  | s1 :: s2 :: l, s1' :: s2' :: l', _ => obtain ⟨vs, e, hl⟩ := h; exact ⟨vs, e, key hl⟩
end
end Go.Eng

/- The engine, part N: a call by contract, whole. -/
namespace Go.Eng
open Go.RowKit

section
variable {R : Type} {P : Program} {w0 w : World} {F Xc : Nat → Prop} {ρ0 : Base} {ρ : Rho} {st : St} {a : Act} {r : R}

theorem scal_ok {X X' : Nat → Prop} {w w' : World} {ρ' ρ'' : Rho} {s : S1} {y : Value} (h : RdS w X ρ' s y) (hs : s.list.all scalC = true) : RdS w' X' ρ'' s y := by
  have key : ∀ (c : C) (y : Value), scalC c = true → RdC1 w X ρ' c y → RdC1 w' X' ρ'' c y := by
    intro c y hc hr
    unfold scalC at hc
    split at hc
    · rcases hr with hr | ⟨hr, h1⟩
      · cases hr
      · have := Rd.inv_v hr
        subst this
        exact .inr ⟨.v _, h1⟩
    · cases hc
  cases s with
  | c c => exact key c y (by simpa [S1.list] using hs) h
  | agg l =>
    obtain ⟨cs, e, hl⟩ := h
    exact ⟨cs, e, hl.1, fun i c y h1 h2 => key c y (List.all_eq_true.1 hs c (List.mem_of_getElem? h1)) (hl.2 i c y h1 h2)⟩

theorem res_scal {X X' : Nat → Prop} {w w' : World} {ρ' ρ'' : Rho} {rs : List S1} {v : Value} (h : RdRes w X ρ' rs v) (hs : rs.all (fun s => s.list.all scalC) = true) : RdD w' X' ρ'' (resD rs) v := by
  have key : ∀ {vs : List Value}, RdSs w X ρ' rs vs → RdSs w' X' ρ'' rs vs := fun hl => ⟨hl.1, fun i s y h1 h2 => scal_ok (hl.2 i s y h1 h2) (List.all_eq_true.1 hs s (List.mem_of_getElem? h1))⟩
  match rs with
  | [s] => exact scal_ok (show RdS w X ρ' s v from h) (by simpa using hs)
  | [] => obtain ⟨vs, e1, hl⟩ := h; exact ⟨vs, e1, key hl⟩
  | s1 :: s2 :: l => obtain ⟨vs, e1, hl⟩ := h; exact ⟨vs, e1, key hl⟩


theorem freezeL_len : ∀ (rows : List Nat) (objs : List O), (freezeL objs rows).length = objs.length
  | [], _ => rfl
  | q :: rows, objs => by simp only [freezeL]; split <;> simp [freezeL_len rows]
theorem freezeL_dead : ∀ (rows : List Nat) (objs : List O) (j : Nat), objs[j]? = some .dead → (freezeL objs rows)[j]? = some .dead
  | [], _, _, h => h
  | q :: rows, objs, j, h => by
    simp only [freezeL]
    split
    · rename_i o ho
      refine freezeL_dead rows _ j ?_
      by_cases hq : q = j
      · subst hq; rw [h] at ho; cases ho; rw [List.getElem?_set_self (List.getElem?_eq_some_iff.1 h).1]; rfl
      · rw [List.getElem?_set_ne hq]; exact h
    · exact freezeL_dead rows objs j h
theorem freezeL_fbox : ∀ (rows : List Nat) (objs : List O) (j : Nat) (l : List C), objs[j]? = some (.fbox l) → (freezeL objs rows)[j]? = some (.fbox l)
  | [], _, _, _, h => h
  | q :: rows, objs, j, l, h => by
    simp only [freezeL]
    split
    · rename_i o ho
      refine freezeL_fbox rows _ j l ?_
      by_cases hq : q = j
      · subst hq; rw [h] at ho; cases ho; rw [List.getElem?_set_self (List.getElem?_eq_some_iff.1 h).1]; rfl
      · rw [List.getElem?_set_ne hq]; exact h
    · exact freezeL_fbox rows objs j l h
theorem freezeL_rr : ∀ (rows : List Nat) (objs : List O) (j : Nat) (hole : Option Nat) (e e2 : TypeId) (n : Nat) (l : List (List T)), objs[j]? = some (.rr hole e e2 n l) → (freezeL objs rows)[j]? = some (.rr hole e e2 n l)
  | [], _, _, _, _, _, _, _, h => h
  | q :: rows, objs, j, hole, e, e2, n, l, h => by
    simp only [freezeL]
    split
    · rename_i o ho
      refine freezeL_rr rows _ j hole e e2 n l ?_
      by_cases hq : q = j
      · subst hq; rw [h] at ho; cases ho; rw [List.getElem?_set_self (List.getElem?_eq_some_iff.1 h).1]; rfl
      · rw [List.getElem?_set_ne hq]; exact h
    · exact freezeL_rr rows objs j hole e e2 n l h
theorem freezeL_fwd : ∀ (rows : List Nat) (objs : List O) (j : Nat) (l : Nat), objs[j]? = some (.fwd l) → (freezeL objs rows)[j]? = some (.fwd l)
  | [], _, _, _, h => h
  | q :: rows, objs, j, l, h => by
    simp only [freezeL]
    split
    · rename_i o ho
      refine freezeL_fwd rows _ j l ?_
      by_cases hq : q = j
      · subst hq; rw [h] at ho; cases ho; rw [List.getElem?_set_self (List.getElem?_eq_some_iff.1 h).1]; rfl
      · rw [List.getElem?_set_ne hq]; exact h
    · exact freezeL_fwd rows objs j l h
theorem freezeL_other : ∀ (rows : List Nat) (objs : List O) (j : Nat), j ∉ rows → (freezeL objs rows)[j]? = objs[j]?
  | [], _, _, _ => rfl
  | q :: rows, objs, j, h => by
    simp only [List.mem_cons, not_or] at h
    simp only [freezeL]
    split
    · rw [freezeL_other rows _ j h.2, List.getElem?_set_ne (fun e => h.1 e.symm)]
    · exact freezeL_other rows objs j h.2
theorem freezeL_has {objs : List O} {rows : List Nat} {j b : Nat} (h : Has (freezeL objs rows) ρ j b) : Has objs ρ j b := by
  obtain ⟨o, v, h1, h2, h3, h4⟩ := h
  have hlt : j < objs.length := by rw [← freezeL_len rows]; exact (List.getElem?_eq_some_iff.1 h1).1
  cases ho : objs[j]'hlt with
  | box l =>
    have ho' : objs[j]? = some (.box l) := by rw [List.getElem?_eq_getElem hlt, ho]
    rw [freezeL_box _ _ _ _ ho'] at h1
    cases h1
    exact ⟨_, v, ho', rfl, h3, h4⟩
  | row fz e n l =>
    have ho' : objs[j]? = some (.row fz e n l) := by rw [List.getElem?_eq_getElem hlt, ho]
    obtain ⟨fz', g1, g2⟩ := freezeL_row rows _ _ _ _ _ _ ho'
    rw [g1] at h1
    cases h1
    cases fz with
    | false => exact ⟨_, v, ho', rfl, h3, h4⟩
    | true => rw [g2 (.inl rfl)] at h2; cases h2
  | mp fz e n l =>
    have ho' : objs[j]? = some (.mp fz e n l) := by rw [List.getElem?_eq_getElem hlt, ho]
    obtain ⟨fz', g1, g2⟩ := freezeL_mp rows _ _ _ _ _ _ ho'
    rw [g1] at h1
    cases h1
    cases fz with
    | false => exact ⟨_, v, ho', rfl, h3, h4⟩
    | true => rw [g2 (.inl rfl)] at h2; cases h2
  | fbox l =>
    have ho' : objs[j]? = some (.fbox l) := by rw [List.getElem?_eq_getElem hlt, ho]
    rw [freezeL_fbox _ _ _ _ ho'] at h1
    cases h1; cases h2
  | rr hole e e2 n l =>
    have ho' : objs[j]? = some (.rr hole e e2 n l) := by rw [List.getElem?_eq_getElem hlt, ho]
    rw [freezeL_rr _ _ _ _ _ _ _ _ ho'] at h1
    cases h1
    exact ⟨_, v, ho', rfl, h3, h4⟩
  | fwd l =>
    have ho' : objs[j]? = some (.fwd l) := by rw [List.getElem?_eq_getElem hlt, ho]
    rw [freezeL_fwd _ _ _ _ ho'] at h1
    cases h1; cases h2
  | dead =>
    have ho' : objs[j]? = some .dead := by rw [List.getElem?_eq_getElem hlt, ho]
    rw [freezeL_dead _ _ _ ho'] at h1
    cases h1; cases h2
  | fresh =>
    have ho' : objs[j]? = some .fresh := by rw [List.getElem?_eq_getElem hlt, ho]
    rw [(freezeL_np _ _ _).1 ho'] at h1
    cases h1; cases h2

theorem setK_other : ∀ (km : List (Option Nat)) (po : List O) (objs : List O) (j : Nat), some j ∉ km → (setK objs km po)[j]? = objs[j]?
  | [], po, objs, j, _ => by cases po <;> rfl
  | some k :: km, [], objs, j, _ => rfl
  | none :: km, [], objs, j, _ => rfl
  | some k :: km, o :: po, objs, j, h => by
    simp only [setK]
    rw [setK_other km po _ j (fun hm => h (by simp [hm])), List.getElem?_set_ne (fun e => h (by simp [e]))]
  | none :: km, o :: po, objs, j, h => by
    simp only [setK]
    exact setK_other km po _ j (fun hm => h (by simp [hm]))
theorem setK_at : ∀ (km : List (Option Nat)) (po : List O) (objs : List O) (i k : Nat) (o : O), (km.filterMap id).Nodup → km[i]? = some (some k) → po[i]? = some o → k < objs.length → (setK objs km po)[k]? = some o
  | [], po, objs, i, k, o, _, h, _, _ => by simp at h
  | m :: km, [], objs, i, k, o, _, _, h, _ => by simp at h
  | none :: km, o' :: po, objs, i, k, o, hn, h1, h2, hl => by
    simp only [setK]
    cases i with
    | zero => simp at h1
    | succ i => exact setK_at km po objs i k o (by simpa using hn) (by simpa using h1) (by simpa using h2) hl
  | some q :: km, o' :: po, objs, i, k, o, hn, h1, h2, hl => by
    simp only [setK]
    simp only [List.filterMap_cons, id_eq] at hn
    obtain ⟨hq, hn'⟩ := List.nodup_cons.1 hn
    cases i with
    | zero =>
      simp at h1 h2
      subst h1; subst h2
      rw [setK_other km po _ q (fun hm => hq (List.mem_filterMap.2 ⟨some q, hm, rfl⟩)), List.getElem?_set_self hl]
    | succ i => exact setK_at km po _ i k o hn' (by simpa using h1) (by simpa using h2) (by simpa using hl)
theorem km_inj {km : List (Option Nat)} (hn : (km.filterMap id).Nodup) {i j k : Nat} (h1 : km[i]? = some (some k)) (h2 : km[j]? = some (some k)) : i = j := by
  induction km generalizing i j with
  | nil => simp at h1
  | cons s rs ih =>
    have key : ∀ q, rs[q]? = some (some k) → s = some k → False := fun q hq e => by
      subst e
      simp only [List.filterMap_cons, id_eq] at hn
      exact (List.nodup_cons.1 hn).1 (List.mem_filterMap.2 ⟨some k, List.mem_of_getElem? hq, rfl⟩)
    have hnd : (rs.filterMap id).Nodup := by
      cases s with
      | none => simpa using hn
      | some v => simp only [List.filterMap_cons, id_eq] at hn; exact (List.nodup_cons.1 hn).2
    cases i with
    | zero =>
      cases j with
      | zero => rfl
      | succ j => simp at h1 h2; exact (key j h2 h1).elim
    | succ i =>
      cases j with
      | zero => simp at h1 h2; exact (key i h1 h2).elim
      | succ j => simp at h1 h2; rw [ih hnd h1 h2]

theorem freshL_ok {st : St} {dst : Option Nat} {cnt : Nat} {nk : List Nat} (h : freshL st dst cnt = some nk) : nk.length = cnt ∧ ∀ k ∈ nk, st.objs[k]? = some .fresh ∧ st.np ≤ k := by
  unfold freshL at h
  split at h
  · cases h; exact ⟨rfl, by simp⟩
  · rename_i n d
    dsimp only at h
    split at h
    · rename_i hl
      cases h
      refine ⟨hl, fun k hk => ?_⟩
      have hk1 := List.mem_of_mem_take hk
      obtain ⟨hk2, hk3⟩ := List.mem_filter.1 hk1
      obtain ⟨j, _, rfl⟩ := List.mem_map.1 hk2
      refine ⟨?_, Nat.le_add_right _ _⟩
      unfold isFresh at hk3
      split at hk3
      · rename_i ho; exact ho
      · cases hk3
    · split at h
      · rename_i hl
        cases h
        refine ⟨hl, fun k hk => ?_⟩
        have hk1 := List.mem_of_mem_take hk
        obtain ⟨hk2, hk3⟩ := List.mem_filter.1 hk1
        simp only [Bool.and_eq_true, decide_eq_true_eq] at hk3
        refine ⟨?_, hk3.1⟩
        have hk4 := hk3.2
        unfold isFresh at hk4
        split at hk4
        · rename_i ho; exact ho
        · cases hk4
      · cases h
  · cases h
theorem fm_some : ∀ l : List Nat, l.filterMap (id ∘ some) = l
  | [] => rfl
  | k :: l => by rw [List.filterMap_cons]; simp only [Function.comp, id]; exact congrArg _ (fm_some l)
theorem km0_nodup {ks : List Nat} {rws : List (Option Nat × O)} (h1 : ks.Nodup) (h2 : (rws.filterMap (·.1)).Nodup) (h3 : ∀ key ∈ ks, key ∈ rws.filterMap (·.1) → False) : ((ks.map some ++ rws.map (·.1)).filterMap id).Nodup := by
  rw [List.filterMap_append, List.filterMap_map, List.filterMap_map]
  have e1 : ks.filterMap (id ∘ some) = ks := by induction ks with | nil => rfl | cons k l ih => simp
  have e2 : rws.filterMap (id ∘ (·.1)) = rws.filterMap (·.1) := rfl
  rw [e1, e2]
  exact List.nodup_append.2 ⟨h1, h2, fun a ha b hb e => h3 a ha (e ▸ hb)⟩
def rhoP (ρ : Rho) (ks : List Nat) (rws : List (Option Nat × O)) : Rho := fun i => match (ks.map some ++ rws.map (·.1))[i]? with
  | some (some k) => ρ k
  | some none => some nilN
  | none => none
where nilN : Value := .slice none 0 0

theorem callK_ok {f : FuncId} {A : Callee} {dst : Option Nat} {ds : List D} {vals : List Value} {k : St → D → Option R} (hG : Good P w0 F) (hA : A.OK P f) (h : Rel w0 F Xc ρ0 ρ st a w) (hlen : ds.length = vals.length)
    (hd : ∀ (i : Nat) d v, ds[i]? = some d → vals[i]? = some v → RdD w (XB st.objs ρ Xc) ρ d v) (hk : callK A st dst ds k = some r) :
    Calls P f vals.toArray w fun e w' => ∃ v ρ' st' d, e = .returned v ∧ Rel w0 F Xc ρ0 ρ' st' a w' ∧ RdD w' (XB st'.objs ρ' Xc) ρ' d v ∧ k st' d = some r := by
  obtain ⟨hA, hAi, _⟩ := hA
  unfold callK at hk
  split at hk
  · rename_i I hI
    exact hAi I hI dst ds vals k hG h hlen hd hk
  unfold callK0 at hk
  split at hk
  · cases hk
  rename_i ss hss
  have hds := s1s_ok hss
  split at hk
  · cases hk
  rename_i bl hbl
  split at hk
  · cases hk
  rename_i cs rws hhand
  dsimp only at hk
  split at hk
  case isFalse => cases hk
  rename_i hcond
  simp only [Bool.and_eq_true, decide_eq_true_eq, List.all_eq_true] at hcond
  obtain ⟨hrk, hdis⟩ := hcond
  obtain ⟨rs, po', hk1, hcon⟩ := hA _ _ _ r hk
  clear hk
  generalize hks : keysL ss = ks at *
  generalize htk : treeKeys A.rows (ss.flatMap S1.list ++ bl.flatten) = tk at *
  have hks_nd : ks.Nodup := hks ▸ keysL_nodup ss
  obtain ⟨hbl1, hbl2⟩ := seqO_get hbl
  have hbox : ∀ (i : Nat) l, bl[i]? = some l → ∃ kk, ks[i]? = some kk ∧ st.objs[kk]? = some (.box l) := fun i l hi => by
    obtain ⟨kk, g1, g2⟩ := seqO_get' hbl i l hi
    unfold boxCells at g2
    split at g2
    · cases g2; exact ⟨kk, g1, by assumption⟩
    · cases g2
  -- the frozen state
  have hf := h.freeze tk
  have hsl : RdSs w (XB st.objs ρ Xc) ρ ss vals := ⟨by rw [← hlen, hds, List.length_map], fun i s y h1 h2 => hd i (.s s) y (by rw [hds, List.getElem?_map, h1]; rfl) h2⟩
  obtain ⟨ys1, hy1, hback1⟩ := flatS_ok ss vals hsl
  obtain ⟨ys2, hy2, hback2⟩ := flatB_ok (w := w) (X := XB st.objs ρ Xc) (ρ := ρ) (Q := fun i zs => ∃ kk v g ys ty, ks[i]? = some kk ∧ ρ kk = some v ∧ v = .pointer (some ⟨g, 0, none⟩) ∧ w.heap[g]? = some (.cells ys ty (0, 0)) ∧ HeadOK (bl.getD i []) g ys ty ∧ ys.toList = zs) bl 0 (fun i l hi => by
    obtain ⟨kk, g1, g2⟩ := hbox i l hi
    obtain ⟨v, e1, g, ys, ty, e2, e3, e0, e4⟩ := h.objs kk _ g2
    exact ⟨ys.toList, e4, kk, v, g, ys, ty, by rw [Nat.zero_add]; exact g1, e1, e2, e3, by rw [Nat.zero_add, List.getD_eq_getElem?_getD, hi]; exact e0, rfl⟩)
  have hrows := handC_rows _ _ _ _ _ hhand
  generalize hpo : regroupB bl (cs.drop (ss.flatMap S1.list).length) ++ rws.map (·.2) = po at *
  -- the handles of what is handed over
  let km0 : List (Option Nat) := ks.map some ++ rws.map (·.1)
  have hkm0 : km0 = ks.map some ++ rws.map (·.1) := rfl
  have hρP : ∀ (i : Nat) m, km0[i]? = some m → rhoP ρ ks rws i = match m with | some k => ρ k | none => some (.slice none 0 0) := fun i m hm => by
    unfold rhoP
    rw [← hkm0, hm]
    cases m <;> rfl
  have hidx : ∀ k i, idxK ks k = some i → ∀ v, ρ k = some v → rhoP ρ ks rws i = some v := fun k i hi v hv => by
    have h1 := idxK_some hi
    have hil : i < ks.length := (List.getElem?_eq_some_iff.1 h1).1
    rw [hρP i (some k) (by rw [hkm0, List.getElem?_append_left (by simpa using hil), List.getElem?_map, h1]; rfl)]
    exact hv
  have hrwP : ∀ (q : Nat) p, rws[q]? = some p → rhoP ρ ks rws (ks.length + q) = match p.1 with | some key => ρ key | none => some (.slice none 0 0) := fun q p hp => by
    exact hρP (ks.length + q) p.1 (by rw [hkm0, List.getElem?_append_right (by simp)]; simp [hp])
  have hXsub : ∀ b, XB (freezeL st.objs tk) ρ Xc b → XB st.objs ρ Xc b := fun b hb => by
    rcases hb with ⟨j, hj⟩ | hb
    · exact .inl ⟨j, freezeL_has hj⟩
    · exact .inr hb
  have hnb : bl.length = ks.length := hbl1
  have hpoB : ∀ i, i < ks.length → po[i]? = (regroupB bl (cs.drop (ss.flatMap S1.list).length))[i]? := fun i hi => by
    rw [← hpo, List.getElem?_append_left (by rw [regroupB_len]; omega)]
  have hpoR : ∀ q, po[ks.length + q]? = (rws[q]?).map (·.2) := fun q => by
    rw [← hpo, List.getElem?_append_right (by rw [regroupB_len]; omega), regroupB_len, hnb, Nat.add_sub_cancel_left, List.getElem?_map]
  have hrowF : ∀ (q : Nat) p, rws[q]? = some p → ∀ key, p.1 = some key → (freezeL st.objs tk)[key]? = some p.2 := fun q p hp key hk => by
    obtain ⟨e, n, l, h1, h2, _⟩ := hrows p (List.mem_of_getElem? hp)
    rw [freezeL_other tk _ key (fun hm => ?_)]
    · exact h2 key hk
    · have := hdis key (List.mem_filterMap.2 ⟨p, List.mem_of_getElem? hp, hk⟩)
      simp [hm] at this
  have hHpo : ∀ i b, Has po (rhoP ρ ks rws) i b → ∃ k, km0[i]? = some (some k) ∧ Has (freezeL st.objs tk) ρ k b := fun i b ⟨o, v, h1, h2, h3, h4⟩ => by
    by_cases hi : i < ks.length
    · have hkk : ks[i]? = some ks[i] := List.getElem?_eq_getElem hi
      have hkm : km0[i]? = some (some ks[i]) := by rw [hkm0, List.getElem?_append_left (by simpa using hi), List.getElem?_map, hkk]; rfl
      have hbi : i < bl.length := by omega
      obtain ⟨kk, g1, g2⟩ := hbox i _ (List.getElem?_eq_getElem hbi)
      rw [hkk] at g1
      cases g1
      rw [hρP i _ hkm] at h3
      exact ⟨ks[i], hkm, _, v, freezeL_box _ _ _ _ g2, rfl, h3, h4⟩
    · obtain ⟨q, rfl⟩ : ∃ q, i = ks.length + q := ⟨i - ks.length, by omega⟩
      rw [hpoR q] at h1
      cases hp : rws[q]? with
      | none => simp [hp] at h1
      | some p =>
        rw [hrwP q p hp] at h3
        simp only [hp, Option.map_some, Option.some.injEq] at h1
        have hkm : km0[ks.length + q]? = some p.1 := by rw [hkm0, List.getElem?_append_right (by simp)]; simp [hp]
        cases hp1 : p.1 with
        | none => rw [hp1] at h3; simp only [Option.some.injEq] at h3; subst h3; have h5 := h4.one rfl; simp [blk] at h5
        | some key =>
          rw [hp1] at h3 hkm
          refine ⟨key, hkm, p.2, v, hrowF q p hp key hp1, ?_, h3, h4⟩
          rw [h1]; exact h2
  have hXs : ∀ b, XB po (rhoP ρ ks rws) (fun b => XB (freezeL st.objs tk) ρ Xc b ∧ ¬ mutB po (rhoP ρ ks rws) b) b → XB (freezeL st.objs tk) ρ Xc b := fun b hb => by
    rcases hb with ⟨i, hi⟩ | hb
    · obtain ⟨kk, _, hh⟩ := hHpo i b hi
      exact .inl ⟨kk, hh⟩
    · exact hb.1
  have hcells : RdL w (XB po (rhoP ρ ks rws) (fun b => XB (freezeL st.objs tk) ρ Xc b ∧ ¬ mutB po (rhoP ρ ks rws) b)) (rhoP ρ ks rws) cs (ys1 ++ ys2) := by
    refine handC_ok h (fun b hb => hXsub b (hXs b hb)) hidx _ _ _ _ _ _ hhand (fun key hkey b v hv hb hx => ?_) (fun q p hp => hrwP q p hp) (hy1.append hy2)
    obtain ⟨o, hob, hro⟩ := handC_tree _ _ _ _ _ hhand key hkey
    obtain ⟨o', f1, f2⟩ := freezeL_ro hob hro (htk ▸ hkey)
    have hk' := hf.objs key _ f1
    cases o' with
    | row fz e n l =>
      obtain ⟨v', e1, e2⟩ := hk'
      rw [hv] at e1
      cases e1
      exact e2.frozen f2 b hb (hXs b hx)
    | mp fz e n l =>
      obtain ⟨v', e1, e2⟩ := hk'
      rw [hv] at e1
      cases e1
      exact e2.frozen f2 b hb (hXs b hx)
    | box l => cases f2
    | fbox l => cases f2
    | rr hole e e2 n l => cases f2
    | fwd l => cases f2
    | dead => cases f2
    | fresh => cases f2
  have hlen1 : ys1.length = (ss.flatMap S1.list).length := hy1.1
  have hcs2 := hcells.cut
  obtain ⟨hc1, hc2⟩ := hcs2
  rw [hlen1] at hc1 hc2
  obtain ⟨hbl3, hboxP⟩ := hback2 _ _ _ hc2
  have hcall := hcon w (fun b => XB (freezeL st.objs tk) ρ Xc b ∧ ¬ mutB po (rhoP ρ ks rws) b) (rhoP ρ ks rws) vals (fun i o ho => by
      by_cases hi : i < ks.length
      · rw [hpoB i hi] at ho
        obtain ⟨l', zs, rfl, ⟨kk, v, g, ys, ty, e1, e2, e3, e4, e0, e5⟩, e6⟩ := hboxP i o ho
        rw [Nat.zero_add] at e1 e0
        refine ⟨v, ?_, g, ys, ty, e3, e4, (regroupB_self bl _ (handC_self _ _ _ _ _ hhand).right i l' ho).head e0, by rw [e5]; exact e6⟩
        rw [hρP i (some kk) (by rw [hkm0, List.getElem?_append_left (by simpa using hi), List.getElem?_map, e1]; rfl)]
        exact e2
      · obtain ⟨q, rfl⟩ : ∃ q, i = ks.length + q := ⟨i - ks.length, by omega⟩
        rw [hpoR q] at ho
        cases hp : rws[q]? with
        | none => simp [hp] at ho
        | some p =>
          simp only [hp, Option.map_some, Option.some.injEq] at ho
          subst ho
          obtain ⟨e, n, l, h1, h2, h3⟩ := hrows p (List.mem_of_getElem? hp)
          have hr := hrwP q p hp
          cases hp1 : p.1 with
          | none =>
            rw [hp1] at hr
            obtain ⟨h1, hn⟩ := h3 hp1
            rw [h1]
            exact ⟨_, hr, hn, .nil n, ⟨[], rowAt.nil w e n, ⟨rfl, fun i t y h1 _ => by simp [flat] at h1⟩⟩, fun hc => by cases hc⟩
          | some key =>
            rw [hp1] at hr
            have hF := hrowF q p hp key hp1
            rcases h1 with h1 | h1
            · rw [h1] at hF ⊢
              obtain ⟨v, f1, f2⟩ := hf.objs key _ hF
              exact ⟨v, hr.trans f1, f2.1, f2.2.1, by
                obtain ⟨xs, f3, f4⟩ := f2.2.2.1
                exact ⟨xs, f3, f4.step (.refl (fun _ => False) w) (fun _ hb => False.elim hb) (fun b hb => .inl (hXs b hb))⟩, fun hc => by cases hc⟩
            · rw [h1] at hF ⊢
              obtain ⟨v, f1, q1, g, es, clock, q2, q3, q4, q5⟩ := hf.objs key _ hF
              exact ⟨v, hr.trans f1, q1, g, es, clock, q2, q3, q4.step (.refl (fun _ => False) w) (fun _ hb => False.elim hb) (fun b hb => .inl (hXs b hb)), fun hc => by cases hc⟩)
    (fun i j b hi hj => by
      obtain ⟨k1, g1, h1⟩ := hHpo i b hi
      obtain ⟨k2, g2, h2⟩ := hHpo j b hj
      have := hf.sep k1 k2 b h1 h2
      subst this
      exact km_inj (km0_nodup hks_nd hrk (fun key hk hk2 => by
        obtain ⟨p, hp, hpk⟩ := List.mem_filterMap.1 hk2
        obtain ⟨i, hi, hie⟩ := List.getElem_of_mem hk
        have hbi : i < bl.length := by omega
        obtain ⟨kk, g1, g2⟩ := hbox i _ (List.getElem?_eq_getElem hbi)
        rw [List.getElem?_eq_getElem hi, hie] at g1
        cases g1
        obtain ⟨e, n, l, q1, q2, _⟩ := hrows p hp
        have := q2 key hpk
        rcases q1 with q1 | q1 <;> (rw [g2, q1] at this; cases this))) g1 g2)
    (fun b hb => by
      rcases hb.1 with hm | hx
      · exact hf.lt hm
      · exact Nat.lt_of_lt_of_le (hf.xcl b hx) hf.frame.size)
    (fun b hb hx => hx.2 hb)
    (hG.call h.frame fun b ⟨i, hi⟩ => by
      obtain ⟨kk, _, hh⟩ := hHpo i b hi
      exact hf.own b ⟨kk, hh⟩)
    (hback1 _ _ _ _ hcells)
  refine hcall.mono fun e w' ⟨v, ρ', he, hs, hρ', hle, hok, hsep, hnew, hres⟩ => ?_
  split at hk1
  · rename_i hb
    simp only [Bool.and_eq_true, List.isEmpty_iff] at hb
    obtain ⟨⟨hb1, hb2⟩, hb3⟩ := hb
    have hno : ∀ b, ¬ mutB po (rhoP ρ ks rws) b := fun b ⟨i, o, _, h1, _⟩ => by rw [hb1] at h1; simp at h1
    exact ⟨v, ρ, st, resD rs, he, h.world (hs.mono fun b hb _ => (hno b hb).elim), res_scal hres hb3, hk1⟩
  · split at hk1
    · cases hk1
    rename_i nk hnk
    split at hk1
    case isFalse => cases hk1
    rename_i hcond2
    simp only [Bool.and_eq_true, decide_eq_true_eq] at hcond2
    obtain ⟨hnkd, _⟩ := hcond2
    split at hk1
    case h_2 => cases hk1
    rename_i po2 rs' hpo2 hrs'
    obtain ⟨hnl, hnf⟩ := freshL_ok hnk
    obtain ⟨hp2l, hp2⟩ := seqO_get hpo2
    have hpl : po.length = km0.length := by
      rw [← hpo, hkm0, List.length_append, regroupB_len, List.length_append, List.length_map, List.length_map, List.length_map, hnb]
    have hkml : (km0 ++ nk.map some).length = po'.length := by rw [List.length_append, List.length_map, hnl]; omega
    let ρ'' : Rho := fun j => match idxK nk j with | some i => ρ' (po.length + i) | none => ρ j
    have hρn : ∀ (i k : Nat), nk[i]? = some k → ρ'' k = ρ' (po.length + i) := fun i k hi => by
      cases hq : idxK nk k with
      | none => exact ((List.idxOf?_eq_none_iff.1 hq) (List.mem_of_getElem? hi)).elim
      | some q =>
        have := nodup_idx hnkd (idxK_some hq) hi
        subst this
        simp only [ρ'', hq]
    have hρo : ∀ k, k ∉ nk → ρ'' k = ρ k := fun k hk => by
      have : idxK nk k = none := List.idxOf?_eq_none_iff.2 hk
      simp only [ρ'', this]
    -- keys here are no new ones
    have hkmF : ∀ (i k : Nat), km0[i]? = some (some k) → ∃ o, (freezeL st.objs tk)[k]? = some o ∧ o ≠ .fresh := fun i k hi => by
      rw [hkm0] at hi
      by_cases hik : i < ks.length
      · rw [List.getElem?_append_left (by simpa using hik), List.getElem?_map] at hi
        have hkk : ks[i]? = some k := by
          cases hq : ks[i]? with
          | none => simp [hq] at hi
          | some k' => simp only [hq, Option.map_some, Option.some.injEq] at hi; rw [hi]
        obtain ⟨kk, g1, g2⟩ := hbox i _ (List.getElem?_eq_getElem (show i < bl.length by omega))
        rw [hkk] at g1
        cases g1
        exact ⟨_, freezeL_box _ _ _ _ g2, fun e => by cases e⟩
      · rw [List.getElem?_append_right (by simpa using Nat.le_of_not_lt hik)] at hi
        simp only [List.length_map, List.getElem?_map] at hi
        cases hp : rws[i - ks.length]? with
        | none => simp [hp] at hi
        | some p =>
          simp only [hp, Option.map_some, Option.some.injEq] at hi
          obtain ⟨e, n, l, q1, _, _⟩ := hrows p (List.mem_of_getElem? hp)
          exact ⟨p.2, hrowF _ p hp k hi, fun e => by rcases q1 with q1 | q1 <;> (rw [q1] at e; cases e)⟩
    have hkmn : ∀ (i k : Nat), km0[i]? = some (some k) → k ∉ nk := fun i k hi hm => by
      obtain ⟨o, h1, h2⟩ := hkmF i k hi
      rw [(hnf k hm).1] at h1
      cases h1
      exact h2 rfl
    have hkmc : ∀ (i : Nat) m, (km0 ++ nk.map some)[i]? = some m → (i < po.length ∧ km0[i]? = some m) ∨ ∃ q k, i = po.length + q ∧ nk[q]? = some k ∧ m = some k := fun i m hi => by
      rw [List.getElem?_append] at hi
      split at hi
      · rename_i hlt; exact .inl ⟨by omega, hi⟩
      · rename_i hlt
        rw [List.getElem?_map] at hi
        cases hq : nk[i - km0.length]? with
        | none => simp [hq] at hi
        | some k => simp only [hq, Option.map_some, Option.some.injEq] at hi; exact .inr ⟨i - km0.length, k, by omega, hq, hi.symm⟩
    have hkmA : ∀ (i k : Nat), (km0 ++ nk.map some)[i]? = some (some k) → ρ'' k = ρ' i := fun i k hi => by
      rcases hkmc i _ hi with ⟨h1, h2⟩ | ⟨q, k', h1, h2, h3⟩
      · rw [hρo k (hkmn i k h2), hρ' i h1, hρP i _ h2]
      · cases h3; rw [h1]; exact hρn q k h2
    have hKm : KmOK (km0 ++ nk.map some) ρ' ρ'' := fun i m hi v hv => by
      cases m with
      | some k => exact (hkmA i k hi).trans hv
      | none =>
        rcases hkmc i _ hi with ⟨h1, h2⟩ | ⟨q, k', h1, h2, h3⟩
        · rw [hρ' i h1, hρP i _ h2] at hv
          simp only [Option.some.injEq] at hv
          exact hv.symm
        · cases h3
    have hkmN : ((km0 ++ nk.map some).filterMap id).Nodup := by
      rw [List.filterMap_append, List.filterMap_map]
      have e1 : nk.filterMap (id ∘ some) = nk := fm_some nk
      rw [e1]
      refine List.nodup_append.2 ⟨km0_nodup hks_nd hrk (fun key hk hk2 => ?_), hnkd, fun a ha b hb e => ?_⟩
      · obtain ⟨p, hp, hpk⟩ := List.mem_filterMap.1 hk2
        obtain ⟨i, hi, hie⟩ := List.getElem_of_mem hk
        obtain ⟨kk, g1, g2⟩ := hbox i _ (List.getElem?_eq_getElem (show i < bl.length by omega))
        rw [List.getElem?_eq_getElem hi, hie] at g1
        cases g1
        obtain ⟨e, n, l, q1, q2, _⟩ := hrows p hp
        have := q2 key hpk
        rcases q1 with q1 | q1 <;> (rw [g2, q1] at this; cases this)
      · subst e
        obtain ⟨m, hm, hme⟩ := List.mem_filterMap.1 ha
        simp only [id_eq] at hme
        subst hme
        obtain ⟨i, hi, hie⟩ := List.getElem_of_mem hm
        exact hkmn i a (by rw [List.getElem?_eq_getElem hi, hie]) hb
    have hmem : ∀ j, some j ∈ km0 ++ nk.map some → ∃ i, (km0 ++ nk.map some)[i]? = some (some j) := fun j hj => by
      obtain ⟨i, hi, e⟩ := List.getElem_of_mem hj
      exact ⟨i, by rw [List.getElem?_eq_getElem hi, e]⟩
    have hlt : ∀ (i k : Nat), (km0 ++ nk.map some)[i]? = some (some k) → k < (freezeL st.objs tk).length := fun i k hi => by
      rcases hkmc i _ hi with ⟨_, h2⟩ | ⟨q, k', _, h2, h3⟩
      · obtain ⟨o, h4, _⟩ := hkmF i k h2
        exact (List.getElem?_eq_some_iff.1 h4).1
      · cases h3
        exact (List.getElem?_eq_some_iff.1 (hnf k (List.mem_of_getElem? h2)).1).1
    have hXF : ∀ b, mutB po (rhoP ρ ks rws) b → ∃ k, some k ∈ km0 ++ nk.map some ∧ Has (freezeL st.objs tk) ρ k b := fun b ⟨i, hi⟩ => by
      obtain ⟨k, h1, h2⟩ := hHpo i b hi
      exact ⟨k, List.mem_append.2 (.inl (List.mem_of_getElem? h1)), h2⟩
    have hobj : ∀ (i k : Nat) o, (km0 ++ nk.map some)[i]? = some (some k) → po2[i]? = some o → (setK (freezeL st.objs tk) (km0 ++ nk.map some) po2)[k]? = some o := fun i k o h1 h2 =>
      setK_at _ _ _ i k o hkmN h1 h2 (hlt i k h1)
    have hobj' : ∀ (i k : Nat), (km0 ++ nk.map some)[i]? = some (some k) → ∃ o o2, po'[i]? = some o ∧ backO (km0 ++ nk.map some) o = some o2 ∧ (setK (freezeL st.objs tk) (km0 ++ nk.map some) po2)[k]? = some o2 := fun i k hi => by
      have hil : i < po'.length := by rw [← hkml]; exact (List.getElem?_eq_some_iff.1 hi).1
      obtain ⟨o2, g1, g2⟩ := hp2 i _ (List.getElem?_eq_getElem hil)
      exact ⟨_, o2, List.getElem?_eq_getElem hil, g2, hobj i k o2 hi g1⟩
    have hlive : ∀ o o2, backO (km0 ++ nk.map some) o = some o2 → o2.live = o.live := fun o o2 ho => by
      cases o with
      | box l =>
        simp only [backO] at ho
        cases hq : seqO (l.map (backC (km0 ++ nk.map some))) with
        | none => simp [hq] at ho
        | some l' => simp only [hq, Option.map_some, Option.some.injEq] at ho; subst ho; rfl
      | row fz e n l => simp only [backO, Option.some.injEq] at ho; subst ho; rfl
      | mp fz e n l => simp only [backO, Option.some.injEq] at ho; subst ho; rfl
      | fbox l => cases ho
      | rr hole e e2 n l => cases ho
      | fwd l => cases ho
      | dead => simp only [backO, Option.some.injEq] at ho; subst ho; rfl
      | fresh => cases ho
    have hH2 : ∀ (i k b : Nat), (km0 ++ nk.map some)[i]? = some (some k) → Has (setK (freezeL st.objs tk) (km0 ++ nk.map some) po2) ρ'' k b → Has po' ρ' i b := fun i k b hi ⟨o, v, h1, h2, h3, h4⟩ => by
      obtain ⟨o0, o2, g1, g2, g3⟩ := hobj' i k hi
      rw [g3] at h1
      cases h1
      exact ⟨o0, v, g1, by rw [← hlive _ _ g2]; exact h2, by rw [← hkmA i k hi]; exact h3, h4⟩
    have hXX : ∀ b, XB (setK (freezeL st.objs tk) (km0 ++ nk.map some) po2) ρ'' Xc b → XB po' ρ' (fun b => XB (freezeL st.objs tk) ρ Xc b ∧ ¬ mutB po (rhoP ρ ks rws) b) b := fun b hb => by
      rcases hb with ⟨j, hj⟩ | hb
      · by_cases hK : some j ∈ km0 ++ nk.map some
        · obtain ⟨i, hi⟩ := hmem j hK
          exact .inl ⟨i, hH2 i j b hi hj⟩
        · have hj' : Has (freezeL st.objs tk) ρ j b := by
            obtain ⟨o, v, h1, h2, h3, h4⟩ := hj
            rw [setK_other _ _ _ j hK] at h1
            rw [hρo j (fun hm => hK (List.mem_append.2 (.inr (List.mem_map.2 ⟨j, hm, rfl⟩))))] at h3
            exact ⟨o, v, h1, h2, h3, h4⟩
          refine .inr ⟨.inl ⟨j, hj'⟩, fun hm => ?_⟩
          obtain ⟨k, hk, hh⟩ := hXF b hm
          have := hf.sep j k b hj' hh
          exact hK (this ▸ hk)
      · refine .inr ⟨.inr hb, fun hm => ?_⟩
        obtain ⟨k, _, hh⟩ := hXF b hm
        exact hf.xc b ⟨k, hh⟩ hb
    have hsame : Stp (fun _ => False) w' w' := .refl _ w'
    refine ⟨v, ρ'', _, resD rs', he, hf.change (setK (freezeL st.objs tk) (km0 ++ nk.map some) po2) ρ'' (fun j => some j ∈ km0 ++ nk.map some) hs (fun j hj => ?_) (fun j v hv => ?_) hXF (fun j b hj hb => ?_) (fun j j' b hj hj' hb hb' => ?_) (fun hX j o hj ho => ?_) (fun j hj => ?_), res_ok hXX hKm hres hrs', hk1⟩
    · exact ⟨setK_other _ _ _ j hj, hρo j (fun hm => hj (List.mem_append.2 (.inr (List.mem_map.2 ⟨j, hm, rfl⟩))))⟩
    · by_cases hm : j ∈ nk
      · have : ρ j = none := hf.objs j _ (hnf j hm).1
        rw [this] at hv; cases hv
      · rw [hρo j hm]; exact hv
    · obtain ⟨i, hi⟩ := hmem j hj
      rcases hnew i b (hH2 i j b hi hb) with ⟨k', hk'⟩ | hge
      · exact .inl (hXF b ⟨k', hk'⟩)
      · exact .inr hge
    · obtain ⟨i, hi⟩ := hmem j hj
      obtain ⟨i', hi'⟩ := hmem j' hj'
      have := hsep i i' b (hH2 i j b hi hb) (hH2 i' j' b hi' hb')
      subst this
      rw [hi] at hi'
      cases hi'
      rfl
    · obtain ⟨i, hi⟩ := hmem j hj
      obtain ⟨o0, o2, g1, g2, g3⟩ := hobj' i j hi
      have ho' : (setK (freezeL st.objs tk) (km0 ++ nk.map some) po2)[j]? = some o := ho
      rw [g3] at ho'
      cases ho'
      have hk0 := hok i o0 g1
      cases o0 with
      | dead => simp only [backO, Option.some.injEq] at g2; subst g2; trivial
      | fresh => cases g2
      | rr hole e e2 n l => cases g2
      | fwd l => cases g2
      | fbox l => cases g2
      | row fz e n l =>
        simp only [backO, Option.some.injEq] at g2
        subst g2
        obtain ⟨v, f1, f2⟩ := hk0
        exact ⟨v, (hkmA i j hi).trans f1, f2.1, f2.2.1, (by
          obtain ⟨xs, f3, f4⟩ := f2.2.2.1
          exact ⟨xs, f3, f4.step hsame (fun _ hb => False.elim hb) (fun b hb => .inl (hXX b hb))⟩), fun hz b hb hx => f2.2.2.2 hz b hb (hXX b hx)⟩
      | mp fz e n l =>
        simp only [backO, Option.some.injEq] at g2
        subst g2
        obtain ⟨v, f1, q1, g, es, clock, q2, q3, q4, q5⟩ := hk0
        exact ⟨v, (hkmA i j hi).trans f1, q1, g, es, clock, q2, q3, q4.step hsame (fun _ hb => False.elim hb) (fun b hb => .inl (hXX b hb)), fun hz hx => q5 hz (hXX g hx)⟩
      | box l =>
        simp only [backO] at g2
        cases hq : seqO (l.map (backC (km0 ++ nk.map some))) with
        | none => simp [hq] at g2
        | some l' =>
          simp only [hq, Option.map_some, Option.some.injEq] at g2
          subst g2
          obtain ⟨v, f1, g, ys, ty, f2, f3, f0, f4⟩ := hk0
          exact ⟨v, (hkmA i j hi).trans f1, g, ys, ty, f2, f3, (backL_self hq).head f0, backL_ok hXX hKm f4 hq⟩
    · exact hρo j (fun hm => by have h7 : st.np ≤ j := (hnf j hm).2; have h8 : j < st.np := hj; omega)
end
end Go.Eng

/- The engine, part O: one operation, a region in a given order. -/
namespace Go.Eng
open Go.RowKit

@[irreducible] def mmI (mx : Bool) (a b : Int) : Int := if mx then max a b else min a b
@[irreducible] def mmS (mx : Bool) (a b : ByteArray) : ByteArray := if mx then (if !ltS a b then a else b) else (if ltS a b || eqS a b then a else b)
section
variable {R : Type} (P : Program) (Γ : FuncId → Option Callee)
def minK (mx : Bool) (t : TypeId) (x y : D) (k : D → Option R) : Option R := match P.underlying t with
  | some (.int kd) => asI kd x fun a => asI kd y fun b => k (dI kd (mmI mx a b))
  | some .string => asS x fun a => asS y fun b => k (dS (mmS mx a b))
  | _ => none
def builtinK (st : St) (dst : Option Nat) (ty : TypeId) (b : Builtin) (args : List D) (ts : List TypeId) (k : St → D → Option R) : Option R := match b, args, ts with
  | .len, [x], [t] => lenK P st t x fun d => k st d
  | .append, [s, x], [t, u] => appendG P st dst t u s x k
  | .copy, [s, x], [t, _] => copyK P st t s x k
  | .min, [x, y], [t, _] => minK P false t x y fun d => k st d
  | .max, [x, y], [t, _] => minK P true t x y fun d => k st d
  | _, _, _ => none
def capsD (caps : List (Nat × Nat)) : List D := caps.map fun p => .s (.c (.box p.1 p.2))
def plainFn : Value → Option FuncId
  | .func (.func g) first captured => if first.isEmpty && captured.isEmpty then some g else none
  | _ => none
def valueK (st : St) (dst : Option Nat) (f : D) (args : List D) (k : St → D → Option R) : Option R := asC f fun c => match c with
  | .t (.v v) => match plainFn v with
    | some g => match Γ g with
      | some A => match A.ext with
        | some I => I.go args fun d => k st d
        | none => callK A st dst args k
      | none => none
    | none => none
  | .fn g caps => match Γ g with
    | some A => match A.ext with
      | some _ => none
      | none => callK A st dst (args ++ capsD caps) k
    | none => none
  | _ => none
/-- The boxes that the calls of a function leave alone: told by its table. -/
def qOf : List Nat := match Γ 2000000 with
  | some A => A.quiet
  | none => []
def quietPtr (B : List Nat) : D → Bool
  | .s (.c (.box k _)) => B.contains k
  | .s (.c (.pe _ _ _)) => true
  | _ => false
def isBoxO : Option O → Bool
  | some (.box _) => true
  | _ => false
def okQ (B : List Nat) (o o' : List O) : Bool := B.all fun k => isBoxO o[k]? || !isBoxO o'[k]?
def dKeys : D → List Nat
  | .s s => s.list.flatMap C.ks
  | .tup l => l.flatMap fun s => s.list.flatMap C.ks
def quietD (B : List Nat) (ds : List D) : Bool := ds.all fun d => (dKeys d).all fun k => !B.contains k
/-- Slots whose loads are not held to the quiet boxes. -/
def looseOf : List Nat := match Γ 2000000 with
  | some A => A.loose
  | none => []
def isLoose (l : List Nat) : Option Nat → Bool
  | some s => l.contains s
  | none => false
def idxFree : D → Bool
  | .s (.c (.box _ _)) => true
  | .s (.c (.pe _ _ _)) => true
  | .s (.c (.t _)) => true
  | _ => false
def boxedD (st : St) : D → Bool
  | .s (.c (.box k _)) => isBoxO st.objs[k]?
  | _ => true
def loadG (P : Program) (st : St) (dst : Option Nat) (t : TypeId) (d : D) (k : D → Option R) : Option R := match qOf Γ with
  | [] => loadK P st t d k
  | B => if ((quietPtr B d && boxedD st d) || isLoose (looseOf Γ) dst) = true then loadK P st t d k else none
def indexG (P : Program) (st : St) (dst : Option Nat) (t : TypeId) (x ix : D) (k : D → Option R) : Option R := match qOf Γ with
  | [] => indexAddrK P st t x ix k
  | _ => if (idxFree x || isLoose (looseOf Γ) dst) = true then indexAddrK P st t x ix k else none
/-- A new variable lies at its own place: where the table says so. -/
def ownG (st : St) (dst : Option Nat) : Bool := (looseOf Γ).contains 8999999 || match dst with
  | some d => match st.objs[st.np + d]? with
    | some .fresh => true
    | _ => false
  | none => false
def allocG (P : Program) (st : St) (dst : Option Nat) (t : TypeId) (k : St → D → Option R) : Option R := match qOf Γ with
  | [] => allocK P st dst t k
  | B => if ownG Γ st dst = true then allocK P st dst t fun s d => if (okQ B st.objs s.objs || isLoose (looseOf Γ) dst) = true then k s d else none else none
def callG (st : St) (dst : Option Nat) (f : D) (args : List D) (k : St → Option R) : Option R := match qOf Γ with
  | [] => valueK Γ st dst f args fun st d => k (st.put dst d)
  | B => if quietD B (f :: args) = true then valueK Γ st dst f args fun st' d => (fun s : St => if okQ B st.objs s.objs = true then k s else none) (st'.put dst d) else none
def nilK (x : D) (k : D → Option R) : Option R := asC x fun c => match c with
  | .box _ _ => k x
  | .elt _ _ _ _ => k x
  | .pe _ _ _ => k x
  | _ => none

/-- Lengths and cuts of trees only, stores off the quiet boxes: where the table says so. -/
def treeD : D → Bool
  | .s (.c (.t _)) => true
  | _ => false
def gateQ (dst : Option Nat) (x : D) : Bool := match qOf Γ with
  | [] => true
  | _ => treeD x || isLoose (looseOf Γ) dst
def gateB (dst : Option Nat) (bi : Builtin) (args : List D) : Bool := match bi with
  | .len => args.all (gateQ Γ dst)
  | _ => true
def gateS (t : TypeId) (x : D) : Bool := match qOf Γ with
  | [] => true
  | B => (looseOf Γ).contains 8999999 || (looseOf Γ).contains (60000000 + t) || match x with
    | .s (.c (.box k _)) => !B.contains k
    | .s (.c (.elt _ _ _ _)) => true
    | _ => false
/-- Types whose stores are into elements of rows, slots whose loads are from boxes: told by the table. -/
def gtypes : List Nat := match Γ 2000002 with
  | some A => A.quiet
  | none => []
def gslots : List Nat := match Γ 2000002 with
  | some A => A.loose
  | none => []
def isEltD : D → Bool
  | .s (.c (.elt _ _ _ _)) => true
  | _ => false
def isBoxD : D → Bool
  | .s (.c (.box _ _)) => true
  | _ => false
/-- A box of the list A of the table; a box that is not in it. -/
def isInA : D → Bool
  | .s (.c (.box k _)) => (gslots Γ).contains (5000000 + k)
  | _ => false
def isOffA : D → Bool
  | .s (.c (.box k _)) => !(gslots Γ).contains (5000000 + k)
  | _ => false
def gateE (t : TypeId) (x : D) : Bool := ((!(gtypes Γ).contains t || isEltD x) && (!(gtypes Γ).contains (1000000 + t) || isBoxD x)) && (!(gtypes Γ).contains (2000000 + t) || isOffA Γ x)
def gateL (dst : Option Nat) (x : D) : Bool := match dst with
  | some s => (!(gslots Γ).contains s || isBoxD x) && (!(gslots Γ).contains (1000000 + s) || isInA Γ x)
  | none => true
/-- Slots whose new rows are rows of rows: told by the table. -/
def rrOf : List Nat := match Γ 2000001 with
  | some A => A.loose
  | none => []
def isRR (dst : Option Nat) : Bool := match dst with
  | some s => (rrOf Γ).contains s
  | none => false
def makeSliceR (P : Program) (st : St) (dst : Option Nat) (t : TypeId) (l c : D) (k : St → D → Option R) : Option R := if isRR Γ dst = true then makeRRK P st dst t l c k else makeSliceK P st dst t l c k
def makeSliceG (P : Program) (st : St) (dst : Option Nat) (t : TypeId) (l c : D) (k : St → D → Option R) : Option R := match qOf Γ with
  | [] => makeSliceR Γ P st dst t l c k
  | _ => if ownG Γ st dst = true then makeSliceR Γ P st dst t l c k else none
def aOp (o : Oper) (st : St) (k : St → Option R) : Option R := match o.op with
  | .move x => k (st.put o.dst (ev st x))
  | .assign x => k (st.put o.dst (ev st x))
  | .pick c x y => asB (ev st c) fun q => bif q then k (st.put o.dst (ev st x)) else k (st.put o.dst (ev st y))
  | .alloc e => allocG Γ P st o.dst e fun st d => k (st.put o.dst d)
  | .box _ x => boxK st o.dst (ev st x) fun st d => k (st.put o.dst d)
  | .build t parts => buildK P t (parts.toList.map fun p => (p.1, ev st p.2)) fun d => k (st.put o.dst d)
  | .buildSlice t len parts => buildSliceK P st o.dst t len (parts.toList.map fun p => (p.1, ev st p.2)) fun st d => k (st.put o.dst d)
  | .load t x => if gateL Γ o.dst (ev st x) = true then loadG Γ P st o.dst t (ev st x) fun d => k (st.put o.dst d) else none
  | .store t x v => if (gateS Γ t (ev st x) && gateE Γ t (ev st x)) = true then storeK P st t (ev st x) (ev st v) fun st => k (st.put o.dst D.top) else none
  | .nilCheck x => nilK (ev st x) fun d => k (st.put o.dst d)
  | .binOp op t x y yt => binN P st op t yt (ev st x) (ev st y) fun d => k (st.put o.dst d)
  | .unOp op t x => unK (P := P) op t (ev st x) fun d => k (st.put o.dst d)
  | .convert s t x => convQ P st s t (ev st x) fun d => k (st.put o.dst d)
  | .makeFunc fn f c => makeFuncK fn (f.toList.map (ev st)) (c.toList.map (ev st)) fun d => k (st.put o.dst d)
  | .makeSlice t l c => makeSliceG Γ P st o.dst t (ev st l) (ev st c) fun st d => k (st.put o.dst d)
  | .slice t x lo hi mx => if gateQ Γ o.dst (ev st x) = true then sliceG P st t (ev st x) (lo.map (ev st)) (hi.map (ev st)) (mx.map (ev st)) fun st d => k (st.put o.dst d) else none
  | .fieldAddr t x f => fieldAddrK P t (ev st x) f fun d => k (st.put o.dst d)
  | .field t x f => fieldK P t (ev st x) f fun d => k (st.put o.dst d)
  | .indexAddr t x ix => indexG Γ P st o.dst t (ev st x) (ev st ix) fun d => k (st.put o.dst d)
  | .index t x ix => indexK P t (ev st x) (ev st ix) fun d => k (st.put o.dst d)
  | .extract x i => extractK (ev st x) i fun d => k (st.put o.dst d)
  | .call { callee := .builtin b, args, argTypes } => if gateB Γ o.dst b (args.toList.map (ev st)) = true then builtinK P st o.dst o.type b (args.toList.map (ev st)) argTypes.toList fun st d => k (st.put o.dst d) else none
  | .call { callee := .value f, args, .. } => callG Γ st o.dst (ev st f) (args.toList.map (ev st)) k
  | .makeMap t none => makeMapK P st o.dst t fun st d => k (st.put o.dst d)
  | .lookup t x ix ok => lookupK P st t (ev st x) (ev st ix) ok fun d => k (st.put o.dst d)
  | .mapUpdate t m q v => mapUpdK P st t (ev st m) (ev st q) (ev st v) fun st => k (st.put o.dst D.top)
  | .insert t m q v => mapUpdK P st t (ev st m) (ev st q) (ev st v) fun st => k (st.put o.dst D.top)
  | .mapEntry t m q => mapEntK P st t (ev st m) (ev st q) fun st d => k (st.put o.dst d)
  | .entryStore t m q v => entStoreK P st t (ev st m) (ev st q) (ev st v) fun st => k (st.put o.dst D.top)
  | _ => none

/-- What a slot holds where its operation was not wanted. -/
def offD : D := .tup []
def offK (d : D) (x y : Option R) : Option R := match d with
  | .tup [] => x
  | _ => y
/-- The operations of a region in a given order; a guard is decided once. -/
def aOps (ops : Array Oper) : List Nat → St → (St → Option R) → Option R
  | [], st, k => k st
  | i :: rest, st, k => match ops[i]? with
    | none => aOps ops rest st k
    | some o => match o.guard with
      | none => aOp P Γ o st fun st => aOps ops rest st k
      | some (j, want) => match (ops[j]?).bind (·.dst) with
        | none => none
        | some t => offK (st.env.getD t D.top) (aOps ops rest (st.put o.dst offD) k) <| asB (st.env.getD t D.top) fun b =>
          bif b then
            (if want then aOp P Γ o (st.put (some t) (dB true)) fun st => aOps ops rest st k else aOps ops rest ((st.put (some t) (dB true)).put o.dst offD) k)
          else
            (if want then aOps ops rest ((st.put (some t) (dB false)).put o.dst offD) k else aOp P Γ o (st.put (some t) (dB false)) fun st => aOps ops rest st k)
end

section
variable {R : Type} {P : Program} {Γ : FuncId → Option Callee} {w0 w : World} {F Xc : Nat → Prop} {ρ0 : Base} {ρ : Rho} {st : St} {a : Act} {r : R} {Q : Exit → Act → World → Prop}

theorem wp_val {o : Oper} {next : Act → World → Prop} {y : Value} {w' : World} (h : (execOp a.eval o).run P w = .ok (.value y) w') (hn : next (a.put o.dst y) w') : o.wp P a w next Q := by
  unfold Oper.wp
  rw [h]
  exact hn

/-- What follows an operation that leaves a value. -/
theorem wp_put {o : Oper} {next : Act → World → Prop} {y : Value} {w' : World} {ρ' : Rho} {st' : St} {d : D} {k : St → Option R} (hrun : (execOp a.eval o).run P w = .ok (.value y) w') (hR : Rel w0 F Xc ρ0 ρ' st' a w')
    (hd : RdD w' (XB st'.objs ρ' Xc) ρ' d y) (hk : k (st'.put o.dst d) = some r) (hn : ∀ ρ' st' a' w', Rel w0 F Xc ρ0 ρ' st' a' w' → k st' = some r → next a' w') : o.wp P a w next Q :=
  wp_val hrun (hn ρ' _ _ _ (hR.put o.dst hd) hk)

theorem ev_list (h : Rel w0 F Xc ρ0 ρ st a w) (l : List Operand) : ∀ (i : Nat) d v, (l.map (ev st))[i]? = some d → (l.map a.eval)[i]? = some v → RdD w (XB st.objs ρ Xc) ρ d v := fun i d v h1 h2 => by
  rw [List.getElem?_map] at h1 h2
  cases hx : l[i]? with
  | none => simp [hx] at h1
  | some x => simp only [hx, Option.map_some, Option.some.injEq] at h1 h2; subst h1; subst h2; exact h.ev x
theorem ev_opt (h : Rel w0 F Xc ρ0 ρ st a w) (o : Option Operand) : OptRd w (XB st.objs ρ Xc) ρ (o.map (ev st)) (o.map a.eval) := by
  cases o with
  | none => trivial
  | some x => exact h.ev x
theorem ev_parts (h : Rel w0 F Xc ρ0 ρ st a w) (parts : Array (Nat × Operand)) :
    (parts.toList.map fun p => (p.1, ev st p.2)).length = (parts.map fun (i, x) => (i, a.eval x)).toList.length ∧
    ∀ (i : Nat) p q, (parts.toList.map fun p => (p.1, ev st p.2))[i]? = some p → (parts.map fun (i, x) => (i, a.eval x)).toList[i]? = some q → p.1 = q.1 ∧ RdD w (XB st.objs ρ Xc) ρ p.2 q.2 := by
  refine ⟨by simp, fun i p q h1 h2 => ?_⟩
  rw [Array.toList_map] at h2
  rw [List.getElem?_map] at h1 h2
  cases hx : parts.toList[i]? with
  | none => simp [hx] at h1
  | some x => simp only [hx, Option.map_some, Option.some.injEq] at h1 h2; subst h1; subst h2; exact ⟨rfl, h.ev x.2⟩

theorem callFunc_run {f : FuncId} {args : Array Value} (h : Callable P f) : (callFunc f args).run P w = .ok (.enter f args) w := by
  obtain ⟨fn, h1, h2, h3⟩ := h
  unfold callFunc
  simp only [Sem.run_bind, run_program, Result.andThen_ok, h1]
  rw [if_neg (by rw [h3]; simp), if_neg (by cases hb : fn.body <;> simp [hb] at h2 ⊢)]
  rfl

theorem wp_call {o : Oper} {next : Act → World → Prop} {f : FuncId} {vals : List Value} {k : St → D → Option R} {k' : St → Option R} (hrun : (execOp a.eval o).run P w = .ok (.enter f vals.toArray) w)
    (hc : Calls P f vals.toArray w fun e w' => ∃ v ρ' st' d, e = .returned v ∧ Rel w0 F Xc ρ0 ρ' st' a w' ∧ RdD w' (XB st'.objs ρ' Xc) ρ' d v ∧ k st' d = some r)
    (hkk : ∀ st d, k st d = k' (st.put o.dst d)) (hn : ∀ ρ' st' a' w', Rel w0 F Xc ρ0 ρ' st' a' w' → k' st' = some r → next a' w') : o.wp P a w next Q := by
  unfold Oper.wp
  rw [hrun]
  refine hc.mono fun e w' ⟨v, ρ', st', d, he, hR, hd, hk⟩ => ?_
  subst he
  exact hn ρ' _ _ _ (hR.put o.dst hd) ((hkk st' d) ▸ hk)

theorem valueK_ok {o : Oper} {c : Call} {f : Operand} {next : Act → World → Prop} {k : St → Option R} (hΓ : GOK P Γ) (hG : Good P w0 F) (ho : o.op = .call c) (hc : c.callee = .value f) (h : Rel w0 F Xc ρ0 ρ st a w)
    (hk : valueK Γ st o.dst (ev st f) (c.args.toList.map (ev st)) (fun st d => k (st.put o.dst d)) = some r) (hn : ∀ ρ' st' a' w', Rel w0 F Xc ρ0 ρ' st' a' w' → k st' = some r → next a' w') : o.wp P a w next Q := by
  unfold valueK at hk
  obtain ⟨cc, hfe, hcc, hk1⟩ := asC_ok (h.ev f) hk
  have hexec : execOp a.eval o = (do let d ← resolve a.eval c o.type; invoke d.target d.args) := by
    unfold execOp; rw [ho]
  split at hk1
  · rename_i v
    split at hk1
    case h_2 => cases hk1
    rename_i g hg
    split at hk1
    case h_2 => cases hk1
    rename_i A hA
    obtain ⟨hcall, hOK⟩ := hΓ g A hA
    have hv : a.eval f = .func (.func g) #[] #[] := by
      rcases hcc with hcc | ⟨hcc, _⟩
      · cases hcc
      · rw [Rd.inv_v hcc]
        unfold plainFn at hg
        split at hg
        · split at hg
          · rename_i hemp
            simp only [Bool.and_eq_true, Array.isEmpty_iff] at hemp
            cases hg
            rw [hemp.1, hemp.2]
          · cases hg
        · cases hg
    have hinv : (execOp a.eval o).run P w = (callFunc g (c.args.toList.map a.eval).toArray).run P w := by
      rw [hexec]
      unfold resolve
      simp only [hc, hv, Deferred.ofValue, Sem.run_bind, Sem.run_pure, Result.andThen_ok, invoke]
      congr 2
      apply Array.ext'
      simp
    split at hk1
    · rename_i I hI
      obtain ⟨y, d, h1, h2, h3⟩ := hOK.2.2 I hI _ _ _ (by simp) (ev_list h _) hk1
      exact wp_put (by rw [hinv, h1]) h h2 h3 hn
    rename_i hext
    have hrun : (execOp a.eval o).run P w = .ok (.enter g (c.args.toList.map a.eval).toArray) w := by rw [hinv, callFunc_run (hcall hext)]
    exact wp_call hrun (callK_ok hG hOK h (by simp) (ev_list h _) hk1) (fun st d => rfl) hn
  · rename_i g caps
    split at hk1
    case h_2 => cases hk1
    rename_i A hA
    obtain ⟨hcall, hOK⟩ := hΓ g A hA
    split at hk1
    · cases hk1
    rename_i hext
    replace hcall := hcall hext
    rcases hcc with hcc | ⟨⟨hs, e1, e2, e3⟩, _⟩
    · cases hcc
    · have hrun : (execOp a.eval o).run P w = .ok (.enter g (c.args.toList.map a.eval ++ hs).toArray) w := by
        rw [hexec]
        unfold resolve
        simp only [hc, e1, Deferred.ofValue, Sem.run_bind, Sem.run_pure, Result.andThen_ok, invoke]
        rw [callFunc_run hcall]
        congr 2
        apply Array.ext'
        simp
      refine wp_call hrun (callK_ok hG hOK h (by simp [capsD, e2]) (fun i d v h1 h2 => ?_) hk1) (fun st d => rfl) hn
      rw [List.getElem?_append] at h1 h2
      simp only [List.length_map] at h1 h2
      split at h1
      · rename_i hi
        rw [if_pos hi] at h2
        exact ev_list h _ i d v h1 h2
      · rename_i hi
        rw [if_neg hi] at h2
        simp only [capsD, List.getElem?_map] at h1
        cases hp : caps[i - c.args.toList.length]? with
        | none => rw [hp] at h1; cases h1
        | some p =>
          simp only [hp, Option.map_some, Option.some.injEq] at h1
          subst h1
          obtain ⟨hh, f1, f2⟩ := e3 _ p v hp h2
          obtain ⟨ba, g1, g2⟩ := f2
          exact .one (c := .box p.1 p.2) ⟨hh, f1, ba, g1, g2⟩ (by rw [g2]; rfl)
  · cases hk1

theorem minK_ok {mx : Bool} {t : TypeId} {x y : D} {vx vy : Value} {X : Nat → Prop} {k : D → Option R} (hx : RdD w X ρ x vx) (hy : RdD w X ρ y vy) (hk : minK P mx t x y k = some r) (ts : Array TypeId) (ty : TypeId) :
    ∃ v d, (if mx then Builtin.max_ ts ty #[vx, vy] else Builtin.min_ ts ty #[vx, vy]).run P w = .ok v w ∧ RdD w X ρ d v ∧ k d = some r := by
  unfold minK at hk
  split at hk
  · obtain ⟨a, rfl, hk1⟩ := asI_ok hx hk
    obtain ⟨b, rfl, hk2⟩ := asI_ok hy hk1
    refine ⟨_, _, ?_, .int _ _, hk2⟩
    unfold mmI
    cases mx with
    | true => exact Lib.run_max_ints w ts ty _ _ a b
    | false => exact Lib.run_min_ints w ts ty _ _ a b
  · obtain ⟨a, rfl, hk1⟩ := asS_ok hx hk
    obtain ⟨b, rfl, hk2⟩ := asS_ok hy hk1
    refine ⟨_, _, ?_, .str _, hk2⟩
    unfold mmS
    cases mx with
    | true =>
      have hb : ∀ q : Bool, (asBool (.bool q)).run P w = .ok q w := fun _ => rfl
      simp [Builtin.max_, Builtin.max2, Op.stringOp, ltS, hb]
    | false =>
      have hb : ∀ q : Bool, (asBool (.bool q)).run P w = .ok q w := fun _ => rfl
      simp [Builtin.min_, Builtin.min2, Op.stringOp, ltS, eqS, hb]
  · cases hk
theorem aOp_ok {o : Oper} {k : St → Option R} {next : Act → World → Prop} (hΓ : GOK P Γ) (hG : Good P w0 F) (h : Rel w0 F Xc ρ0 ρ st a w) (hk : aOp P Γ o st k = some r)
    (hn : ∀ ρ' st' a' w', Rel w0 F Xc ρ0 ρ' st' a' w' → k st' = some r → next a' w') : o.wp P a w next Q := by
  unfold aOp at hk
  split at hk
  · rename_i x ho
    exact wp_put (y := a.eval x) (by unfold execOp; rw [ho]; rfl) h (h.ev x) hk hn
  · rename_i x ho
    exact wp_put (y := a.eval x) (by unfold execOp; rw [ho]; rfl) h (h.ev x) hk hn
  · rename_i c x y ho
    obtain ⟨b, hb, hk1⟩ := asB_ok (h.ev c) hk
    cases b with
    | true => exact wp_put (y := a.eval x) (by unfold execOp; rw [ho]; dsimp only; rw [hb]; rfl) h (h.ev x) hk1 hn
    | false => exact wp_put (y := a.eval y) (by unfold execOp; rw [ho]; dsimp only; rw [hb]; rfl) h (h.ev y) hk1 hn
  · rename_i e ho
    unfold allocG at hk
    have hk' : ∃ k', allocK P st o.dst e k' = some r ∧ ∀ s d, k' s d = some r → k (s.put o.dst d) = some r := by
      split at hk
      · exact ⟨_, hk, fun _ _ h => h⟩
      · split at hk
        case isFalse => cases hk
        exact ⟨_, hk, fun s d h => by
          split at h
          · exact h
          · cases h⟩
    obtain ⟨k', hk, hkk⟩ := hk'
    obtain ⟨y, w', ρ', st', d, h1, h2, h3, h4⟩ := allocK_ok h hk
    have h4 := hkk _ _ h4
    exact wp_put (by unfold execOp; rw [ho]; simp only [Sem.run_bind, h1, Result.andThen_ok]; rfl) h2 h3 h4 hn
  · rename_i e x ho
    obtain ⟨y, w', ρ', st', d, h1, h2, h3, h4⟩ := boxK_ok (P := P) (e := e) h (h.ev x) hk
    exact wp_put (by unfold execOp; rw [ho]; simp only [Sem.run_bind, h1, Result.andThen_ok]; rfl) h2 h3 h4 hn
  · rename_i t parts ho
    obtain ⟨p1, p2⟩ := ev_parts h parts
    obtain ⟨y, d, h1, h3, h4⟩ := buildK_ok p1 p2 hk
    exact wp_put (by unfold execOp; rw [ho]; simp only [Sem.run_bind, h1, Result.andThen_ok]; rfl) h h3 h4 hn
  · rename_i t len parts ho
    obtain ⟨p1, p2⟩ := ev_parts h parts
    obtain ⟨y, w', ρ', st', d, h1, h2, h3, h4⟩ := buildSliceK_ok h p1 p2 hk
    exact wp_put (by unfold execOp; rw [ho]; simp only [Sem.run_bind, h1, Result.andThen_ok]; rfl) h2 h3 h4 hn
  · rename_i t x ho
    split at hk
    case isFalse => cases hk
    unfold loadG at hk
    have hk : loadK P st t (ev st x) (fun d => k (st.put o.dst d)) = some r := by
      split at hk
      · exact hk
      · split at hk
        · exact hk
        · cases hk
    obtain ⟨d, y, h1, h3, h4⟩ := loadK_ok h (h.ev x) hk
    exact wp_put (by unfold execOp; rw [ho]; simp only [Sem.run_bind, h1, Result.andThen_ok]; rfl) h h3 h4 hn
  · rename_i t x v ho
    split at hk
    case isFalse => cases hk
    obtain ⟨st', w', h1, h2, h3⟩ := storeK_ok h (h.ev x) (h.ev v) hk
    unfold Oper.wp
    have hrun : (execOp a.eval o).run P w = .ok .skip w' := by unfold execOp; rw [ho]; simp only [Sem.run_bind, h1, Result.andThen_ok]; rfl
    rw [hrun]
    exact hn ρ _ _ _ (h2.put o.dst (.top_ _)) h3
  · rename_i x ho
    unfold nilK at hk
    obtain ⟨c, hx, hc, hk1⟩ := asC_ok (h.ev x) hk
    have hr := h.ev x
    have key : ∀ (aa : Addr), a.eval x = .pointer (some aa) → (execOp a.eval o).run P w = .ok (.value (a.eval x)) w := fun aa e => by
      unfold execOp; rw [ho]; dsimp only; rw [e]; rfl
    split at hk1
    · rcases hc with hc | ⟨⟨v, _, ba, _, e⟩, _⟩
      · cases hc
      · exact wp_put (key _ e) h hr hk1 hn
    · rcases hc with hc | ⟨⟨v, _, ba, _, e⟩, _⟩
      · cases hc
      · exact wp_put (key _ e) h hr hk1 hn
    · rcases hc with hc | ⟨⟨ba, e, _⟩, _⟩
      · cases hc
      · exact wp_put (key _ e) h hr hk1 hn
    · cases hk1
  · rename_i op t x y yt ho
    obtain ⟨d, v, h1, h3, h4⟩ := binN_ok (xo := x) (yo := y) h (h.ev x) (h.ev y) hk
    exact wp_put (by unfold execOp; rw [ho]; simp only [Sem.run_bind] at h1 ⊢; simp only [h1, Result.andThen_ok]; rfl) h h3 h4 hn
  · rename_i op t x ho
    obtain ⟨d, v, h1, h3, h4⟩ := unK_ok (P := P) (w := w) (h.ev x) hk
    exact wp_put (by unfold execOp; rw [ho]; simp only [Sem.run_bind, h1, Result.andThen_ok]; rfl) h h3 h4 hn
  · rename_i s t x ho
    obtain ⟨y, w', d, h1, h2, h3, h4⟩ := convQ_ok h (h.ev x) hk
    exact wp_put (by unfold execOp; rw [ho]; simp only [Sem.run_bind, h1, Result.andThen_ok]; rfl) (h.world h2) h3 h4 hn
  · rename_i fn f c ho
    obtain ⟨y, d, h1, h3, h4⟩ := makeFuncK_ok (P := P) (w := w) (X := XB st.objs ρ Xc) (ρ := ρ) (vf := f.map a.eval) (vc := c.map a.eval) (by simp) (by simp) (fun i d v e1 e2 => by
      rw [Array.toList_map] at e2
      exact ev_list h _ i d v e1 e2) hk
    exact wp_put (by unfold execOp; rw [ho]; simp only [Sem.run_bind, h1, Result.andThen_ok]; rfl) h h3 h4 hn
  · rename_i t l c ho
    have hk9 : ∃ y w' ρ' st' d, (Instr.makeSlice t (a.eval l) (a.eval c)).run P w = .ok y w' ∧ Rel w0 F Xc ρ0 ρ' st' a w' ∧ RdD w' (XB st'.objs ρ' Xc) ρ' d y ∧ (fun st d => k (st.put o.dst d)) st' d = some r := by
      have hk8 : makeSliceR Γ P st o.dst t (ev st l) (ev st c) (fun st d => k (st.put o.dst d)) = some r := by
        unfold makeSliceG at hk
        split at hk
        · exact hk
        · split at hk
          · exact hk
          · cases hk
      unfold makeSliceR at hk8
      split at hk8
      · exact makeRRK_ok h (h.ev l) (h.ev c) hk8
      · exact makeSliceK_ok h (h.ev l) (h.ev c) hk8
    obtain ⟨y, w', ρ', st', d, h1, h2, h3, h4⟩ := hk9
    exact wp_put (by unfold execOp; rw [ho]; simp only [Sem.run_bind, h1, Result.andThen_ok]; rfl) h2 h3 h4 hn
  · rename_i t x lo hi mx ho
    split at hk
    case isFalse => cases hk
    obtain ⟨y, st', d, h1, h2, h3, h4⟩ := sliceG_ok (P := P) (w := w) h (h.ev x) (ev_opt h lo) (ev_opt h hi) (ev_opt h mx) hk
    exact wp_put (by unfold execOp; rw [ho]; simp only [Sem.run_bind, h1, Result.andThen_ok]; rfl) h2 h3 h4 hn
  · rename_i t x f ho
    obtain ⟨y, d, h1, h3, h4⟩ := fieldAddrK_ok (P := P) (h.ev x) hk
    exact wp_put (by unfold execOp; rw [ho]; simp only [Sem.run_bind, h1, Result.andThen_ok]; rfl) h h3 h4 hn
  · rename_i t x f ho
    obtain ⟨y, d, h1, h3, h4⟩ := fieldK_ok (P := P) (h.ev x) hk
    exact wp_put (by unfold execOp; rw [ho]; simp only [Sem.run_bind, h1, Result.andThen_ok]; rfl) h h3 h4 hn
  · rename_i t x ix ho
    unfold indexG at hk
    have hk : indexAddrK P st t (ev st x) (ev st ix) (fun d => k (st.put o.dst d)) = some r := by
      split at hk
      · exact hk
      · split at hk
        · exact hk
        · cases hk
    obtain ⟨y, d, h1, h3, h4⟩ := indexAddrK_ok h (h.ev x) (h.ev ix) hk
    exact wp_put (by unfold execOp; rw [ho]; simp only [Sem.run_bind, h1, Result.andThen_ok]; rfl) h h3 h4 hn
  · rename_i t x ix ho
    obtain ⟨y, d, h1, h3, h4⟩ := indexK_ok (P := P) (h.ev x) (h.ev ix) hk
    exact wp_put (by unfold execOp; rw [ho]; simp only [Sem.run_bind, h1, Result.andThen_ok]; rfl) h h3 h4 hn
  · rename_i x i ho
    obtain ⟨y, d, h1, h3, h4⟩ := extractK_ok (P := P) (h.ev x) hk
    exact wp_put (by unfold execOp; rw [ho]; simp only [Sem.run_bind, h1, Result.andThen_ok]; rfl) h h3 h4 hn
  · rename_i b args ts ho
    split at hk
    case isFalse => cases hk
    rename_i hgq
    clear hgq
    unfold builtinK at hk
    have hexec : execOp a.eval o = builtin b ts o.type (args.map fun | .const _ => true | _ => false) (args.map a.eval) := by
      unfold execOp; rw [ho]; rfl
    split at hk
    · rename_i x t hargs hts
      have e1 : ∃ xo, args = #[xo] ∧ ev st xo = x := by
        obtain ⟨l⟩ := args
        match l, hargs with
        | [xo], hargs => simp at hargs; exact ⟨xo, rfl, hargs⟩
      obtain ⟨xo, rfl, rfl⟩ := e1
      have e2 : ts = #[t] := by obtain ⟨l⟩ := ts; simp at hts; rw [hts]
      subst e2
      obtain ⟨y, d, h1, h3, h4⟩ := lenK_ok (ty := o.type) h (h.ev xo) hk
      refine wp_put (y := y) ?_ h h3 h4 hn
      rw [hexec]
      simp only [builtin, List.map_toArray, List.map_cons, List.map_nil, Sem.run_bind, h1, Result.andThen_ok]
      rfl
    · rename_i s x t u hargs hts
      have e1 : ∃ so xo, args = #[so, xo] ∧ ev st so = s ∧ ev st xo = x := by
        obtain ⟨l⟩ := args
        match l, hargs with
        | [so, xo], hargs => simp at hargs; exact ⟨so, xo, rfl, hargs⟩
      obtain ⟨so, xo, rfl, rfl, rfl⟩ := e1
      have e2 : ts = #[t, u] := by obtain ⟨l⟩ := ts; simp at hts; rw [hts]
      subst e2
      obtain ⟨y, w', ρ', st', d, h1, h2, h3, h4⟩ := appendG_ok (ty := o.type) h (h.ev so) (h.ev xo) hk
      refine wp_put (y := y) ?_ h2 h3 h4 hn
      rw [hexec]
      simp only [builtin, List.map_toArray, List.map_cons, List.map_nil, Sem.run_bind, h1, Result.andThen_ok]
      rfl
    · rename_i s x t u hargs hts
      have e1 : ∃ so xo, args = #[so, xo] ∧ ev st so = s ∧ ev st xo = x := by
        obtain ⟨l⟩ := args
        match l, hargs with
        | [so, xo], hargs => simp at hargs; exact ⟨so, xo, rfl, hargs⟩
      obtain ⟨so, xo, rfl, rfl, rfl⟩ := e1
      have e2 : ts = #[t, u] := by obtain ⟨l⟩ := ts; simp at hts; rw [hts]
      subst e2
      obtain ⟨y, w', st', d, h1, h2, h3, h4⟩ := copyK_ok (u := u) (ty := o.type) h (h.ev so) (h.ev xo) hk
      refine wp_put (y := y) ?_ h2 h3 h4 hn
      rw [hexec]
      simp only [builtin, List.map_toArray, List.map_cons, List.map_nil, Sem.run_bind, h1, Result.andThen_ok]
      rfl
    · rename_i x y t u hargs hts
      have e1 : ∃ so xo, args = #[so, xo] ∧ ev st so = x ∧ ev st xo = y := by
        obtain ⟨l⟩ := args
        match l, hargs with
        | [so, xo], hargs => simp at hargs; exact ⟨so, xo, rfl, hargs⟩
      obtain ⟨so, xo, rfl, rfl, rfl⟩ := e1
      obtain ⟨v, d, h1, h3, h4⟩ := minK_ok (h.ev so) (h.ev xo) hk ts o.type
      refine wp_put (y := v) ?_ h h3 h4 hn
      rw [hexec]
      simp only [Bool.false_eq_true, if_false] at h1
      simp only [builtin, List.map_toArray, List.map_cons, List.map_nil, Sem.run_bind, h1, Result.andThen_ok]
      rfl
    · rename_i x y t u hargs hts
      have e1 : ∃ so xo, args = #[so, xo] ∧ ev st so = x ∧ ev st xo = y := by
        obtain ⟨l⟩ := args
        match l, hargs with
        | [so, xo], hargs => simp at hargs; exact ⟨so, xo, rfl, hargs⟩
      obtain ⟨so, xo, rfl, rfl, rfl⟩ := e1
      obtain ⟨v, d, h1, h3, h4⟩ := minK_ok (h.ev so) (h.ev xo) hk ts o.type
      refine wp_put (y := v) ?_ h h3 h4 hn
      rw [hexec]
      simp only [if_true] at h1
      simp only [builtin, List.map_toArray, List.map_cons, List.map_nil, Sem.run_bind, h1, Result.andThen_ok]
      rfl
    · cases hk
  · rename_i f args ts ho
    unfold callG at hk
    split at hk
    · exact valueK_ok (f := f) hΓ hG ho rfl h hk hn
    · rename_i B _
      split at hk
      · exact valueK_ok (f := f) (k := fun s : St => if okQ (qOf Γ) st.objs s.objs = true then k s else none) hΓ hG ho rfl h hk fun ρ' st' a' w' hR hk' => hn ρ' st' a' w' hR (by
          split at hk'
          · exact hk'
          · cases hk')
      · cases hk
  · rename_i t ho
    obtain ⟨y, w', ρ', st', d, h1, h2, h3, h4⟩ := makeMapK_ok h hk
    exact wp_put (by unfold execOp; rw [ho]; simp only [Option.map_none, Sem.run_bind, h1, Result.andThen_ok]; rfl) h2 h3 h4 hn
  · rename_i t x ix ok ho
    obtain ⟨y, d, h1, h3, h4⟩ := lookupK_ok h (h.ev x) (h.ev ix) hk
    exact wp_put (by unfold execOp; rw [ho]; simp only [Sem.run_bind, h1, Result.andThen_ok]; rfl) h h3 h4 hn
  · rename_i t m q v ho
    obtain ⟨st', w', h1, h2, h3⟩ := mapUpdK_ok h (h.ev m) (h.ev q) (h.ev v) hk
    unfold Oper.wp
    have hrun : (execOp a.eval o).run P w = .ok .skip w' := by unfold execOp; rw [ho]; simp only [Sem.run_bind, h1, Result.andThen_ok]; rfl
    rw [hrun]
    exact hn ρ _ _ _ (h2.put o.dst (.top_ _)) h3
  · rename_i t m q v ho
    obtain ⟨st', w', h1, h2, h3⟩ := mapUpdK_ok h (h.ev m) (h.ev q) (h.ev v) hk
    unfold Oper.wp
    have hrun : (execOp a.eval o).run P w = .ok .skip w' := by unfold execOp; rw [ho]; simp only [Sem.run_bind, h1, Result.andThen_ok]; rfl
    rw [hrun]
    exact hn ρ _ _ _ (h2.put o.dst (.top_ _)) h3
  · rename_i t m q ho
    obtain ⟨y, st', w', d, h1, h2, h3, h4⟩ := mapEntK_ok h (h.ev m) (h.ev q) hk
    exact wp_put (by unfold execOp; rw [ho]; simp only [Sem.run_bind, h1, Result.andThen_ok]; rfl) h2 h3 h4 hn
  · rename_i t m q v ho
    obtain ⟨st', w', h1, h2, h3⟩ := entStoreK_ok h (h.ev m) (h.ev q) (h.ev v) hk
    unfold Oper.wp
    have hrun : (execOp a.eval o).run P w = .ok .skip w' := by unfold execOp; rw [ho]; simp only [Sem.run_bind, h1, Result.andThen_ok]; rfl
    rw [hrun]
    exact hn ρ _ _ _ (h2.put o.dst (.top_ _)) h3
  · cases hk
end
end Go.Eng

/- The engine, part P: a region in a given order is sound; states that are packed into plain tuples. -/
namespace Go.Eng
open Go.RowKit

section
variable {R : Type} {P : Program} {Γ : FuncId → Option Callee} {w0 w : World} {F Xc : Nat → Prop} {ρ0 : Base} {ρ : Rho} {st : St} {a : Act} {r : R} {Q : Exit → Act → World → Prop}

/-- A slot's abstract value is turned into another one of the same value. -/
theorem Rel.slot (h : Rel w0 F Xc ρ0 ρ st a w) {t : Nat} {d : D} (hd : ∀ y, a.tmps[t]? = some y → RdD w (XB st.objs ρ Xc) ρ d y) : Rel w0 F Xc ρ0 ρ (st.put (some t) d) a w := by
  refine ⟨by simpa [St.put] using h.len, fun i d' y h1 h2 => ?_, h.objs, h.sep, h.own, h.par, h.defers, h.frame, h.xcl, h.xc, h.ext⟩
  simp only [St.put, List.getElem?_set] at h1
  by_cases hit : t = i
  · subst hit
    rw [if_pos rfl] at h1
    split at h1
    · cases h1; exact hd y h2
    · cases h1
  · rw [if_neg hit] at h1
    exact h.env i d' y h1 h2

theorem off_ok {X : Nat → Prop} : RdD w X ρ offD undef := ⟨#[], rfl, rfl, fun i s y h => by cases h⟩
theorem aOps_ok {ops : Array Oper} (hΓ : GOK P Γ) (hG : Good P w0 F) : ∀ (l : List Nat) {ρ : Rho} {st : St} {a : Act} {w : World} {k : St → Option R}, Rel w0 F Xc ρ0 ρ st a w → aOps P Γ ops l st k = some r →
    (∀ ρ' st' a' w', Rel w0 F Xc ρ0 ρ' st' a' w' → k st' = some r → Q .normal a' w') → wpOps P ops Q l a w
  | [], ρ, st, a, w, k, h, hk, hn => hn ρ st a w h hk
  | i :: rest, ρ, st, a, w, k, h, hk, hn => by
    simp only [aOps] at hk
    simp only [wpOps]
    split at hk
    · rename_i ho
      simp only [ho]
      exact aOps_ok hΓ hG rest h hk hn
    · rename_i o ho
      simp only [ho]
      split at hk
      · rename_i hg
        have hw : Region.wanted o (yielded ops a.tmps) = true := by simp [Region.wanted, hg]
        rw [if_pos hw]
        exact .inl (aOp_ok hΓ hG h hk fun ρ' st' a' w' hR hk' => aOps_ok hΓ hG rest hR hk' hn)
      · rename_i j want hg
        split at hk
        case h_1 => cases hk
        rename_i t hdst
        have hr := h.ev (.tmp t)
        have hev : ev st (.tmp t) = st.env.getD t D.top := rfl
        rw [hev] at hr
        unfold offK at hk
        split at hk
        case h_1 =>
          rename_i hoff
          rw [hoff] at hr
          obtain ⟨vs, hvs, hl, _⟩ := hr
          have hu : a.eval (.tmp t) = .tuple #[] := by
            rw [hvs]
            have : vs = #[] := by simpa using hl
            rw [this]
          have hw : Region.wanted o (yielded ops a.tmps) = false := by
            have hy : yielded ops a.tmps j = none := by
              simp only [yielded, hdst, Option.bind_some]
              cases hc : a.tmps[t]? with
              | none => rfl
              | some y =>
                have : a.eval (.tmp t) = y := by simp [Act.eval, Array.getD_eq_getD_getElem?, hc]
                rw [this] at hu
                subst hu; rfl
            simp [Region.wanted, hg, hy]
          rw [if_neg (by rw [hw]; decide)]
          exact aOps_ok hΓ hG rest (h.put o.dst off_ok) hk hn
        obtain ⟨b, hb, hk1⟩ := asB_ok hr hk
        have hlt : t < a.tmps.size := by
          apply Classical.byContradiction
          intro hge
          have : a.eval (.tmp t) = undef := by simp [Act.eval, Array.getD_eq_getD_getElem?, Array.getElem?_eq_none (Nat.le_of_not_lt hge)]
          rw [this] at hb
          cases hb
        have hat : a.tmps[t]? = some (.bool b) := by
          have : a.eval (.tmp t) = a.tmps[t] := by simp [Act.eval, Array.getD_eq_getD_getElem?, Array.getElem?_eq_getElem hlt]
          rw [Array.getElem?_eq_getElem hlt, ← this, hb]
        have hw : Region.wanted o (yielded ops a.tmps) = (b == want) := by
          simp only [Region.wanted, hg, yielded, hdst, Option.bind_some, hat]
          cases b <;> cases want <;> rfl
        have hslot : Rel w0 F Xc ρ0 ρ (st.put (some t) (dB b)) a w := h.slot fun y hy => by
          rw [hat] at hy; cases hy; exact .bool b
        cases b with
        | true =>
          simp only [cond_true] at hk1
          cases want with
          | true =>
            rw [if_pos rfl] at hk1
            rw [if_pos (show Region.wanted o (yielded ops a.tmps) = true from hw)]
            exact .inl (aOp_ok hΓ hG hslot hk1 fun ρ' st' a' w' hR hk' => aOps_ok hΓ hG rest hR hk' hn)
          | false =>
            rw [if_neg (by decide)] at hk1
            rw [if_neg (by rw [hw]; decide)]
            exact aOps_ok hΓ hG rest (hslot.put o.dst off_ok) hk1 hn
        | false =>
          simp only [cond_false] at hk1
          cases want with
          | true =>
            rw [if_pos rfl] at hk1
            rw [if_neg (by rw [hw]; decide)]
            exact aOps_ok hΓ hG rest (hslot.put o.dst off_ok) hk1 hn
          | false =>
            rw [if_neg (by decide)] at hk1
            rw [if_pos (show Region.wanted o (yielded ops a.tmps) = true from hw)]
            exact .inl (aOp_ok hΓ hG hslot hk1 fun ρ' st' a' w' hR hk' => aOps_ok hΓ hG rest hR hk' hn)
end

/-! Shapes: what is kept of a state where ways meet. -/
inductive Sh where
  | int (k : IntKind)
  | bool
  | str
  | sl (n : Nat)
  | row (e : TypeId) (n : Nat) (key : Nat)
  | rr (e e2 : TypeId) (n : Nat) (key : Nat)
  | tree
  | lit (c : C)
def Sh.ty : Sh → Type
  | .int _ => Int
  | .bool => Bool
  | .str => ByteArray
  | .sl _ => List T
  | .row _ _ _ => List T
  | .rr _ _ _ _ => List (List T)
  | .tree => T
  | .lit _ => Unit
def Tup : List Sh → Type
  | [] => Unit
  | s :: l => s.ty × Tup l
/-- A slot (of one cell, or of n), a box of n cells, or a box of n cells to whose beginning a slot points: its new key. -/
inductive It where
  | slot (i : Nat)
  | aggs (i n : Nat)
  | box (k n : Nat)
  | boxr (i k n : Nat)
structure Hint where
  items : List It
  shapes : List Sh

/-- The pairs of s hold: a key, and its new key. -/
def capsU (σ : List (Nat × Nat)) : List (Nat × Nat) → List (Nat × Nat) → Bool
  | [], [] => true
  | p :: l, q :: m => σ.contains (p.1, q.1) && p.2 == q.2 && capsU σ l m
  | _, _ => false
def C.same (σ : List (Nat × Nat)) : C → C → Bool
  | _, .top => true
  | .box k j, .box k' j' => σ.contains (k, k') && j == j'
  | .row k, .row k' => σ.contains (k, k')
  | .fn f l, .fn f' l' => f == f' && capsU σ l l'
  | .self u, .self u' => u == u'
  | .t (.v v), .t (.v v') => match plainFn v, plainFn v' with
    | some f, some f' => f == f'
    | _, _ => false
  | _, _ => false

section
variable {R : Type}
@[irreducible] def rowsT (m : Nat) (l : List (List T)) : List T := l.map (T.sl m)
/-- One cell, as its shape says; which rows are kept, which are given up as trees. -/
def getC (σ : List (Nat × Nat)) (objs : List O) (s : Sh) (c : C) (f : s.ty → List (Option Nat) → List Nat → Option R) : Option R := match s with
  | .int k => match c with
    | .t x => ob (x.int? k) fun n => f n [] []
    | _ => none
  | .bool => match c with
    | .t x => ob x.bool? fun b => f b [] []
    | _ => none
  | .str => match c with
    | .t x => ob x.str? fun s => f s [] []
    | _ => none
  | .sl n => match c with
    | .t x => ob (x.sl? n) fun l => f l [] []
    | .row key => match objs[key]? with
      | some (.row _ _ n' es) => if n' = n then f es [] [key] else none
      | some (.mp _ _ n' es) => if n' = n then f es [] [key] else none
      | _ => none
    | .cut key m lo len _ => match objs[key]? with
      | some (.row _ _ n' es) => if n' = n ∧ m = n then f (cutN es lo len) [] [key] else none
      | _ => none
    | .rk k0 => match rrAt objs 64 k0 with
      | some K => match objs[K]? with
        | some (.rr none _ _ m l) => if n = 1 then f (rowsT m l) [] [K] else none
        | _ => none
      | none => none
    | _ => none
  | .rr e e2 n _ => match c with
    | .rk k0 => match rrAt objs 64 k0 with
      | some K => match objs[K]? with
        | some (.rr none e' e2' n' l) => if e' = e ∧ e2' = e2 ∧ n' = n then f l [some K] [] else none
        | _ => none
      | none => none
    | _ => none
  | .row e n _ => match c with
    | .t (.v (.slice none 0 0)) => if 0 < n ∧ n < 1000000000 then f [] [none] [] else none
    | .row key => match objs[key]? with
      | some (.row false e' n' es) => if n < 1000000000 ∧ e' = e ∧ n' = n then f es [some key] [] else none
      | some (.mp false e' n' es) => if 1000000000 ≤ n ∧ e' = e ∧ n' = n then f es [some key] [] else none
      | _ => none
    | _ => none
  | .tree => match c with
    | .t x => f x [] []
    | _ => none
  | .lit c' => if c.same σ c' then f () [] [] else none
def getL (σ : List (Nat × Nat)) (objs : List O) : (l : List Sh) → List C → (Tup l → List (Option Nat) → List Nat → Option R) → Option R
  | [], [], f => f () [] []
  | s :: l, c :: cs, f => getC σ objs s c fun x rs zs => getL σ objs l cs fun t rs' zs' => f (x, t) (rs ++ rs') (zs ++ zs')
  | _, _, _ => none
end
def putC : (s : Sh) → s.ty → C
  | .int k, n => .t (.v (.int k n))
  | .bool, b => .t (.v (.bool b))
  | .str, s => .t (.v (.string s))
  | .sl n, l => .t (.sl n l)
  | .row _ _ key, _ => .row key
  | .rr _ _ _ key, _ => .rk key
  | .tree, x => .t x
  | .lit c, _ => c
def putL : (l : List Sh) → Tup l → List C
  | [], _ => []
  | s :: l, t => putC s t.1 :: putL l t.2
def rowsOf : (l : List Sh) → Tup l → List (Nat × O)
  | [], _ => []
  | .row e n key :: l, t => (key, mkRow e n t.1) :: rowsOf l t.2
  | .rr e e2 n key :: l, t => (key, .rr none e e2 n t.1) :: rowsOf l t.2
  | _ :: l, t => rowsOf l t.2
def gather (st : St) : List It → Option (List C)
  | [] => some []
  | .slot i :: l => match st.env.getD i D.top, gather st l with
    | .s (.c c), some cs => some (c :: cs)
    | _, _ => none
  | .aggs i n :: l => match st.env.getD i D.top, gather st l with
    | .s (.agg a), some cs => if a.length = n then some (a ++ cs) else none
    | _, _ => none
  | .box k n :: l => match st.objs[k]?, gather st l with
    | some (.box a), some cs => if a.length = n then some (a ++ cs) else none
    | _, _ => none
  | .boxr i _ n :: l => match st.env.getD i D.top, gather st l with
    | .s (.c (.box key 0)), some cs => match st.objs[key]? with
      | some (.box a) => if a.length = n then some (a ++ cs) else none
      | _ => none
    | _, _ => none
/-- The boxes' keys, and their new keys. -/
def boxPairs (st : St) : List It → List (Nat × Nat)
  | [] => []
  | .box k _ :: l => (k, k) :: boxPairs st l
  | .boxr i k _ :: l => match st.env.getD i D.top with
    | .s (.c (.box key 0)) => (key, k) :: boxPairs st l
    | _ => boxPairs st l
  | _ :: l => boxPairs st l
def rowPairs : List Sh → List C → List (Nat × Nat)
  | .row _ _ key :: l, .row k :: cs => (k, key) :: rowPairs l cs
  | _ :: l, _ :: cs => rowPairs l cs
  | _, _ => []
/-- The cells are laid into their places. -/
def scatter : List It → List C → St → St
  | [], _, st => st
  | .slot i :: l, cs, st => scatter l cs.tail { st with env := st.env.set i (.s (.c (cs.headD .top))) }
  | .aggs i n :: l, cs, st => scatter l (cs.drop n) { st with env := st.env.set i (.s (.agg (cs.take n))) }
  | .box k n :: l, cs, st => scatter l (cs.drop n) { st with objs := st.objs.set k (.box (cs.take n)) }
  | .boxr i k n :: l, cs, st => scatter l (cs.drop n) { st with env := st.env.set i (.s (.c (.box k 0))), objs := st.objs.set k (.box (cs.take n)) }
def setRows (objs : List O) : List (Nat × O) → List O
  | [] => objs
  | p :: l => setRows (objs.set p.1 p.2) l
def boxKeys : List It → List Nat
  | [] => []
  | .box k _ :: l => k :: boxKeys l
  | .boxr _ k _ :: l => k :: boxKeys l
  | _ :: l => boxKeys l
def rowKeys : List Sh → List Nat
  | [] => []
  | .row _ _ key :: l => key :: rowKeys l
  | .rr _ _ _ key :: l => key :: rowKeys l
  | _ :: l => rowKeys l
def blank (np n m : Nat) : St := { np := np, env := List.replicate n D.top, objs := List.replicate np .dead ++ List.replicate (m - np) .fresh }
def unpack (h : Hint) (np n m : Nat) (t : Tup h.shapes) : St :=
  let st := scatter h.items (putL h.shapes t) (blank np n m)
  { st with objs := setRows st.objs (rowsOf h.shapes t) }
/-- The hint is of use: its objects differ. -/
def Hint.ok (h : Hint) (m : Nat) : Bool :=
  let bs := boxKeys h.items
  let rs := rowKeys h.shapes
  (bs ++ rs).all (fun k => k < m) && decide ((bs ++ rs).Nodup)
/-- What was there before the call keeps its key. -/
def keepOk (np : Nat) : List Nat → List (Option Nat) → Bool
  | k :: ks, s :: ss => (decide (np ≤ k) || s == some k) && keepOk np ks ss
  | _, _ => true
def packK {R : Type} (h : Hint) (st : St) (f : Tup h.shapes → Option R) : Option R := match gather st h.items with
  | some cs => let bp := boxPairs st h.items
    getL (bp ++ rowPairs h.shapes cs) st.objs h.shapes cs fun t rs zs => if h.ok st.objs.length && keepOk st.np (rowKeys h.shapes) rs && bp.all (fun p => p.1 == p.2 || decide (st.np ≤ p.2)) && decide ((bp.map (·.1)).Nodup) && decide (rs.filterMap id).Nodup && zs.all (fun z => !rs.contains (some z)) && decide (st.np ≤ st.objs.length) then f t else none
  | none => none
end Go.Eng

/- The engine, part Q: packing a state is sound. -/
namespace Go.Eng
open Go.RowKit

section
variable {R : Type} {w0 w : World} {F Xc X'' : Nat → Prop} {ρ0 : Base} {ρ ρ'' : Rho} {st : St} {a : Act} {r : R}

/-- Which row a key comes from. -/
def srcOf : List Nat → List (Option Nat) → Nat → Option (Option Nat)
  | k :: ks, s :: ss, j => if k = j then some s else srcOf ks ss j
  | _, _, _ => none
def nilV : Value := .slice none 0 0
def hOf (ρ : Rho) : Option Nat → Option Value
  | some k => ρ k
  | none => some nilV

theorem srcOf_get : ∀ (ks : List Nat) (ss : List (Option Nat)) (i : Nat) (k : Nat) (s : Option Nat), ks.Nodup → ks[i]? = some k → ss[i]? = some s → srcOf ks ss k = some s
  | [], _, i, k, s, _, h, _ => by simp at h
  | k' :: ks, [], i, k, s, _, _, h => by simp at h
  | k' :: ks, s' :: ss, i, k, s, hn, h1, h2 => by
    obtain ⟨hk, hn'⟩ := List.nodup_cons.1 hn
    cases i with
    | zero => simp at h1 h2; subst h1; subst h2; simp [srcOf]
    | succ i =>
      simp at h1 h2
      have : k' ≠ k := fun e => hk (e ▸ List.mem_of_getElem? h1)
      simp only [srcOf, if_neg this]
      exact srcOf_get ks ss i k s hn' h1 h2
theorem srcOf_some : ∀ (ks : List Nat) (ss : List (Option Nat)) (k : Nat) (s : Option Nat), srcOf ks ss k = some s → ∃ i : Nat, ks[i]? = some k ∧ ss[i]? = some s
  | [], _, k, s, h => by simp [srcOf] at h
  | k' :: ks, [], k, s, h => by simp [srcOf] at h
  | k' :: ks, s' :: ss, k, s, h => by
    simp only [srcOf] at h
    split at h
    · rename_i e; cases h; exact ⟨0, by simp [e], rfl⟩
    · obtain ⟨i, h1, h2⟩ := srcOf_some ks ss k s h
      exact ⟨i + 1, by simpa using h1, by simpa using h2⟩

/-- What a cell's turn asks of the later handles. -/
structure Turn (ρ ρ'' : Rho) (X X'' : Nat → Prop) (objs : List O) (keys : List Nat) (src : List (Option Nat)) (zs : List Nat) (σ : List (Nat × Nat)) : Prop where
  sub : ∀ b, X'' b → X b
  len : keys.length = src.length
  rows : ∀ (i : Nat) k s, keys[i]? = some k → src[i]? = some s → ρ'' k = hOf ρ s
  trees : ∀ z ∈ zs, ∀ v b, ρ z = some v → blkIn v b → ¬ X'' b
  lit : ∀ p ∈ σ, ∀ v, ρ p.1 = some v → ρ'' p.2 = some v

theorem plainFn_eq {v : Value} {f : FuncId} (h : plainFn v = some f) : v = .func (.func f) #[] #[] := by
  unfold plainFn at h
  split at h
  · split at h
    · rename_i hemp
      simp only [Bool.and_eq_true, Array.isEmpty_iff] at hemp
      cases h
      rw [hemp.1, hemp.2]
    · cases h
  · cases h

theorem capsU_ok {σ : List (Nat × Nat)} (hl : ∀ p ∈ σ, ∀ v, ρ p.1 = some v → ρ'' p.2 = some v) : ∀ {l m : List (Nat × Nat)} {vs : List Value}, capsU σ l m = true → vs.length = l.length →
    (∀ (i : Nat) p v, l[i]? = some p → vs[i]? = some v → ∃ h, ρ p.1 = some h ∧ PtrAt h p.2 v) → vs.length = m.length ∧ ∀ (i : Nat) p v, m[i]? = some p → vs[i]? = some v → ∃ h, ρ'' p.1 = some h ∧ PtrAt h p.2 v
  | [], [], vs, _, hv, h => ⟨hv, fun i p v h1 _ => by simp at h1⟩
  | p :: l, q :: m, [], _, hv, h => by simp at hv
  | p :: l, q :: m, v :: vs, hc, hv, h => by
    simp only [capsU, Bool.and_eq_true, beq_iff_eq, List.contains_iff_mem] at hc
    obtain ⟨⟨h1, h2⟩, h3⟩ := hc
    obtain ⟨r1, r2⟩ := capsU_ok hl h3 (vs := vs) (by simpa using hv) (fun i p v e1 e2 => h (i + 1) p v (by simpa using e1) (by simpa using e2))
    refine ⟨by simp [r1], fun i p' v' e1 e2 => ?_⟩
    cases i with
    | zero =>
      simp at e1 e2
      subst e1; subst e2
      obtain ⟨hh, f1, f2⟩ := h 0 p v rfl rfl
      exact ⟨hh, hl _ h1 hh f1, by rw [← h2]; exact f2⟩
    | succ i => exact r2 i p' v' (by simpa using e1) (by simpa using e2)
  | [], _ :: _, _, hc, _, _ => by simp [capsU] at hc
  | _ :: _, [], _, hc, _, _ => by simp [capsU] at hc
theorem same_ok {X : Nat → Prop} {σ : List (Nat × Nat)} {c c' : C} {y : Value} (hX : ∀ b, X'' b → X b) (hl : ∀ p ∈ σ, ∀ v, ρ p.1 = some v → ρ'' p.2 = some v) (hs : c.same σ c' = true) (h : RdC1 w X ρ c y) : RdC1 w X'' ρ'' c' y := by
  unfold C.same at hs
  split at hs
  · exact .inl rfl
  · simp only [Bool.and_eq_true, beq_iff_eq, List.contains_iff_mem] at hs
    obtain ⟨h0, rfl⟩ := hs
    rcases h with h | ⟨⟨v, e1, e2⟩, h1⟩
    · cases h
    · exact .inr ⟨⟨v, hl _ h0 v e1, e2⟩, h1⟩
  · simp only [List.contains_iff_mem] at hs
    rcases h with h | ⟨h, h1⟩
    · cases h
    · exact .inr ⟨hl _ hs _ h, h1⟩
  · simp only [Bool.and_eq_true, beq_iff_eq] at hs
    obtain ⟨rfl, hc⟩ := hs
    rcases h with h | ⟨⟨vs, e1, e2, e3⟩, h1⟩
    · cases h
    · obtain ⟨r1, r2⟩ := capsU_ok hl hc e2 e3
      exact .inr ⟨⟨vs, e1, r1, r2⟩, h1⟩
  · rcases h with h | ⟨h, h1⟩
    · cases h
    · exact .inr ⟨trivial, h1⟩
  · split at hs
    · rename_i f f' e1 e2
      have := beq_iff_eq.1 hs
      subst this
      rw [plainFn_eq e1] at h
      rw [plainFn_eq e2]
      rcases h with h | ⟨h, h1⟩
      · cases h
      · exact .inr ⟨by have := Rd.inv_v h; subst this; exact .v _, h1⟩
    · cases hs
  · cases hs

theorem rr_tree {X X'' : Nat → Prop} {hole : Option Nat} {e e2 : TypeId} {n : Nat} {l : List (List T)} {vs : Array Value} {v : Value} (h : okR w X hole e e2 n l (.tuple vs)) (hv : vs[0]? = some v) (hX : ∀ b, X'' b → X b) (hb : ∀ b, blkIn (.tuple vs) b → ¬ X'' b)
    (hh : hole = none := by rfl) : Rd w X'' (.sl 1 (rowsT n l)) v := by
  subst hh
  obtain ⟨h0, ho, hs, xs, g1, g2, g3, g4, g5, g6⟩ := h
  cases g1
  have : ho = v := by simpa using hv
  subst this
  have hlen : (rowsT n l).length = l.length := by unfold rowsT; simp
  have hget : ∀ (i : Nat) t, (rowsT n l)[i]? = some t → ∃ m, l[i]? = some m ∧ t = .sl n m := fun i t hi => by
    unfold rowsT at hi
    rw [List.getElem?_map] at hi
    cases hl : l[i]? with
    | none => simp [hl] at hi
    | some m => simp only [hl, Option.map_some, Option.some.injEq] at hi; exact ⟨m, rfl, hi.symm⟩
  have hflat : flat (rowsT n l) = rowsT n l := flat_one fun t ht => by
    obtain ⟨i, hi, rfl⟩ := List.getElem_of_mem ht
    obtain ⟨m, _, e⟩ := hget i _ (List.getElem?_eq_getElem hi)
    rw [e]; rfl
  have huni : Uni 1 (rowsT n l) := fun t ht => by
    obtain ⟨i, hi, rfl⟩ := List.getElem_of_mem ht
    obtain ⟨m, _, e⟩ := hget i _ (List.getElem?_eq_getElem hi)
    rw [e]; rfl
  have hxl := g2.1
  rw [Nat.mul_one] at hxl
  have inner : ∀ (i : Nat) t y, (rowsT n l)[i]? = some t → xs[i]? = some y → Rd w X'' t y := fun i t y h1 h2 => by
    obtain ⟨m, hm, rfl⟩ := hget i t h1
    have hil : i < l.length := (List.getElem?_eq_some_iff.1 hm).1
    have hsi : hs[i]? = some hs[i] := List.getElem?_eq_getElem (by omega)
    have e1 := (g4 i y _ h2 hsi).2 (by simp)
    rw [← e1] at hsi
    obtain ⟨q1, ys, q2, q3⟩ := g5 i m y hm hsi
    exact row_tree (ρ := fun _ => none) (X := X) (fz := false) (e := e2) (l := m) ⟨h0, q1, ⟨ys, q2, q3⟩, fun hc => by cases hc⟩ hX (fun b hyb => hb b (.inr ⟨_, rfl, y, by simp [List.mem_of_getElem? hsi], hyb⟩))
  rcases g2.2 with ⟨hn | ⟨a, hn⟩, hz⟩ | ⟨g, off, cap, cur, hn, z2, z3, z4, z5, z6, z7⟩
  · have : l = [] := List.eq_nil_of_length_eq_zero hz
    subst this
    subst hn
    have : rowsT n [] = [] := by unfold rowsT; rfl
    rw [this]; exact .nil 1 (by omega)
  · have : l = [] := List.eq_nil_of_length_eq_zero hz
    subst this
    subst hn
    have : rowsT n [] = [] := by unfold rowsT; rfl
    rw [this]
    have key : Rd w X'' (.sl 1 []) (.slice (some a) ([] : List T).length 0) := .sl 1 [] a 0 [] (by omega) (Nat.le_refl _) (by unfold maxLen; omega) (.nil 1) rfl (fun i y h => by simp at h) (fun i t y h _ => by simp [flat] at h)
    exact key
  · subst hn
    rw [← hlen]
    refine .sl 1 _ ⟨g, off, none⟩ cap xs (by omega) (by omega) z5 huni (by rw [hflat, hlen, hxl]) (fun i y hi => ?_) (fun i t y h1 h2 => inner i t y (by rw [← hflat]; exact h1) h2)
    have hil : i < l.length := by have := (List.getElem?_eq_some_iff.1 hi).1; omega
    refine ⟨g2.cells rfl i y hi, ?_, (g4 i y _ hi (List.getElem?_eq_getElem (by omega))).1⟩
    exact hb g (.inr ⟨_, rfl, .slice (some ⟨g, off, none⟩) l.length cap, by simp, by simp [blk]; omega⟩)
theorem getC_ok {σ : List (Nat × Nat)} {s : Sh} {c : C} {f : s.ty → List (Option Nat) → List Nat → Option R} (h : Rel w0 F Xc ρ0 ρ st a w) (hf : getC σ st.objs s c f = some r) :
    ∃ x rs zs, f x rs zs = some r ∧ rs.length = (rowKeys [s]).length ∧
      (∀ (i : Nat) k o, (rowsOf [s] (x, ()))[i]? = some (k, o) → (rowKeys [s])[i]? = some k ∧ ∃ sr, rs[i]? = some sr ∧ o.rowf = true ∧ (∀ k', sr = some k' → st.objs[k']? = some o) ∧ (sr = none → ∃ e n, o = .row false e n [] ∧ (0 < n ∧ n < 1000000000))) ∧
      (∀ z ∈ zs, ∃ o, st.objs[z]? = some o ∧ o.giv = true) ∧ (∀ p ∈ rowPairs [s] [c], rowKeys [s] = [p.2] ∧ rs = [some p.1]) ∧
      ∀ (ρ'' : Rho) (X'' : Nat → Prop), Turn ρ ρ'' (XB st.objs ρ Xc) X'' st.objs (rowKeys [s]) rs zs σ → ∀ y, RdC1 w (XB st.objs ρ Xc) ρ c y → RdC1 w X'' ρ'' (putC s x) y := by
  have norow : ∀ {P : Nat → Nat → O → Prop}, ∀ (i : Nat) k o, ([] : List (Nat × O))[i]? = some (k, o) → P i k o := fun i k o h => by simp at h
  cases s with
  | int kd =>
    simp only [getC] at hf
    split at hf
    · rename_i x
      obtain ⟨n, hn, hf⟩ := ob_some hf
      refine ⟨n, [], [], hf, rfl, norow, by simp, by simp [rowPairs], fun ρ'' X'' _ y hy => ?_⟩
      rcases hy with hy | ⟨hy, h1⟩
      · cases hy
      · have := int_ok hy hn; subst this; exact .inr ⟨.v _, rfl⟩
    · cases hf
  | bool =>
    simp only [getC] at hf
    split at hf
    · rename_i x
      obtain ⟨n, hn, hf⟩ := ob_some hf
      refine ⟨n, [], [], hf, rfl, norow, by simp, by simp [rowPairs], fun ρ'' X'' _ y hy => ?_⟩
      rcases hy with hy | ⟨hy, h1⟩
      · cases hy
      · have := bool_ok hy hn; subst this; exact .inr ⟨.v _, rfl⟩
    · cases hf
  | str =>
    simp only [getC] at hf
    split at hf
    · rename_i x
      obtain ⟨n, hn, hf⟩ := ob_some hf
      refine ⟨n, [], [], hf, rfl, norow, by simp, by simp [rowPairs], fun ρ'' X'' _ y hy => ?_⟩
      rcases hy with hy | ⟨hy, h1⟩
      · cases hy
      · have := str_ok hy hn; subst this; exact .inr ⟨.v _, rfl⟩
    · cases hf
  | sl n =>
    simp only [getC] at hf
    split at hf
    · rename_i x
      obtain ⟨l, hl, hf⟩ := ob_some hf
      refine ⟨l, [], [], hf, rfl, norow, by simp, by simp [rowPairs], fun ρ'' X'' ht y hy => ?_⟩
      rcases hy with hy | ⟨hy, h1⟩
      · cases hy
      · unfold T.sl? at hl
        split at hl
        · split at hl
          case isFalse => cases hl
          rename_i hnm
          cases hl
          have := Rd.inv_v hy
          subst this
          exact .inr ⟨.nil n hnm, rfl⟩
        · split at hl
          · rename_i hk
            cases hl; subst hk
            exact .inr ⟨Rd.weak hy ht.sub, h1⟩
          · cases hl
        · cases hl
    · rename_i key
      split at hf
      · rename_i fz e n' es hob
        split at hf
        · rename_i hn
          subst hn
          refine ⟨es, [], [key], hf, rfl, norow, fun z hz => by simp at hz; subst hz; exact ⟨_, hob, rfl⟩, by simp [rowPairs], fun ρ'' X'' ht y hy => ?_⟩
          rcases hy with hy | ⟨hy, h1⟩
          · cases hy
          · obtain ⟨v, e1, e2⟩ := h.objs key _ hob
            have hyy : ρ key = some y := hy
            rw [hyy] at e1
            cases e1
            exact .inr ⟨row_tree e2 ht.sub (fun b hb => ht.trees key (by simp) y b hyy (.inl hb)), h1⟩
        · cases hf
      · rename_i fz e n' es hob
        split at hf
        · rename_i hn
          subst hn
          refine ⟨es, [], [key], hf, rfl, norow, fun z hz => by simp at hz; subst hz; exact ⟨_, hob, rfl⟩, by simp [rowPairs], fun ρ'' X'' ht y hy => ?_⟩
          rcases hy with hy | ⟨hy, h1⟩
          · cases hy
          · obtain ⟨v, e1, e2⟩ := h.objs key _ hob
            have hyy : ρ key = some y := hy
            rw [hyy] at e1
            cases e1
            exact .inr ⟨mp_tree e2 ht.sub (fun b hb => ht.trees key (by simp) y b hyy (.inl hb)), h1⟩
        · cases hf
      · cases hf
    · rename_i key m lo len tg
      split at hf
      · rename_i fz e n' es hob
        split at hf
        · rename_i hn
          obtain ⟨rfl, rfl⟩ := hn
          refine ⟨_, [], [key], hf, rfl, norow, fun z hz => by simp at hz; subst hz; exact ⟨_, hob, rfl⟩, by simp [rowPairs], fun ρ'' X'' ht y hy => ?_⟩
          rcases hy with hy | ⟨⟨v, q1, q2⟩, h1⟩
          · cases hy
          · obtain ⟨v', e1, e2⟩ := h.objs key _ hob
            rw [q1] at e1
            cases e1
            exact .inr ⟨cut_tree e2 q2 ht.sub (fun b hb => ht.trees key (by simp) v b q1 (.inl hb)), h1⟩
        · cases hf
      · cases hf
    · rename_i k0
      split at hf
      · rename_i K hK
        split at hf
        · rename_i m l hob
          split at hf
          · rename_i hn
            subst hn
            refine ⟨_, [], [K], hf, rfl, norow, fun z hz => by simp at hz; subst hz; exact ⟨_, hob, rfl⟩, by simp [rowPairs], fun ρ'' X'' ht y hy => ?_⟩
            rcases hy with hy | ⟨⟨vs, q1, q2⟩, h1⟩
            · cases hy
            · obtain ⟨hole, _, _, _, _, vs', f1, f2, f3, f4⟩ := rrAt_ok h hK q1
              rw [hob] at f1
              cases f1
              exact .inr ⟨rr_tree f4 (f3.trans q2) ht.sub (fun b hb => ht.trees K (by simp) _ b f2 hb), h1⟩
          · cases hf
        · cases hf
      · cases hf
    · cases hf
  | rr e e2 n key =>
    simp only [getC] at hf
    split at hf
    · rename_i k0
      split at hf
      · rename_i K hK
        split at hf
        · rename_i e' e2' n' l hob
          split at hf
          · rename_i hn
            obtain ⟨rfl, rfl, rfl⟩ := hn
            refine ⟨l, [some K], [], hf, rfl, fun i k o hi => ?_, by simp, by simp [rowPairs], fun ρ'' X'' ht y hy => ?_⟩
            · cases i with
              | zero =>
                simp only [rowsOf, List.getElem?_cons_zero, Option.some.injEq, Prod.mk.injEq] at hi
                obtain ⟨rfl, rfl⟩ := hi
                exact ⟨rfl, some K, rfl, rfl, fun k'' hk => by cases hk; exact hob, by simp⟩
              | succ i => simp [rowsOf] at hi
            · rcases hy with hy | ⟨⟨vs, q1, q2⟩, h1⟩
              · cases hy
              · obtain ⟨hole, _, _, _, _, vs', f1, f2, f3, f4⟩ := rrAt_ok h hK q1
                exact .inr ⟨⟨vs', (ht.rows 0 key (some K) rfl rfl).trans f2, f3.trans q2⟩, h1⟩
          · cases hf
        · cases hf
      · cases hf
    · cases hf
  | row e n key =>
    simp only [getC] at hf
    split at hf
    · split at hf
      · rename_i hn
        refine ⟨[], [none], [], hf, rfl, fun i k o hi => ?_, by simp, by simp [rowPairs], fun ρ'' X'' ht y hy => ?_⟩
        · cases i with
          | zero =>
            simp only [rowsOf, List.getElem?_cons_zero, Option.some.injEq, Prod.mk.injEq] at hi
            obtain ⟨rfl, rfl⟩ := hi
            exact ⟨rfl, none, rfl, mkRow_rowf _ _ _, by simp, fun _ => ⟨e, n, by unfold mkRow; rw [if_pos hn.2], hn⟩⟩
          | succ i => simp [rowsOf] at hi
        · rcases hy with hy | ⟨hy, h1⟩
          · cases hy
          · have := Rd.inv_v hy
            subst this
            exact .inr ⟨ht.rows 0 key none rfl rfl, rfl⟩
      · cases hf
    · rename_i k'
      split at hf
      · rename_i e' n' es hob
        split at hf
        · rename_i hc
          obtain ⟨hnm, rfl, rfl⟩ := hc
          refine ⟨es, [some k'], [], hf, rfl, fun i k o hi => ?_, by simp, fun p hp => by simp only [rowPairs, List.mem_singleton] at hp; subst hp; exact ⟨rfl, rfl⟩, fun ρ'' X'' ht y hy => ?_⟩
          · cases i with
            | zero =>
              simp only [rowsOf, List.getElem?_cons_zero, Option.some.injEq, Prod.mk.injEq] at hi
              obtain ⟨rfl, rfl⟩ := hi
              exact ⟨rfl, some k', rfl, mkRow_rowf _ _ _, fun k'' hk => by cases hk; unfold mkRow; rw [if_pos hnm]; exact hob, by simp⟩
            | succ i => simp [rowsOf] at hi
          · rcases hy with hy | ⟨hy, h1⟩
            · cases hy
            · exact .inr ⟨(ht.rows 0 key (some k') rfl rfl).trans hy, h1⟩
        · cases hf
      · rename_i e' n' es hob
        split at hf
        · rename_i hc
          obtain ⟨hnm, rfl, rfl⟩ := hc
          refine ⟨es, [some k'], [], hf, rfl, fun i k o hi => ?_, by simp, fun p hp => by simp only [rowPairs, List.mem_singleton] at hp; subst hp; exact ⟨rfl, rfl⟩, fun ρ'' X'' ht y hy => ?_⟩
          · cases i with
            | zero =>
              simp only [rowsOf, List.getElem?_cons_zero, Option.some.injEq, Prod.mk.injEq] at hi
              obtain ⟨rfl, rfl⟩ := hi
              exact ⟨rfl, some k', rfl, mkRow_rowf _ _ _, fun k'' hk => by cases hk; unfold mkRow; rw [if_neg (by omega)]; exact hob, by simp⟩
            | succ i => simp [rowsOf] at hi
          · rcases hy with hy | ⟨hy, h1⟩
            · cases hy
            · exact .inr ⟨(ht.rows 0 key (some k') rfl rfl).trans hy, h1⟩
        · cases hf
      · cases hf
    · cases hf
  | tree =>
    simp only [getC] at hf
    split at hf
    · rename_i x
      refine ⟨x, [], [], hf, rfl, norow, by simp, by simp [rowPairs], fun ρ'' X'' ht y hy => ?_⟩
      rcases hy with hy | ⟨hy, h1⟩
      · cases hy
      · exact .inr ⟨Rd.weak hy ht.sub, h1⟩
    · cases hf
  | lit c' =>
    simp only [getC] at hf
    split at hf
    · rename_i hs
      refine ⟨(), [], [], hf, rfl, norow, by simp, by simp [rowPairs], fun ρ'' X'' ht y hy => same_ok ht.sub ht.lit hs hy⟩
    · cases hf

theorem rowKeys_cons (s : Sh) (l : List Sh) : rowKeys (s :: l) = rowKeys [s] ++ rowKeys l := by cases s <;> rfl
theorem rowPairs_cons (s : Sh) (l : List Sh) (c : C) (cs : List C) : rowPairs (s :: l) (c :: cs) = rowPairs [s] [c] ++ rowPairs l cs := by cases s <;> cases c <;> simp [rowPairs]
theorem rowsOf_cons (s : Sh) (l : List Sh) (x : s.ty) (t : Tup l) : rowsOf (s :: l) (x, t) = rowsOf [s] (x, ()) ++ rowsOf l t := by cases s <;> rfl
theorem rowsOf_len : ∀ (l : List Sh) (t : Tup l), (rowsOf l t).length = (rowKeys l).length
  | [], _ => rfl
  | .int _ :: l, t => rowsOf_len l t.2
  | .bool :: l, t => rowsOf_len l t.2
  | .str :: l, t => rowsOf_len l t.2
  | .sl _ :: l, t => rowsOf_len l t.2
  | .row _ _ _ :: l, t => by simp [rowsOf, rowKeys, rowsOf_len l t.2]
  | .rr _ _ _ _ :: l, t => by simp [rowsOf, rowKeys, rowsOf_len l t.2]
  | .tree :: l, t => rowsOf_len l t.2
  | .lit _ :: l, t => rowsOf_len l t.2

theorem getL_ok {σ : List (Nat × Nat)} (h : Rel w0 F Xc ρ0 ρ st a w) : ∀ (l : List Sh) (cs : List C) (f : Tup l → List (Option Nat) → List Nat → Option R), getL σ st.objs l cs f = some r →
    ∃ t rs zs, f t rs zs = some r ∧ rs.length = (rowKeys l).length ∧
      (∀ (i : Nat) k o, (rowsOf l t)[i]? = some (k, o) → (rowKeys l)[i]? = some k ∧ ∃ sr, rs[i]? = some sr ∧ o.rowf = true ∧ (∀ k', sr = some k' → st.objs[k']? = some o) ∧ (sr = none → ∃ e n, o = .row false e n [] ∧ (0 < n ∧ n < 1000000000))) ∧
      (∀ z ∈ zs, ∃ o, st.objs[z]? = some o ∧ o.giv = true) ∧ (∀ p ∈ rowPairs l cs, ∃ i : Nat, (rowKeys l)[i]? = some p.2 ∧ rs[i]? = some (some p.1)) ∧
      ∀ (ρ'' : Rho) (X'' : Nat → Prop), Turn ρ ρ'' (XB st.objs ρ Xc) X'' st.objs (rowKeys l) rs zs σ → ∀ ys, RdL w (XB st.objs ρ Xc) ρ cs ys → RdL w X'' ρ'' (putL l t) ys
  | [], [], f, hf => ⟨(), [], [], hf, rfl, fun i k o hi => by simp [rowsOf] at hi, by simp, by simp [rowPairs], fun _ _ _ ys hy => ⟨hy.1, fun i c y h1 _ => by simp [putL] at h1⟩⟩
  | [], _ :: _, f, hf => by simp [getL] at hf
  | _ :: _, [], f, hf => by simp [getL] at hf
  | s :: l, c :: cs, f, hf => by
    simp only [getL] at hf
    obtain ⟨x, rs1, zs1, hf1, len1, row1, z1, pr1, turn1⟩ := getC_ok h hf
    obtain ⟨t, rs2, zs2, hf2, len2, row2, z2, pr2, turn2⟩ := getL_ok h l cs _ hf1
    have hlen1 := rowsOf_len [s] (x, ())
    refine ⟨(x, t), rs1 ++ rs2, zs1 ++ zs2, hf2, by rw [List.length_append, rowKeys_cons, List.length_append, len1, len2], fun i k o hi => ?_, fun z hz => ?_, fun p hp => ?_, fun ρ'' X'' ht ys hy => ?_⟩
    · rw [rowsOf_cons, List.getElem?_append] at hi
      rw [rowKeys_cons, List.getElem?_append, List.getElem?_append]
      split at hi
      · rename_i hlt
        rw [if_pos (by omega), if_pos (by omega)]
        exact row1 i k o hi
      · rename_i hlt
        rw [if_neg (by omega), if_neg (by omega), len1]
        rw [hlen1] at hi
        exact row2 _ k o hi
    · rcases List.mem_append.1 hz with hz | hz
      · exact z1 z hz
      · exact z2 z hz
    · rw [rowPairs_cons] at hp
      rw [rowKeys_cons]
      rcases List.mem_append.1 hp with hp | hp
      · obtain ⟨e1, e2⟩ := pr1 p hp
        exact ⟨0, by rw [e1]; rfl, by rw [e2]; rfl⟩
      · obtain ⟨i, e1, e2⟩ := pr2 p hp
        exact ⟨i + rs1.length, by rw [List.getElem?_append, if_neg (by omega), ← len1, Nat.add_sub_cancel]; exact e1, by rw [List.getElem?_append, if_neg (by omega), Nat.add_sub_cancel]; exact e2⟩
    · cases ys with
      | nil => simp [RdL] at hy
      | cons y ys =>
        have hk := ht.rows
        rw [rowKeys_cons] at hk
        have t1 : Turn ρ ρ'' (XB st.objs ρ Xc) X'' st.objs (rowKeys [s]) rs1 zs1 σ :=
          ⟨ht.sub, len1.symm, fun i k sr h1 h2 => hk i k sr (by rw [List.getElem?_append, if_pos (List.getElem?_eq_some_iff.1 h1).1]; exact h1) (by rw [List.getElem?_append, if_pos (List.getElem?_eq_some_iff.1 h2).1]; exact h2),
            fun z hz => ht.trees z (List.mem_append.2 (.inl hz)), ht.lit⟩
        have t2 : Turn ρ ρ'' (XB st.objs ρ Xc) X'' st.objs (rowKeys l) rs2 zs2 σ :=
          ⟨ht.sub, len2.symm, fun i k sr h1 h2 => hk (i + rs1.length) k sr (by rw [List.getElem?_append, if_neg (by omega), ← len1, Nat.add_sub_cancel]; exact h1) (by rw [List.getElem?_append, if_neg (by omega), Nat.add_sub_cancel]; exact h2),
            fun z hz => ht.trees z (List.mem_append.2 (.inr hz)), ht.lit⟩
        have hy2 : RdL w (XB st.objs ρ Xc) ρ cs ys := ⟨by simpa using hy.1, fun i c y h1 h2 => hy.2 (i + 1) c y (by simpa using h1) (by simpa using h2)⟩
        have r2 := turn2 ρ'' X'' t2 ys hy2
        refine ⟨by simp [putL, r2.1], fun i c' y' h1 h2 => ?_⟩
        cases i with
        | zero => simp [putL] at h1 h2; subst h1; subst h2; exact turn1 ρ'' X'' t1 _ (hy.2 0 c _ rfl rfl)
        | succ i => exact r2.2 i c' y' (by simpa [putL] using h1) (by simpa using h2)

/-- What is gathered has values in the world. -/
theorem gather_vals (h : Rel w0 F Xc ρ0 ρ st a w) : ∀ (items : List It) (cs : List C), gather st items = some cs → ∃ ys, RdL w (XB st.objs ρ Xc) ρ cs ys
  | [], cs, hg => by simp only [gather, Option.some.injEq] at hg; subst hg; exact ⟨[], rfl, fun i c y h1 _ => by simp at h1⟩
  | .slot i :: l, cs, hg => by
    simp only [gather] at hg
    split at hg
    · rename_i c cs' he hg'
      cases hg
      obtain ⟨ys, hy⟩ := gather_vals h l cs' hg'
      have hr := h.ev (.tmp i)
      have : ev st (.tmp i) = .s (.c c) := he
      rw [this] at hr
      exact ⟨_, (RdL.one (c := c) hr).append hy⟩
    · cases hg
  | .aggs i n :: l, cs, hg => by
    simp only [gather] at hg
    split at hg
    · rename_i c cs' he hg'
      split at hg
      · cases hg
        obtain ⟨ys, hy⟩ := gather_vals h l cs' hg'
        have hr := h.ev (.tmp i)
        have : ev st (.tmp i) = .s (.agg c) := he
        rw [this] at hr
        obtain ⟨vs, _, hvs⟩ := hr
        exact ⟨_, hvs.append hy⟩
      · cases hg
    · cases hg
  | .box k n :: l, cs, hg => by
    simp only [gather] at hg
    split at hg
    · rename_i c cs' ho hg'
      split at hg
      · cases hg
        obtain ⟨ys, hy⟩ := gather_vals h l cs' hg'
        obtain ⟨v, _, g, zs, ty, _, _, _, hz⟩ := h.objs k _ ho
        exact ⟨_, hz.append hy⟩
      · cases hg
    · cases hg
  | .boxr i k n :: l, cs, hg => by
    simp only [gather] at hg
    split at hg
    · rename_i key cs' he hg'
      split at hg
      · rename_i c ho
        split at hg
        · cases hg
          obtain ⟨ys, hy⟩ := gather_vals h l cs' hg'
          obtain ⟨v, _, g, zs, ty, _, _, _, hz⟩ := h.objs key _ ho
          exact ⟨_, hz.append hy⟩
        · cases hg
      · cases hg
    · cases hg
end
end Go.Eng

/- The engine, part R: packing a state is sound, whole. -/
namespace Go.Eng
open Go.RowKit

section
variable {R : Type} {w0 w : World} {F Xc X X'' : Nat → Prop} {ρ0 : Base} {ρ ρ'' : Rho} {st : St} {a : Act} {r : R}

theorem ob_bind {α β γ : Type} (m : Option α) (f : α → Option β) (g : β → Option γ) : (ob m f).bind g = ob m fun a => (f a).bind g := by cases m <;> rfl
theorem getC_nat {R : Type} {σ : List (Nat × Nat)} {objs : List O} {s : Sh} {c : C} (f : s.ty → List (Option Nat) → List Nat → Option R) : getC σ objs s c f = (getC σ objs s c fun x r z => some (x, r, z)).bind fun p => f p.1 p.2.1 p.2.2 := by
  cases s <;> simp only [getC] <;> repeat' (first | split | dsimp only)
  all_goals first
    | rfl
    | (simp_all [ob_bind]; done)
theorem getL_nat {R : Type} {σ : List (Nat × Nat)} {objs : List O} : ∀ (l : List Sh) (cs : List C) (f : Tup l → List (Option Nat) → List Nat → Option R), getL σ objs l cs f = (getL σ objs l cs fun x r z => some (x, r, z)).bind fun p => f p.1 p.2.1 p.2.2
  | [], [], f => rfl
  | [], _ :: _, f => rfl
  | _ :: _, [], f => rfl
  | s :: l, c :: cs, f => by
    simp only [getL]
    refine (getC_nat _).trans (Eq.trans ?_ (congrArg (fun z : Option (Tup (s :: l) × List (Option Nat) × List Nat) => z.bind fun p => f p.1 p.2.1 p.2.2) (getC_nat _)).symm)
    rw [Option.bind_assoc]
    refine congrArg _ (funext fun p => ?_)
    refine (getL_nat l cs _).trans (Eq.trans ?_ (congrArg (fun z : Option (Tup (s :: l) × List (Option Nat) × List Nat) => z.bind fun p => f p.1 p.2.1 p.2.2) (getL_nat l cs _)).symm)
    rw [Option.bind_assoc]
    rfl
theorem same_self {σ : List (Nat × Nat)} {c : C} {t : TypeId} (h : c.same σ (.self t) = true) : c = .self t := by
  unfold C.same at h
  split at h <;> first
    | (rename_i e; cases e; done)
    | (rename_i e1 e2; cases e2; done)
    | skip
  all_goals simp_all
theorem putC_self {s : Sh} {x : s.ty} {t : TypeId} (h : putC s x = .self t) : s = .lit (.self t) := by
  cases s <;> simp [putC] at h
  subst h; rfl
theorem getL_self {R : Type} {σ : List (Nat × Nat)} {objs : List O} {r : R} : ∀ (l : List Sh) (cs : List C) {f : Tup l → List (Option Nat) → List Nat → Option R}, getL σ objs l cs f = some r → ∀ t : Tup l, SelfLe cs (putL l t)
  | [], [], f, _, t, i, u, hi => by simp [putL] at hi
  | [], _ :: _, f, h, _, _, _, _ => by simp [getL] at h
  | _ :: _, [], f, h, _, _, _, _ => by simp [getL] at h
  | s :: l, c :: cs, f, h, t, i, u, hi => by
    simp only [getL] at h
    cases i with
    | zero =>
      simp only [putL, List.getElem?_cons_zero, Option.some.injEq] at hi ⊢
      have hs := putC_self hi
      subst hs
      simp only [getC] at h
      split at h
      · rename_i hc; exact same_self hc
      · cases h
    | succ i =>
      rw [getC_nat] at h
      obtain ⟨p, _, h2⟩ := Option.bind_eq_some_iff.1 h
      simpa using getL_self l cs h2 t.2 i u (by simpa [putL] using hi)

/-- The cells cs' say no more than the cells cs did. -/
def Refines (w : World) (X : Nat → Prop) (ρ : Rho) (X'' : Nat → Prop) (ρ'' : Rho) (cs cs' : List C) : Prop := (∀ ys, RdL w X ρ cs ys → RdL w X'' ρ'' cs' ys) ∧ SelfLe cs cs'

theorem Refines.right {l m m' : List C} (h : Refines w X ρ X'' ρ'' (l ++ m) m') {ys : List Value} (hy : RdL w X ρ l ys) : Refines w X ρ X'' ρ'' m (m'.drop l.length) := ⟨fun zs hz => by
  have := (h.1 _ (hy.append hz)).drop l.length
  rwa [← hy.1, List.drop_left, hy.1] at this, h.2.right⟩
theorem Refines.left {l m m' : List C} (h : Refines w X ρ X'' ρ'' (l ++ m) m') {zs : List Value} (hz : RdL w X ρ m zs) : Refines w X ρ X'' ρ'' l (m'.take l.length) := ⟨fun ys hy => by
  have := (h.1 _ (hy.append hz)).take l.length
  rwa [← hy.1, List.take_left, hy.1] at this, h.2.left⟩

def EnvOK (w : World) (X'' : Nat → Prop) (ρ'' : Rho) (a : Act) (env : List D) : Prop := ∀ (i : Nat) d y, env[i]? = some d → a.tmps[i]? = some y → RdD w X'' ρ'' d y

theorem EnvOK.set {env : List D} (h : EnvOK w X'' ρ'' a env) {j : Nat} {d : D} (hd : ∀ y, a.tmps[j]? = some y → RdD w X'' ρ'' d y) : EnvOK w X'' ρ'' a (env.set j d) := fun i d' y h1 h2 => by
  rw [List.getElem?_set] at h1
  split at h1
  · rename_i e
    subst e
    split at h1
    · cases h1; exact hd y h2
    · cases h1
  · exact h i d' y h1 h2
theorem eval_tmp {i : Nat} {y : Value} (h : a.tmps[i]? = some y) : a.eval (.tmp i) = y := by
  obtain ⟨hlt, rfl⟩ := Array.getElem?_eq_some_iff.1 h
  simp [Act.eval, Array.getD_eq_getD_getElem?, Array.getElem?_eq_getElem hlt]

theorem scatter_env (h : Rel w0 F Xc ρ0 ρ st a w) : ∀ (items : List It) (cs cs' : List C) (st0 : St), (∀ p ∈ boxPairs st items, ρ'' p.2 = ρ p.1) → gather st items = some cs → Refines w (XB st.objs ρ Xc) ρ X'' ρ'' cs cs' → EnvOK w X'' ρ'' a st0.env → EnvOK w X'' ρ'' a (scatter items cs' st0).env
  | [], _, _, _, _, _, _, he => he
  | .slot i :: l, cs, cs', st0, hbp, hg, hr, he => by
    simp only [gather] at hg
    split at hg
    · rename_i c cs1 hc hg'
      cases hg
      obtain ⟨ys1, hy1⟩ := gather_vals h l cs1 hg'
      have hev : RdD w (XB st.objs ρ Xc) ρ (.s (.c c)) (a.eval (.tmp i)) := by have := h.ev (.tmp i); rwa [show ev st (.tmp i) = .s (.c c) from hc] at this
      have h1 : RdL w (XB st.objs ρ Xc) ρ [c] [a.eval (.tmp i)] := RdL.one hev
      simp only [scatter]
      refine scatter_env h l cs1 cs'.tail _ hbp hg' ?_ (he.set fun y hy => ?_)
      · have := Refines.right (l := [c]) (m := cs1) hr h1
        rwa [List.length_singleton, List.drop_one] at this
      · have := (Refines.left (l := [c]) (m := cs1) hr hy1).1 _ h1
        cases cs' with
        | nil => simp [RdL] at this
        | cons c' cs' =>
          have hh := this.2 0 c' _ rfl rfl
          rw [eval_tmp hy] at hh
          exact hh
    · cases hg
  | .aggs i n :: l, cs, cs', st0, hbp, hg, hr, he => by
    simp only [gather] at hg
    split at hg
    · rename_i c cs1 hc hg'
      split at hg
      · rename_i hn
        cases hg
        obtain ⟨ys1, hy1⟩ := gather_vals h l cs1 hg'
        have hev : RdD w (XB st.objs ρ Xc) ρ (.s (.agg c)) (a.eval (.tmp i)) := by have := h.ev (.tmp i); rwa [show ev st (.tmp i) = .s (.agg c) from hc] at this
        obtain ⟨vs, hvs, hl⟩ := hev
        simp only [scatter]
        subst hn
        refine scatter_env h l cs1 _ _ hbp hg' (Refines.right hr hl) (he.set fun y hy => ?_)
        rw [eval_tmp hy] at hvs
        exact ⟨vs, hvs, (Refines.left hr hy1).1 _ hl⟩
      · cases hg
    · cases hg
  | .box k n :: l, cs, cs', st0, hbp, hg, hr, he => by
    simp only [gather] at hg
    split at hg
    · rename_i c cs1 hc hg'
      split at hg
      · rename_i hn
        cases hg
        obtain ⟨v, _, g, zs, ty, _, _, _, hz⟩ := h.objs k _ hc
        simp only [scatter]
        subst hn
        exact scatter_env h l cs1 _ _ (fun p hp => hbp p (by simp only [boxPairs, List.mem_cons]; exact .inr hp)) hg' (Refines.right hr hz) he
      · cases hg
    · cases hg
  | .boxr i k n :: l, cs, cs', st0, hbp, hg, hr, he => by
    simp only [gather] at hg
    split at hg
    · rename_i key cs1 hc hg'
      split at hg
      · rename_i c ho
        split at hg
        · rename_i hn
          cases hg
          have hbp0 : boxPairs st (.boxr i k n :: l) = (key, k) :: boxPairs st l := by simp only [boxPairs, hc]
          rw [hbp0] at hbp
          obtain ⟨v, _, g, zs, ty, _, _, _, hz⟩ := h.objs key _ ho
          have hev : RdD w (XB st.objs ρ Xc) ρ (.s (.c (.box key 0))) (a.eval (.tmp i)) := by have := h.ev (.tmp i); rwa [show ev st (.tmp i) = .s (.c (.box key 0)) from hc] at this
          simp only [scatter]
          subst hn
          refine scatter_env h l cs1 _ _ (fun p hp => hbp p (by simp [hp])) hg' (Refines.right hr hz) (he.set fun y hy => ?_)
          rw [eval_tmp hy] at hev
          rcases hev with hev | ⟨⟨v', e1, e2⟩, h1⟩
          · cases hev
          · exact .inr ⟨⟨v', (hbp (key, k) (by simp)).trans e1, e2⟩, h1⟩
        · cases hg
      · cases hg
    · cases hg

theorem scatter_np : ∀ (items : List It) (cs' : List C) (st0 : St), (scatter items cs' st0).np = st0.np ∧ (scatter items cs' st0).env.length = st0.env.length ∧ (scatter items cs' st0).objs.length = st0.objs.length
  | [], _, _ => ⟨rfl, rfl, rfl⟩
  | .slot i :: l, cs', st0 => by obtain ⟨h1, h2, h3⟩ := scatter_np l cs'.tail { st0 with env := st0.env.set i (.s (.c (cs'.headD .top))) }; exact ⟨h1, h2.trans (List.length_set ..), h3⟩
  | .aggs i n :: l, cs', st0 => by obtain ⟨h1, h2, h3⟩ := scatter_np l (cs'.drop n) { st0 with env := st0.env.set i (.s (.agg (cs'.take n))) }; exact ⟨h1, h2.trans (List.length_set ..), h3⟩
  | .box k n :: l, cs', st0 => by obtain ⟨h1, h2, h3⟩ := scatter_np l (cs'.drop n) { st0 with objs := st0.objs.set k (.box (cs'.take n)) }; exact ⟨h1, h2, h3.trans (List.length_set ..)⟩
  | .boxr i k n :: l, cs', st0 => by obtain ⟨h1, h2, h3⟩ := scatter_np l (cs'.drop n) { st0 with env := st0.env.set i (.s (.c (.box k 0))), objs := st0.objs.set k (.box (cs'.take n)) }; exact ⟨h1, h2.trans (List.length_set ..), h3.trans (List.length_set ..)⟩

theorem scatter_objs (h : Rel w0 F Xc ρ0 ρ st a w) : ∀ (items : List It) (cs cs' : List C) (st0 : St), gather st items = some cs → Refines w (XB st.objs ρ Xc) ρ X'' ρ'' cs cs' → (boxKeys items).Nodup → (∀ k ∈ boxKeys items, k < st0.objs.length) →
    ∀ k, (k ∉ boxKeys items → (scatter items cs' st0).objs[k]? = st0.objs[k]?) ∧
      (k ∈ boxKeys items → ∃ q l l', (q, k) ∈ boxPairs st items ∧ st.objs[q]? = some (.box l) ∧ (scatter items cs' st0).objs[k]? = some (.box l') ∧ Refines w (XB st.objs ρ Xc) ρ X'' ρ'' l l')
  | [], _, _, _, _, _, _, _, k => ⟨fun _ => rfl, fun hk => by simp [boxKeys] at hk⟩
  | .slot i :: l, cs, cs', st0, hg, hr, hn, hb, k => by
    simp only [gather] at hg
    split at hg
    · rename_i c cs1 hc hg'
      cases hg
      have hev : RdD w (XB st.objs ρ Xc) ρ (.s (.c c)) (a.eval (.tmp i)) := by have := h.ev (.tmp i); rwa [show ev st (.tmp i) = .s (.c c) from hc] at this
      have h1 : RdL w (XB st.objs ρ Xc) ρ [c] [a.eval (.tmp i)] := RdL.one hev
      have hr' := Refines.right (l := [c]) (m := cs1) hr h1
      rw [List.length_singleton, List.drop_one] at hr'
      exact scatter_objs h l cs1 _ { st0 with env := st0.env.set i (.s (.c (cs'.headD .top))) } hg' hr' hn hb k
    · cases hg
  | .aggs i n :: l, cs, cs', st0, hg, hr, hn, hb, k => by
    simp only [gather] at hg
    split at hg
    · rename_i c cs1 hc hg'
      split at hg
      · rename_i hnn
        cases hg
        have hev : RdD w (XB st.objs ρ Xc) ρ (.s (.agg c)) (a.eval (.tmp i)) := by have := h.ev (.tmp i); rwa [show ev st (.tmp i) = .s (.agg c) from hc] at this
        obtain ⟨vs, hvs, hl⟩ := hev
        subst hnn
        exact scatter_objs h l cs1 _ { st0 with env := st0.env.set i (.s (.agg (cs'.take c.length))) } hg' (Refines.right hr hl) hn hb k
      · cases hg
    · cases hg
  | .box q n :: l, cs, cs', st0, hg, hr, hn, hb, k => by
    simp only [gather] at hg
    split at hg
    · rename_i c cs1 hc hg'
      split at hg
      · rename_i hnn
        cases hg
        obtain ⟨v, _, g, zs, ty, _, _, _, hz⟩ := h.objs q _ hc
        subst hnn
        simp only [boxKeys] at hn hb
        obtain ⟨hq, hn'⟩ := List.nodup_cons.1 hn
        obtain ⟨e1, e2⟩ := scatter_objs h l cs1 _ { st0 with objs := st0.objs.set q (.box (cs'.take c.length)) } hg' (Refines.right hr hz) hn' (fun k hk => by simpa using hb k (by simp [hk])) k
        obtain ⟨ys1, hy1⟩ := gather_vals h l cs1 hg'
        simp only [scatter, boxKeys, List.mem_cons, not_or]
        refine ⟨fun hk => ?_, fun hk => ?_⟩
        · rw [e1 hk.2, List.getElem?_set_ne (fun e => hk.1 e.symm)]
        · by_cases hkl : k ∈ boxKeys l
          · obtain ⟨q', l1, l2, r1, r2, r3, r4⟩ := e2 hkl
            exact ⟨q', l1, l2, by simp only [boxPairs, List.mem_cons]; exact .inr r1, r2, r3, r4⟩
          · have hkq : k = q := hk.resolve_right hkl
            subst hkq
            refine ⟨k, c, cs'.take c.length, by simp [boxPairs], hc, ?_, Refines.left hr hy1⟩
            rw [e1 hkl, List.getElem?_set_self (hb k (by simp))]
      · cases hg
    · cases hg
  | .boxr i q n :: l, cs, cs', st0, hg, hr, hn, hb, k => by
    simp only [gather] at hg
    split at hg
    · rename_i key cs1 hc hg'
      split at hg
      · rename_i c ho
        split at hg
        · rename_i hnn
          cases hg
          have hbp0 : boxPairs st (.boxr i q n :: l) = (key, q) :: boxPairs st l := by simp only [boxPairs, hc]
          obtain ⟨v, _, g, zs, ty, _, _, _, hz⟩ := h.objs key _ ho
          subst hnn
          simp only [boxKeys] at hn hb
          obtain ⟨hq, hn'⟩ := List.nodup_cons.1 hn
          obtain ⟨e1, e2⟩ := scatter_objs h l cs1 _ { st0 with env := st0.env.set i (.s (.c (.box q 0))), objs := st0.objs.set q (.box (cs'.take c.length)) } hg' (Refines.right hr hz) hn' (fun k hk => by simpa using hb k (by simp [hk])) k
          obtain ⟨ys1, hy1⟩ := gather_vals h l cs1 hg'
          simp only [scatter, boxKeys, List.mem_cons, not_or]
          refine ⟨fun hk => ?_, fun hk => ?_⟩
          · rw [e1 hk.2, List.getElem?_set_ne (fun e => hk.1 e.symm)]
          · by_cases hkl : k ∈ boxKeys l
            · obtain ⟨q', l1, l2, r1, r2, r3, r4⟩ := e2 hkl
              exact ⟨q', l1, l2, by rw [hbp0]; simp [r1], r2, r3, r4⟩
            · have hkq : k = q := hk.resolve_right hkl
              subst hkq
              refine ⟨key, c, cs'.take c.length, by rw [hbp0]; simp, ho, ?_, Refines.left hr hy1⟩
              rw [e1 hkl, List.getElem?_set_self (hb k (by simp))]
        · cases hg
      · cases hg
    · cases hg

theorem setRows_other : ∀ (l : List (Nat × O)) (objs : List O) (k : Nat), k ∉ l.map (·.1) → (setRows objs l)[k]? = objs[k]?
  | [], _, _, _ => rfl
  | p :: l, objs, k, h => by
    simp only [setRows]
    rw [setRows_other l _ k (fun hm => h (by simp at hm ⊢; exact .inr hm)), List.getElem?_set_ne (fun e => h (by simp [e]))]
theorem setRows_at : ∀ (l : List (Nat × O)) (objs : List O) (i k : Nat) (o : O), (l.map (·.1)).Nodup → l[i]? = some (k, o) → k < objs.length → (setRows objs l)[k]? = some o
  | [], _, i, k, o, _, h, _ => by simp at h
  | p :: l, objs, i, k, o, hn, h, hk => by
    simp only [setRows]
    simp only [List.map_cons] at hn
    obtain ⟨hp, hn'⟩ := List.nodup_cons.1 hn
    cases i with
    | zero =>
      simp at h
      subst h
      rw [setRows_other l _ k hp, List.getElem?_set_self hk]
    | succ i => exact setRows_at l _ i k o hn' (by simpa using h) (by simpa using hk)
theorem setRows_len : ∀ (l : List (Nat × O)) (objs : List O), (setRows objs l).length = objs.length
  | [], _ => rfl
  | p :: l, objs => by simp only [setRows]; rw [setRows_len l]; simp

theorem blank_env (np n m : Nat) (a : Act) : EnvOK w X'' ρ'' a (blank np n m).env := fun i d y h1 _ => by
  simp only [blank, List.getElem?_replicate] at h1
  split at h1
  · cases h1; exact .top_ y
  · cases h1
theorem blank_objs {np n m k : Nat} (hm : np ≤ m) : (blank np n m).objs[k]? = if k < np then some .dead else if k < m then some .fresh else none := by
  simp only [blank, List.getElem?_append, List.getElem?_replicate, List.length_replicate]
  by_cases h1 : k < np
  · simp [h1]
  · by_cases h2 : k < m
    · simp [h1, h2]; omega
    · simp [h1, h2]; omega

theorem rowsOf_keys : ∀ (l : List Sh) (t : Tup l), (rowsOf l t).map (·.1) = rowKeys l
  | [], _ => rfl
  | .int _ :: l, t => rowsOf_keys l t.2
  | .bool :: l, t => rowsOf_keys l t.2
  | .str :: l, t => rowsOf_keys l t.2
  | .sl _ :: l, t => rowsOf_keys l t.2
  | .row _ _ _ :: l, t => by simp [rowsOf, rowKeys, rowsOf_keys l t.2]
  | .rr _ _ _ _ :: l, t => by simp [rowsOf, rowKeys, rowsOf_keys l t.2]
  | .tree :: l, t => rowsOf_keys l t.2
  | .lit _ :: l, t => rowsOf_keys l t.2

theorem gather_box : ∀ (items : List It) (cs : List C), gather st items = some cs → ∀ p ∈ boxPairs st items, ∃ l, st.objs[p.1]? = some (.box l)
  | [], _, _, p, hk => by simp [boxPairs] at hk
  | .slot i :: l, cs, hg, p, hk => by
    simp only [gather] at hg
    split at hg
    · rename_i hg'; exact gather_box l _ hg' p hk
    · cases hg
  | .aggs i n :: l, cs, hg, p, hk => by
    simp only [gather] at hg
    split at hg
    · rename_i hg'; exact gather_box l _ hg' p hk
    · cases hg
  | .box q n :: l, cs, hg, p, hk => by
    simp only [gather] at hg
    split at hg
    · rename_i c cs1 hc hg'
      simp only [boxPairs, List.mem_cons] at hk
      rcases hk with rfl | hk
      · exact ⟨c, hc⟩
      · exact gather_box l _ hg' p hk
    · cases hg
  | .boxr i q n :: l, cs, hg, p, hk => by
    simp only [gather] at hg
    split at hg
    · rename_i key cs1 hc hg'
      split at hg
      · rename_i c ho
        simp only [boxPairs, hc, List.mem_cons] at hk
        rcases hk with rfl | hk
        · exact ⟨c, ho⟩
        · exact gather_box l _ hg' p hk
      · cases hg
    · cases hg
theorem boxPairs_keys : ∀ (items : List It) (cs : List C), gather st items = some cs → (boxPairs st items).map (·.2) = boxKeys items
  | [], _, _ => rfl
  | .slot i :: l, cs, hg => by
    simp only [gather] at hg
    split at hg
    · rename_i hg'; exact boxPairs_keys l _ hg'
    · cases hg
  | .aggs i n :: l, cs, hg => by
    simp only [gather] at hg
    split at hg
    · rename_i hg'; exact boxPairs_keys l _ hg'
    · cases hg
  | .box q n :: l, cs, hg => by
    simp only [gather] at hg
    split at hg
    · rename_i c cs1 hc hg'
      simp only [boxPairs, boxKeys, List.map_cons, boxPairs_keys l _ hg']
    · cases hg
  | .boxr i q n :: l, cs, hg => by
    simp only [gather] at hg
    split at hg
    · rename_i key cs1 hc hg'
      simp only [boxPairs, hc, boxKeys, List.map_cons, boxPairs_keys l _ hg']
    · cases hg
theorem scatter_keep : ∀ (items : List It) (cs' : List C) (st0 : St) (k : Nat), k ∉ boxKeys items → (scatter items cs' st0).objs[k]? = st0.objs[k]?
  | [], _, _, _, _ => rfl
  | .slot i :: l, cs', st0, k, hk => scatter_keep l _ { st0 with env := st0.env.set i (.s (.c (cs'.headD .top))) } k hk
  | .aggs i n :: l, cs', st0, k, hk => scatter_keep l _ { st0 with env := st0.env.set i (.s (.agg (cs'.take n))) } k hk
  | .box q n :: l, cs', st0, k, hk => by
    simp only [boxKeys, List.mem_cons, not_or] at hk
    simp only [scatter]
    rw [scatter_keep l _ _ k hk.2, List.getElem?_set_ne (fun e => hk.1 e.symm)]
  | .boxr i q n :: l, cs', st0, k, hk => by
    simp only [boxKeys, List.mem_cons, not_or] at hk
    simp only [scatter]
    rw [scatter_keep l _ _ k hk.2, List.getElem?_set_ne (fun e => hk.1 e.symm)]
theorem filterMap_inj {rs : List (Option Nat)} (h : (rs.filterMap id).Nodup) {i j k : Nat} (h1 : rs[i]? = some (some k)) (h2 : rs[j]? = some (some k)) : i = j := by
  induction rs generalizing i j with
  | nil => simp at h1
  | cons s rs ih =>
    have key : ∀ q, rs[q]? = some (some k) → s = some k → False := fun q hq e => by
      subst e
      simp only [List.filterMap_cons, id_eq] at h
      have := (List.nodup_cons.1 h).1
      exact this (List.mem_filterMap.2 ⟨some k, List.mem_of_getElem? hq, rfl⟩)
    have hnd : (rs.filterMap id).Nodup := by
      cases s with
      | none => simpa using h
      | some v => simp only [List.filterMap_cons, id_eq] at h; exact (List.nodup_cons.1 h).2
    cases i with
    | zero =>
      cases j with
      | zero => rfl
      | succ j => simp at h1 h2; exact (key j h2 h1).elim
    | succ i =>
      cases j with
      | zero => simp at h1 h2; exact (key i h1 h2).elim
      | succ j => simp at h1 h2; rw [ih hnd h1 h2]

def pairAt : List (Nat × Nat) → Nat → Option Nat
  | [], _ => none
  | p :: l, k => if p.2 = k then some p.1 else pairAt l k
theorem pairAt_mem : ∀ {l : List (Nat × Nat)} {p : Nat × Nat}, (l.map (·.2)).Nodup → p ∈ l → pairAt l p.2 = some p.1
  | [], p, _, h => by cases h
  | q :: l, p, hn, h => by
    simp only [List.map_cons] at hn
    obtain ⟨h1, h2⟩ := List.nodup_cons.1 hn
    unfold pairAt
    rcases List.mem_cons.1 h with rfl | h
    · rw [if_pos rfl]
    · have hne : ¬ q.2 = p.2 := fun e => h1 (e ▸ List.mem_map.2 ⟨p, h, rfl⟩)
      rw [if_neg hne, pairAt_mem h2 h]
theorem pairAt_none : ∀ {l : List (Nat × Nat)} {k : Nat}, k ∉ l.map (·.2) → pairAt l k = none
  | [], _, _ => rfl
  | q :: l, k, h => by
    simp only [List.map_cons, List.mem_cons, not_or] at h
    unfold pairAt
    rw [if_neg (fun e => h.1 e.symm), pairAt_none h.2]
theorem pair_inj : ∀ {l : List (Nat × Nat)} {q k k' : Nat}, (l.map (·.1)).Nodup → (q, k) ∈ l → (q, k') ∈ l → k = k'
  | [], _, _, _, _, h, _ => by cases h
  | p :: l, q, k, k', hn, h, h' => by
    simp only [List.map_cons] at hn
    obtain ⟨h1, h2⟩ := List.nodup_cons.1 hn
    rcases List.mem_cons.1 h with e | h <;> rcases List.mem_cons.1 h' with e' | h'
    · rw [← e] at e'; cases e'; rfl
    · rw [← e] at h1; exact (h1 (List.mem_map.2 ⟨_, h', rfl⟩)).elim
    · rw [← e'] at h1; exact (h1 (List.mem_map.2 ⟨_, h, rfl⟩)).elim
    · exact pair_inj h2 h h'
theorem keepOk_get {np : Nat} : ∀ {ks : List Nat} {ss : List (Option Nat)} {i k : Nat} {s : Option Nat}, keepOk np ks ss = true → ks[i]? = some k → ss[i]? = some s → np ≤ k ∨ s = some k
  | [], _, i, k, s, _, h, _ => by simp at h
  | k' :: ks, [], i, k, s, _, _, h => by simp at h
  | k' :: ks, s' :: ss, i, k, s, hk, h1, h2 => by
    simp only [keepOk, Bool.and_eq_true, Bool.or_eq_true, decide_eq_true_eq, beq_iff_eq] at hk
    cases i with
    | zero => simp at h1 h2; subst h1; subst h2; exact hk.1
    | succ i => exact keepOk_get hk.2 (by simpa using h1) (by simpa using h2)

/-- A packed state, unpacked, is one of the same frame and world. -/
theorem packK_ok' {h : Hint} {f : Tup h.shapes → Option R} (hex : ρ0.ex = []) (hR : Rel w0 F Xc ρ0 ρ st a w) (hf : packK h st f = some r) :
    ∃ t, f t = some r ∧ (∀ k ∈ boxKeys h.items ++ rowKeys h.shapes, k < st.objs.length) ∧ ∃ ρ'', (∀ k, st.objs.length ≤ k → ρ'' k = none) ∧ Rel w0 F Xc ρ0 ρ'' (unpack h st.np st.env.length st.objs.length t) a w := by
  unfold packK at hf
  split at hf
  case h_2 => cases hf
  rename_i cs hg
  dsimp only at hf
  obtain ⟨t, rs, zs, hf1, hlen, hrows, hzs, hpairs, hturn⟩ := getL_ok hR h.shapes cs _ hf
  split at hf1
  case isFalse => cases hf1
  rename_i hc
  simp only [Bool.and_eq_true, decide_eq_true_eq] at hc
  obtain ⟨⟨⟨⟨⟨⟨hok, hkeep⟩, hbk⟩, hbn⟩, hnd⟩, hz⟩, hnpm⟩ := hc
  unfold Hint.ok at hok
  simp only [Bool.and_eq_true, decide_eq_true_eq, List.all_eq_true] at hok
  obtain ⟨hk1, hk3⟩ := hok
  have hbpk := boxPairs_keys h.items cs hg
  have hbd : ((boxPairs st h.items).map (·.2)).Nodup := by rw [hbpk]; exact (List.nodup_append.1 hk3).1
  obtain ⟨hb3, hr3, hdis⟩ := List.nodup_append.1 hk3
  refine ⟨t, hf1, hk1, ?_⟩
  -- the handles
  let ρ'' : Rho := fun k => match pairAt (boxPairs st h.items) k with
    | some q => ρ q
    | none => match srcOf (rowKeys h.shapes) rs k with
      | some s => hOf ρ s
      | none => if k < st.np then ρ k else none
  let objs'' : List O := (unpack h st.np st.env.length st.objs.length t).objs
  have hρbox : ∀ p ∈ boxPairs st h.items, ρ'' p.2 = ρ p.1 := fun p hp => by simp only [ρ'', pairAt_mem hbd hp]
  have hpn : ∀ k, k ∉ boxKeys h.items → pairAt (boxPairs st h.items) k = none := fun k hk => pairAt_none (by rw [hbpk]; exact hk)
  have hsrc : ∀ k ∈ boxKeys h.items, ∃ q, (q, k) ∈ boxPairs st h.items := fun k hk => by
    rw [← hbpk] at hk
    obtain ⟨p, hp, rfl⟩ := List.mem_map.1 hk
    exact ⟨p.1, hp⟩
  have hnotbox : ∀ k, k ∈ rowKeys h.shapes → k ∉ boxKeys h.items := fun k hk hb => hdis k hb k hk rfl
  have hρrow : ∀ (i : Nat) k s, (rowKeys h.shapes)[i]? = some k → rs[i]? = some s → ρ'' k = hOf ρ s := fun i k s h1 h2 => by
    simp only [ρ'', hpn k (hnotbox k (List.mem_of_getElem? h1)), srcOf_get _ _ i k s hr3 h1 h2]
  have hsrcnone : ∀ k, k ∉ rowKeys h.shapes → srcOf (rowKeys h.shapes) rs k = none := fun k hk => by
    cases hs : srcOf (rowKeys h.shapes) rs k with
    | none => rfl
    | some s => obtain ⟨i, h1, _⟩ := srcOf_some _ _ _ _ hs; exact (hk (List.mem_of_getElem? h1)).elim
  -- the objects
  have hlenO : (scatter h.items (putL h.shapes t) (blank st.np st.env.length st.objs.length)).objs.length = st.objs.length := by
    rw [(scatter_np _ _ _).2.2]; simp [blank]; omega
  have hnprow : ∀ (i : Nat) k o, (rowsOf h.shapes t)[i]? = some (k, o) → objs''[k]? = some o := fun i k o hi => by
    refine setRows_at _ _ i k o (by rw [rowsOf_keys]; exact hr3) hi ?_
    rw [hlenO]
    exact hk1 k (List.mem_append.2 (.inr (List.mem_of_getElem? (hrows i k o hi).1)))
  have hother : ∀ k, k ∉ boxKeys h.items → k ∉ rowKeys h.shapes → objs''[k]? = (blank st.np st.env.length st.objs.length).objs[k]? := fun k hb hr => by
    show (setRows _ _)[k]? = _
    rw [setRows_other _ _ k (by rw [rowsOf_keys]; exact hr), scatter_keep h.items _ _ k hb]
  have hrowi : ∀ k, k ∈ rowKeys h.shapes → ∃ (i : Nat) (o : O) (sr : Option Nat), (rowKeys h.shapes)[i]? = some k ∧ objs''[k]? = some o ∧ rs[i]? = some sr ∧ o.rowf = true ∧ (∀ k', sr = some k' → st.objs[k']? = some o) ∧ (sr = none → ∃ e n, o = .row false e n [] ∧ (0 < n ∧ n < 1000000000)) := fun k hk => by
    rw [← rowsOf_keys h.shapes t] at hk
    obtain ⟨p, hp, rfl⟩ := List.mem_map.1 hk
    obtain ⟨i, hi, he⟩ := List.getElem_of_mem hp
    have hget : (rowsOf h.shapes t)[i]? = some (p.1, p.2) := by rw [List.getElem?_eq_getElem hi, he]
    obtain ⟨h1, sr, h2, h3⟩ := hrows i p.1 p.2 hget
    exact ⟨i, p.2, sr, h1, hnprow i p.1 p.2 hget, h2, h3⟩
  have hHas : ∀ k b, Has objs'' ρ'' k b → (∃ q, (q, k) ∈ boxPairs st h.items ∧ Has st.objs ρ q b) ∨ ∃ i k', (rowKeys h.shapes)[i]? = some k ∧ rs[i]? = some (some k') ∧ Has st.objs ρ k' b ∧ ∃ o, st.objs[k']? = some o ∧ o.rowf = true := fun k b hh => by
    obtain ⟨o, v, h1, h2, h3, h4⟩ := hh
    by_cases hb : k ∈ boxKeys h.items
    · obtain ⟨q, hq⟩ := hsrc k hb
      obtain ⟨l, hl⟩ := gather_box h.items cs hg _ hq
      exact .inl ⟨q, hq, _, v, hl, rfl, (hρbox _ hq) ▸ h3, h4⟩
    · by_cases hr : k ∈ rowKeys h.shapes
      · obtain ⟨i, o', sr, q1, q2, q3, q4, q5, q6⟩ := hrowi k hr
        rw [hρrow i k sr q1 q3] at h3
        cases sr with
        | none => simp only [hOf, Option.some.injEq] at h3; subst h3; have h5 := h4.one rfl; simp [nilV, blk] at h5
        | some k' =>
          refine .inr ⟨i, k', q1, q3, ⟨o', v, q5 k' rfl, O.rowf_live q4, h3, h4⟩, o', q5 k' rfl, q4⟩
      · rw [hother k hb hr, blank_objs hnpm] at h1
        split at h1
        · cases h1; cases h2
        · split at h1
          · cases h1; cases h2
          · cases h1
  have hXX : ∀ b, XB objs'' ρ'' Xc b → XB st.objs ρ Xc b := fun b hb => by
    rcases hb with ⟨k, hk⟩ | hb
    · rcases hHas k b hk with ⟨q, _, hh⟩ | ⟨i, k', _, _, hh, _⟩
      · exact .inl ⟨q, hh⟩
      · exact .inl ⟨k', hh⟩
    · exact .inr hb
  have hT : Turn ρ ρ'' (XB st.objs ρ Xc) (XB objs'' ρ'' Xc) st.objs (rowKeys h.shapes) rs zs (boxPairs st h.items ++ rowPairs h.shapes cs) := by
    refine ⟨hXX, hlen.symm, hρrow, fun z hzm v b hv hb hx => ?_, fun p hp v hv => ?_⟩
    · obtain ⟨oz, hzo, hzy⟩ := hzs z hzm
      have hzr : some z ∉ rs := fun hm => by
        have := List.all_eq_true.1 hz z hzm
        simp [hm] at this
      cases hzf : oz.frozen with
      | true =>
        have hko := hR.objs z _ hzo
        cases oz with
        | row fz e n l =>
          obtain ⟨v', e1, e2⟩ := hko
          rw [hv] at e1
          cases e1
          exact e2.frozen hzf b (hb.one (row_one e2)) (hXX b hx)
        | mp fz e n l =>
          obtain ⟨v', e1, e2⟩ := hko
          rw [hv] at e1
          cases e1
          exact e2.frozen hzf b (hb.one (mp_one e2)) (hXX b hx)
        | box l => cases hzy
        | fbox l => cases hzy
        | rr hole e e2 n l => cases hzf
        | fwd l => cases hzy
        | dead => cases hzy
        | fresh => cases hzy
      | false =>
        have hHz : Has st.objs ρ z b := ⟨_, v, hzo, O.giv_live hzy hzf, hv, hb⟩
        rcases hx with ⟨k, hk⟩ | hx
        · rcases hHas k b hk with ⟨q, hkb, hh⟩ | ⟨i, k', _, q, hh, _⟩
          · have := hR.sep q z b hh hHz
            subst this
            obtain ⟨l', hl'⟩ := gather_box h.items cs hg _ hkb
            rw [hzo] at hl'; cases hl'; cases hzy
          · have := hR.sep k' z b hh hHz
            subst this
            exact hzr (List.mem_of_getElem? q)
        · exact hR.xc b hHz.mut hx
    · rcases List.mem_append.1 hp with hp | hp
      · rw [hρbox p hp]; exact hv
      · obtain ⟨i, e1, e2⟩ := hpairs p hp
        rw [hρrow i _ _ e1 e2]; exact hv
  have hRef : Refines w (XB st.objs ρ Xc) ρ (XB objs'' ρ'' Xc) ρ'' cs (putL h.shapes t) := ⟨hturn ρ'' _ hT, getL_self h.shapes cs hf t⟩
  have hnpE := scatter_np h.items (putL h.shapes t) (blank st.np st.env.length st.objs.length)
  have hbm : ∀ k ∈ boxKeys h.items, k < (blank st.np st.env.length st.objs.length).objs.length := fun k hk => by
    have := hk1 k (List.mem_append.2 (.inl hk))
    simp [blank]; omega
  refine ⟨ρ'', fun k hk => ?_, by rw [show (unpack h st.np st.env.length st.objs.length t).env.length = st.env.length by rw [show (unpack h st.np st.env.length st.objs.length t).env.length = _ from hnpE.2.1]; simp [blank]]; exact hR.len,
    scatter_env hR h.items cs _ _ hρbox hg hRef (blank_env _ _ _ _), fun k o ho => ?_, fun k k' b hk hk' => ?_, fun b hb => ?_, fun k hk => ?_, hR.defers, hR.frame, hR.xcl, fun b hb => ?_, fun p hp => by rw [hex] at hp; simp at hp⟩
  · have hb : k ∉ boxKeys h.items := fun hb => by have := hk1 k (List.mem_append.2 (.inl hb)); omega
    have hr : k ∉ rowKeys h.shapes := fun hr => by have := hk1 k (List.mem_append.2 (.inr hr)); omega
    show ρ'' k = none
    simp only [ρ'', hpn k hb, hsrcnone k hr]
    rw [if_neg (by omega)]
  · -- the objects
    have ho' : objs''[k]? = some o := ho
    by_cases hb : k ∈ boxKeys h.items
    · obtain ⟨q, l, l', q0, q1, q2, q3⟩ := (scatter_objs hR h.items cs _ _ hg hRef hb3 hbm k).2 hb
      have : objs''[k]? = some (.box l') := by
        show (setRows _ _)[k]? = _
        rw [setRows_other _ _ k (by rw [rowsOf_keys]; exact fun hr => hnotbox k hr hb)]
        exact q2
      rw [this] at ho'
      cases ho'
      obtain ⟨v, e1, g, ys, ty, e2, e3, e0, e4⟩ := hR.objs q _ q1
      exact ⟨v, (hρbox _ q0).trans e1, g, ys, ty, e2, e3, q3.2.head e0, q3.1 _ e4⟩
    · by_cases hr : k ∈ rowKeys h.shapes
      · obtain ⟨i, o', sr, q1, q2, q3, q4, q5, q6⟩ := hrowi k hr
        rw [q2] at ho'
        cases ho'
        have hρk := hρrow i k sr q1 q3
        cases sr with
        | none =>
          obtain ⟨e, n, rfl, hn⟩ := q6 rfl
          exact ⟨nilV, hρk, hn, .nil n, ⟨[], rowAt.nil w e n, ⟨rfl, fun i t y h1 _ => by simp [flat] at h1⟩⟩, fun hc => by cases hc⟩
        | some k' =>
          have hk' := q5 k' rfl
          have hko := hR.objs k' _ hk'
          cases o with
          | row fz e n l =>
            obtain ⟨v, e1, e2⟩ := hko
            have e3 := e2.step (X' := XB objs'' ρ'' Xc) (.refl (fun _ => False) w) (fun _ hb => False.elim hb) (fun b hb => .inl (hXX b hb)) (.refl ρ) (fun _ _ h => h)
            exact ⟨v, hρk.trans e1, e3⟩
          | mp fz e n l =>
            obtain ⟨v, e1, e2⟩ := hko
            have e3 := e2.step (X' := XB objs'' ρ'' Xc) (.refl (fun _ => False) w) (fun _ hb => False.elim hb) (fun b hb => .inl (hXX b hb)) (.refl ρ) (fun _ _ h => h)
            exact ⟨v, hρk.trans e1, e3⟩
          | rr hole e e2' n l =>
            obtain ⟨v, e1, e2⟩ := hko
            have e3 := okR.step (X' := XB objs'' ρ'' Xc) e2 (.refl (fun _ => False) w) (fun _ hb => False.elim hb) (fun b hb => .inl (hXX b hb)) (fun _ _ h => h)
            exact ⟨v, hρk.trans e1, e3⟩
          | fwd l => cases q4
          | box l => cases q4
          | fbox l => cases q4
          | dead => cases q4
          | fresh => cases q4
      · rw [hother k hb hr, blank_objs hnpm] at ho'
        split at ho'
        · cases ho'; trivial
        · split at ho'
          · cases ho'
            show ρ'' k = none
            simp only [ρ'', hpn k hb, hsrcnone k hr]
            rw [if_neg (by assumption)]
          · cases ho'
  · -- apart
    rcases hHas k b hk with ⟨p, hkb, hh⟩ | ⟨i, q, q1, q2, hh, oq, hq, hqf⟩ <;> rcases hHas k' b hk' with ⟨p', hkb', hh'⟩ | ⟨i', q', q1', q2', hh', oq', hq', hqf'⟩
    · have := hR.sep p p' b hh hh'
      subst this
      exact pair_inj hbn hkb hkb'
    · have := hR.sep p q' b hh hh'
      subst this
      obtain ⟨l'', hl''⟩ := gather_box h.items cs hg _ hkb
      rw [hq'] at hl''; cases hl''; cases hqf'
    · have := hR.sep q p' b hh hh'
      subst this
      obtain ⟨l'', hl''⟩ := gather_box h.items cs hg _ hkb'
      rw [hq] at hl''; cases hl''; cases hqf
    · have := hR.sep q q' b hh hh'
      subst this
      have := filterMap_inj hnd q2 q2'
      subst this
      rw [q1] at q1'
      cases q1'
      rfl
  · obtain ⟨k, hk⟩ := hb
    rcases hHas k b hk with ⟨_, _, hh⟩ | ⟨_, k', _, _, hh, _⟩
    · exact hR.own b hh.mut
    · exact hR.own b hh.mut
  · have hk' : k < st.np := by rw [← show (unpack h st.np st.env.length st.objs.length t).np = st.np from hnpE.1]; exact hk
    rw [← hR.par k hk']
    by_cases hb : k ∈ boxKeys h.items
    · obtain ⟨q, hq⟩ := hsrc k hb
      have := List.all_eq_true.1 hbk _ hq
      simp only [Bool.or_eq_true, beq_iff_eq, decide_eq_true_eq] at this
      rcases this with this | this
      · have e := hρbox _ hq
        rw [← this]
        rw [← this] at e
        exact e
      · omega
    · by_cases hr : k ∈ rowKeys h.shapes
      · obtain ⟨i, _, sr, q1, _, q3, _⟩ := hrowi k hr
        have := keepOk_get hkeep q1 q3
        rcases this with this | this
        · omega
        · subst this
          exact hρrow i k _ q1 q3
      · show ρ'' k = ρ k
        simp only [ρ'', hpn k hb, hsrcnone k hr, if_pos hk']
  · obtain ⟨k, hk⟩ := hb
    rcases hHas k b hk with ⟨_, _, hh⟩ | ⟨_, k', _, _, hh, _⟩
    · exact hR.xc b hh.mut
    · exact hR.xc b hh.mut
theorem packK_ok {h : Hint} {f : Tup h.shapes → Option R} (hex : ρ0.ex = []) (hR : Rel w0 F Xc ρ0 ρ st a w) (hf : packK h st f = some r) :
    ∃ t, f t = some r ∧ ∃ ρ'', Rel w0 F Xc ρ0 ρ'' (unpack h st.np st.env.length st.objs.length t) a w := by
  obtain ⟨t, h1, _, ρ'', _, h2⟩ := packK_ok' hex hR hf
  exact ⟨t, h1, ρ'', h2⟩

/-! More slots and objects. -/
def slotsOf : List It → List Nat
  | [] => []
  | .slot i :: l => i :: slotsOf l
  | .aggs i _ :: l => i :: slotsOf l
  | .box _ _ :: l => slotsOf l
  | .boxr i _ _ :: l => i :: slotsOf l
theorem set_same {α : Type} {l l' : List α} {n j : Nat} {d : α} (hl : n ≤ l.length) (hl' : n ≤ l'.length) (h : ∀ i, i < n → l[i]? = l'[i]?) : ∀ i, i < n → (l.set j d)[i]? = (l'.set j d)[i]? := fun i hi => by
  rw [List.getElem?_set, List.getElem?_set]
  by_cases hj : j = i
  · rw [if_pos hj, if_pos hj, if_pos (by omega), if_pos (by omega)]
  · rw [if_neg hj, if_neg hj, h i hi]
theorem scatter_same {n m : Nat} : ∀ (items : List It) (cs : List C) (s s' : St), n ≤ s.env.length → n ≤ s'.env.length → m ≤ s.objs.length → m ≤ s'.objs.length → (∀ i, i < n → s.env[i]? = s'.env[i]?) → (∀ i, i < m → s.objs[i]? = s'.objs[i]?) →
    (∀ i, i < n → (scatter items cs s).env[i]? = (scatter items cs s').env[i]?) ∧ ∀ i, i < m → (scatter items cs s).objs[i]? = (scatter items cs s').objs[i]?
  | [], _, s, s', _, _, _, _, h1, h2 => ⟨h1, h2⟩
  | .slot i :: l, cs, s, s', e1, e2, e3, e4, h1, h2 => scatter_same l _ { s with env := s.env.set i _ } { s' with env := s'.env.set i _ } (by simpa using e1) (by simpa using e2) e3 e4 (set_same e1 e2 h1) h2
  | .aggs i n :: l, cs, s, s', e1, e2, e3, e4, h1, h2 => scatter_same l _ { s with env := s.env.set i _ } { s' with env := s'.env.set i _ } (by simpa using e1) (by simpa using e2) e3 e4 (set_same e1 e2 h1) h2
  | .box k n :: l, cs, s, s', e1, e2, e3, e4, h1, h2 => scatter_same l _ { s with objs := s.objs.set k _ } { s' with objs := s'.objs.set k _ } e1 e2 (by simpa using e3) (by simpa using e4) h1 (set_same e3 e4 h2)
  | .boxr i k n :: l, cs, s, s', e1, e2, e3, e4, h1, h2 => scatter_same l _ { s with env := s.env.set i _, objs := s.objs.set k _ } { s' with env := s'.env.set i _, objs := s'.objs.set k _ } (by simpa using e1) (by simpa using e2) (by simpa using e3) (by simpa using e4) (set_same e1 e2 h1) (set_same e3 e4 h2)
theorem setRows_same {m : Nat} : ∀ (l : List (Nat × O)) (o o' : List O), m ≤ o.length → m ≤ o'.length → (∀ i, i < m → o[i]? = o'[i]?) → ∀ i, i < m → (setRows o l)[i]? = (setRows o' l)[i]?
  | [], _, _, _, _, h => h
  | p :: l, o, o', e1, e2, h => setRows_same l _ _ (by simpa using e1) (by simpa using e2) (set_same e1 e2 h)
theorem unpack_same {h : Hint} {np n n' m m' : Nat} {t : Tup h.shapes} (hn : n ≤ n') (hm : m ≤ m') (hnp : np ≤ m) :
    (∀ i, i < n → (unpack h np n m t).env[i]? = (unpack h np n' m' t).env[i]?) ∧ ∀ i, i < m → (unpack h np n m t).objs[i]? = (unpack h np n' m' t).objs[i]? := by
  have h1 : (blank np n m).env.length = n := by simp [blank]
  have h2 : (blank np n' m').env.length = n' := by simp [blank]
  have h3 : (blank np n m).objs.length = m := by simp [blank]; omega
  have h4 : (blank np n' m').objs.length = m' := by simp [blank]; omega
  obtain ⟨a1, a2⟩ := scatter_same (n := n) (m := m) h.items (putL h.shapes t) (blank np n m) (blank np n' m') (by omega) (by omega) (by omega) (by omega)
    (fun i hi => by simp only [blank, List.getElem?_replicate]; rw [if_pos hi, if_pos (by omega)])
    (fun i hi => by rw [blank_objs hnp, blank_objs (by omega)]; by_cases hk : i < np <;> simp [hk, hi]; omega)
  refine ⟨a1, setRows_same _ _ _ ?_ ?_ a2⟩
  · rw [(scatter_np _ _ _).2.2, h3]; exact Nat.le_refl _
  · rw [(scatter_np _ _ _).2.2, h4]; exact hm
theorem scatter_out : ∀ (items : List It) (cs : List C) (s : St) (i : Nat), i ∉ slotsOf items → (scatter items cs s).env[i]? = s.env[i]?
  | [], _, _, _, _ => rfl
  | .slot j :: l, cs, s, i, h => by
    simp only [slotsOf, List.mem_cons, not_or] at h
    simp only [scatter]
    rw [scatter_out l _ _ i h.2, List.getElem?_set_ne (fun e => h.1 e.symm)]
  | .aggs j n :: l, cs, s, i, h => by
    simp only [slotsOf, List.mem_cons, not_or] at h
    simp only [scatter]
    rw [scatter_out l _ _ i h.2, List.getElem?_set_ne (fun e => h.1 e.symm)]
  | .box k n :: l, cs, s, i, h => by
    simp only [slotsOf] at h
    simp only [scatter]
    rw [scatter_out l _ _ i h]
  | .boxr j k n :: l, cs, s, i, h => by
    simp only [slotsOf, List.mem_cons, not_or] at h
    simp only [scatter]
    rw [scatter_out l _ _ i h.2, List.getElem?_set_ne (fun e => h.1 e.symm)]
theorem unpack_len {h : Hint} {np n m : Nat} {t : Tup h.shapes} (hm : np ≤ m) : (unpack h np n m t).np = np ∧ (unpack h np n m t).env.length = n ∧ (unpack h np n m t).objs.length = m := by
  obtain ⟨h1, h2, h3⟩ := scatter_np h.items (putL h.shapes t) (blank np n m)
  refine ⟨h1, h2.trans (by simp [blank]), ?_⟩
  show (setRows _ _).length = _
  rw [setRows_len, h3]
  simp [blank]; omega

/-! What is packed does not depend on what follows. -/
theorem packK_nat {R : Type} {h : Hint} {st : St} (f : Tup h.shapes → Option R) : packK h st f = (packK h st some).bind f := by
  unfold packK
  split
  · dsimp only
    refine (getL_nat _ _ _).trans (Eq.trans ?_ (congrArg (fun z : Option (Tup h.shapes) => z.bind f) (getL_nat _ _ _)).symm)
    rw [Option.bind_assoc]
    refine congrArg _ (funext fun p => ?_)
    split <;> rfl
  · rfl
end
end Go.Eng

/- The engine, part Rm: cuts that become rows again. -/
namespace Go.Eng
open Go.RowKit

/-- A place of a cell. -/
inductive Pos where
  | slot (i : Nat)
  | agg (i j : Nat)
  | box (k j : Nat)
  | boxr (i j : Nat)
def posOf : It → List Pos
  | .slot i => [.slot i]
  | .aggs i n => (List.range n).map fun j => .agg i j
  | .box k n => (List.range n).map fun j => .box k j
  | .boxr i _ n => (List.range n).map fun j => .boxr i j
def St.at (st : St) : Pos → Option C
  | .slot i => match st.env[i]? with
    | some (.s (.c c)) => some c
    | _ => none
  | .agg i j => match st.env[i]? with
    | some (.s (.agg l)) => l[j]?
    | _ => none
  | .box k j => match st.objs[k]? with
    | some (.box l) => l[j]?
    | _ => none
  | .boxr i j => match st.env[i]? with
    | some (.s (.c (.box k 0))) => match st.objs[k]? with
      | some (.box l) => l[j]?
      | _ => none
    | _ => none
def St.wr (st : St) (c : C) : Pos → St
  | .slot i => { st with env := st.env.set i (.s (.c c)) }
  | .agg i j => match st.env[i]? with
    | some (.s (.agg l)) => { st with env := st.env.set i (.s (.agg (l.set j c))) }
    | _ => st
  | .box k j => match st.objs[k]? with
    | some (.box l) => { st with objs := st.objs.set k (.box (l.set j c)) }
    | _ => st
  | .boxr i j => match st.env[i]? with
    | some (.s (.c (.box k 0))) => match st.objs[k]? with
      | some (.box l) => { st with objs := st.objs.set k (.box (l.set j c)) }
      | _ => st
    | _ => st
/-- A cut that a hint wants as a row becomes one: the old row is given up. -/
def matP (st : St) (p : Pos) (s : Sh) : St := match s with
  | .row e n _ => match st.at p with
    | some (.cut key m lo len _) => match st.objs[key]? with
      | some (.row false e' n' es) => if e' = e ∧ n' = n ∧ m = n then match freshI st with
        | some K => St.wr { st with objs := (st.objs.set key .dead).set K (.row false e n (cutN es lo len)) } (.row K) p
        | none => st
        else st
      | _ => st
    | _ => st
  | _ => st
def matL (st : St) : List Pos → List Sh → St
  | p :: ps, s :: ss => matL (matP st p s) ps ss
  | _, _ => st
def matH (h : Hint) (st : St) : St := matL st (h.items.flatMap posOf) h.shapes

theorem wr_len (st : St) (c : C) (p : Pos) : (st.wr c p).np = st.np ∧ (st.wr c p).env.length = st.env.length ∧ (st.wr c p).objs.length = st.objs.length := by
  unfold St.wr
  cases p <;> dsimp only <;> repeat' (first | split | exact ⟨rfl, rfl, rfl⟩ | exact ⟨rfl, List.length_set .., rfl⟩ | exact ⟨rfl, rfl, List.length_set ..⟩)
theorem matP_len (st : St) (p : Pos) (s : Sh) : (matP st p s).np = st.np ∧ (matP st p s).env.length = st.env.length ∧ (matP st p s).objs.length = st.objs.length := by
  unfold matP
  repeat' (first | split | exact ⟨rfl, rfl, rfl⟩)
  obtain ⟨h1, h2, h3⟩ := wr_len { st with objs := _ } _ p
  exact ⟨h1, h2, by rw [h3]; simp⟩
theorem matL_len : ∀ (ps : List Pos) (ss : List Sh) (st : St), (matL st ps ss).np = st.np ∧ (matL st ps ss).env.length = st.env.length ∧ (matL st ps ss).objs.length = st.objs.length
  | [], _, st => by unfold matL; exact ⟨rfl, rfl, rfl⟩
  | p :: ps, [], st => by unfold matL; exact ⟨rfl, rfl, rfl⟩
  | p :: ps, s :: ss, st => by
    unfold matL
    obtain ⟨h1, h2, h3⟩ := matL_len ps ss (matP st p s)
    obtain ⟨g1, g2, g3⟩ := matP_len st p s
    exact ⟨h1.trans g1, h2.trans g2, h3.trans g3⟩
theorem matH_len (h : Hint) (st : St) : (matH h st).np = st.np ∧ (matH h st).env.length = st.env.length ∧ (matH h st).objs.length = st.objs.length := matL_len _ _ st

section
variable {w0 w : World} {F Xc : Nat → Prop} {ρ0 : Base} {ρ : Rho} {st : St} {a : Act}

theorem RdL.set {X : Nat → Prop} {l : List C} {ys : List Value} (h : RdL w X ρ l ys) {j : Nat} {c : C} (hc : ∀ y, ys[j]? = some y → RdC1 w X ρ c y) : RdL w X ρ (l.set j c) ys := by
  refine ⟨by simp [h.1], fun i c' y h1 h2 => ?_⟩
  rw [List.getElem?_set] at h1
  split at h1
  · rename_i e
    subst e
    split at h1
    · cases h1; exact hc y h2
    · cases h1
  · exact h.2 i c' y h1 h2
/-- A box's cells are described otherwise. -/
theorem Rel.boxw (h : Rel w0 F Xc ρ0 ρ st a w) {k : Nat} {l l' : List C} (ho : st.objs[k]? = some (.box l)) (hs : SelfLe l l') (hl : ∀ v g ys ty, ρ k = some v → v = .pointer (some ⟨g, 0, none⟩) → w.heap[g]? = some (.cells ys ty (0, 0)) → RdL w (XB st.objs ρ Xc) ρ l ys.toList → RdL w (XB st.objs ρ Xc) ρ l' ys.toList) :
    Rel w0 F Xc ρ0 ρ { st with objs := st.objs.set k (.box l') } a w := by
  have hlt : k < st.objs.length := (List.getElem?_eq_some_iff.1 ho).1
  obtain ⟨v, e1, g, ys, ty, e2, e3, e4, e5⟩ := h.objs k _ ho
  have hH : ∀ b, Has (st.objs.set k (.box l')) ρ k b → Has st.objs ρ k b := fun b ⟨o', v', q1, q2, q3, q4⟩ => ⟨_, v', ho, rfl, q3, q4⟩
  have hs0 : Stp (fun _ => False) w w := .refl _ w
  refine h.change (st.objs.set k (.box l')) ρ (· = k) hs0 (fun j hj => ⟨by rw [List.getElem?_set_ne (fun e => hj e.symm)], rfl⟩) (.refl _) (fun _ hb => hb.elim)
    (fun j b hj hh => ?_) (fun j j' b hj hj' _ _ => hj.trans hj'.symm) (fun hX j o' hj hoj => ?_) (fun _ _ => rfl)
  · subst hj; exact .inl ⟨j, rfl, hH b hh⟩
  · subst hj
    rw [List.getElem?_set_self hlt] at hoj
    cases hoj
    exact ⟨v, e1, g, ys, ty, e2, e3, hs.head e4, (hl v g ys ty e1 e2 e3 e5).step hs0 (fun _ h => h.elim) hX (.refl _)⟩
theorem SelfLe.setRow {l : List C} {j K : Nat} : SelfLe l (l.set j (.row K)) := fun i t hi => by
  rw [List.getElem?_set] at hi
  split at hi
  · split at hi <;> cases hi
  · exact hi

theorem matP_ok (h : Rel w0 F Xc ρ0 ρ st a w) (p : Pos) (s : Sh) : ∃ ρ', Rel w0 F Xc ρ0 ρ' (matP st p s) a w := by
  unfold matP
  split
  case h_2 => exact ⟨ρ, h⟩
  rename_i e n _
  split
  case h_2 => exact ⟨ρ, h⟩
  rename_i key m lo len tg hat
  split
  case h_2 => exact ⟨ρ, h⟩
  rename_i e' n' es hob
  split
  case isFalse => exact ⟨ρ, h⟩
  rename_i hcond
  obtain ⟨rfl, rfl, rfl⟩ := hcond
  split
  case h_2 => exact ⟨ρ, h⟩
  rename_i K hK
  obtain ⟨k1, k2⟩ := freshI_some hK
  have hklt : key < st.objs.length := (List.getElem?_eq_some_iff.1 hob).1
  have hKk : K ≠ key := fun e => by rw [e, hob] at k2; cases k2
  -- the step, for the value of the cut
  have step : ∀ y, RdC1 w (XB st.objs ρ Xc) ρ (.cut key m lo len tg) y → ∃ ρ', Rel w0 F Xc ρ0 ρ' { st with objs := (st.objs.set key .dead).set K (.row false e' m (cutN es lo len)) } a w ∧ ρ' K = some y ∧ Rle ρ ρ' ∧ y.oneCell' = true := by
    intro y hy
    rcases hy with hy | ⟨⟨v, q1, q2⟩, h1⟩
    · cases hy
    obtain ⟨hv, e1, e2⟩ := h.objs key _ hob
    rw [q1] at e1
    cases e1
    obtain ⟨hlen, huc, _, _⟩ := cut_slice e2 q2
    obtain ⟨h0, hu0, ⟨xs, hown0, hr0⟩, _⟩ := e2
    obtain ⟨d, rfl⟩ : ∃ d, K = st.np + d := ⟨K - st.np, by omega⟩
    obtain ⟨ρ', r1, r2, r3⟩ := own_step h h0 hob q1 (fun b hb => q2.blk hb) w d (cutN es lo len) y _ (by rw [List.getElem?_set_ne (fun e => hKk e.symm)]; exact k2) (by rw [hlen]; exact q2.row hown0) huc (World.grownBy.refl w _) (.inl rfl) (by
      have hfl : flat (cutN es lo len) = ((flat es).drop (lo * m)).take (len * m) := by unfold cutN; rw [(hu0.drop lo).flat_take, hu0.flat_drop]
      rw [hfl]
      have hxl := hr0.1
      refine ⟨by simp [hxl], fun i t z h1 h2 => ?_⟩
      rw [List.getElem?_take] at h1 h2
      split at h1
      · rename_i hlt
        rw [if_pos hlt] at h2
        rw [List.getElem?_drop] at h1 h2
        exact hr0.2 _ t z h1 h2
      · cases h1)
    exact ⟨ρ', r1, r2, r3, h1⟩
  have other : ∀ (k : Nat) (l : List C), st.objs[k]? = some (.box l) → ((st.objs.set key .dead).set K (.row false e' m (cutN es lo len)))[k]? = some (.box l) := fun k l hk => by
    have h1 : K ≠ k := fun e => by rw [e, hk] at k2; cases k2
    have h2 : key ≠ k := fun e => by rw [e, hk] at hob; cases hob
    rw [List.getElem?_set_ne h1, List.getElem?_set_ne h2]; exact hk
  have boxcase : ∀ (k : Nat) (l : List C) (j : Nat), st.objs[k]? = some (.box l) → l[j]? = some (.cut key m lo len tg) →
      ∃ ρ', Rel w0 F Xc ρ0 ρ' { st with objs := ((st.objs.set key .dead).set K (.row false e' m (cutN es lo len))).set k (.box (l.set j (.row K))) } a w := by
    intro k l j hk hj
    obtain ⟨v, e1, g, ys, ty, e2, e3, e4, e5⟩ := h.objs k _ hk
    have hjl : j < ys.toList.length := by rw [e5.1]; exact (List.getElem?_eq_some_iff.1 hj).1
    obtain ⟨ρ', r1, r2, r3, r4⟩ := step _ (e5.2 j _ _ hj (List.getElem?_eq_getElem hjl))
    refine ⟨ρ', r1.boxw (other k l hk) SelfLe.setRow fun v' g' ys' ty' f1 f2 f3 f4 => f4.set fun y hy => ?_⟩
    rw [r3 _ _ e1] at f1
    cases f1
    rw [e2] at f2
    cases f2
    rw [e3] at f3
    cases f3
    rw [List.getElem?_eq_getElem hjl] at hy
    cases hy
    exact .inr ⟨r2, r4⟩
  cases p with
  | slot i =>
    simp only [St.at] at hat
    split at hat
    · rename_i c hi
      cases hat
      have hil : i < a.tmps.size := by rw [h.len]; exact (List.getElem?_eq_some_iff.1 hi).1
      obtain ⟨ρ', r1, r2, r3, r4⟩ := step _ (h.env i _ _ hi (Array.getElem?_eq_getElem hil))
      refine ⟨ρ', r1.slot (d := .s (.c (.row K))) fun y hy => ?_⟩
      rw [Array.getElem?_eq_getElem hil] at hy
      cases hy
      exact .inr ⟨r2, r4⟩
    · cases hat
  | agg i j =>
    simp only [St.at] at hat
    split at hat
    · rename_i l hi
      have hil : i < a.tmps.size := by rw [h.len]; exact (List.getElem?_eq_some_iff.1 hi).1
      have hd := h.env i _ _ hi (Array.getElem?_eq_getElem hil)
      obtain ⟨cs, hcs, hl⟩ := hd
      have hjl : j < cs.toList.length := by rw [hl.1]; exact (List.getElem?_eq_some_iff.1 hat).1
      obtain ⟨ρ', r1, r2, r3, r4⟩ := step _ (hl.2 j _ _ hat (List.getElem?_eq_getElem hjl))
      have hd' := r1.env i _ _ hi (Array.getElem?_eq_getElem hil)
      obtain ⟨cs', hcs', hl'⟩ := hd'
      rw [hcs] at hcs'
      cases hcs'
      simp only [St.wr, hi]
      refine ⟨ρ', r1.slot (d := .s (.agg (l.set j (.row K)))) fun y hy => ?_⟩
      rw [Array.getElem?_eq_getElem hil] at hy
      cases hy
      refine ⟨cs, hcs, hl'.set fun y hy => ?_⟩
      rw [List.getElem?_eq_getElem hjl] at hy
      cases hy
      exact .inr ⟨r2, r4⟩
    · cases hat
  | box k j =>
    simp only [St.at] at hat
    split at hat
    · rename_i l hk
      have ho := other k l hk
      simp only [St.wr, ho]
      exact boxcase k l j hk hat
    · cases hat
  | boxr i j =>
    simp only [St.at] at hat
    split at hat
    · rename_i k hi
      split at hat
      · rename_i l hk
        have ho := other k l hk
        simp only [St.wr, hi, ho]
        exact boxcase k l j hk hat
      · cases hat
    · cases hat
theorem matL_ok : ∀ (ps : List Pos) (ss : List Sh) {st : St} {ρ : Rho}, Rel w0 F Xc ρ0 ρ st a w → ∃ ρ', Rel w0 F Xc ρ0 ρ' (matL st ps ss) a w
  | [], _, st, ρ, h => by unfold matL; exact ⟨ρ, h⟩
  | p :: ps, [], st, ρ, h => by unfold matL; exact ⟨ρ, h⟩
  | p :: ps, s :: ss, st, ρ, h => by
    unfold matL
    obtain ⟨ρ1, h1⟩ := matP_ok h p s
    exact matL_ok ps ss h1
theorem matH_ok (hh : Hint) (h : Rel w0 F Xc ρ0 ρ st a w) : ∃ ρ', Rel w0 F Xc ρ0 ρ' (matH hh st) a w := matL_ok _ _ h
end
end Go.Eng

/- The engine, part S: code: branches, blocks, loops. -/
namespace Go.Eng
open Go.RowKit

/-- How a piece of code is left. -/
inductive AEx where
  | normal
  | exit (id : Nat)
  | ret
  deriving DecidableEq
def AEx.ex : AEx → Exit
  | .normal => .normal
  | .exit id => .exit id
  | .ret => .ret

/-- Code with hints: at a loop's head, and where ways meet, what is kept of the state. -/
inductive ACode where
  | skip
  | ret
  | exit (id : Nat)
  | region (id : Nat) (ops : Array Oper) (draw : Bool)
  | seq (x y : ACode)
  | cond (c : Operand) (x y : ACode)
  | block (id : Nat) (x : ACode)
  | scope (x : ACode)
  | label (l : Nat)
  | loop (h : Hint) (xs : List (AEx × Hint)) (x : ACode)
  | join (xs : List (AEx × Hint)) (x : ACode)
  | unr (n : Nat) (x : ACode)
def ACode.code : ACode → Code
  | .skip => .skip
  | .ret => .ret
  | .exit id => .exit id
  | .region id ops draw => .region id ops draw
  | .seq x y => .seq x.code y.code
  | .cond c x y => .cond c x.code y.code
  | .block id x => .block id x.code
  | .scope x => .scope x.code
  | .label l => .label l
  | .loop _ _ x => .loop x.code
  | .join _ x => x.code
  | .unr _ x => .loop x.code

/-- Without loops, and without places where ways meet. -/
def ACode.flat : ACode → Bool
  | .seq x y => x.flat && y.flat
  | .cond _ x y => x.flat && y.flat
  | .block _ x => x.flat
  | .scope x => x.flat
  | .loop _ _ _ => false
  | .join _ _ => false
  | .unr _ x => x.flat
  | _ => true
def iter {S E : Type} (F : S → Option (S ⊕ E)) : Nat → S → Option E
  | 0, _ => none
  | n + 1, s => match F s with
    | some (.inl s') => iter F n s'
    | some (.inr e) => some e
    | none => none
open Classical in
/-- A loop: rounds until one leaves it; nothing where none does. -/
noncomputable def loopU {S E : Type} (F : S → Option (S ⊕ E)) (s : S) : Option E := if h : ∃ n e, iter F n s = some e then iter F (Classical.choose h) s else none

theorem iter_mono {S E : Type} {F : S → Option (S ⊕ E)} : ∀ {n : Nat} {s : S} {e : E}, iter F n s = some e → iter F (n + 1) s = some e
  | 0, s, e, h => by simp [iter] at h
  | n + 1, s, e, h => by
    rw [iter] at h ⊢
    split at h
    · exact iter_mono h
    · exact h
    · cases h
theorem iter_le {S E : Type} {F : S → Option (S ⊕ E)} {n m : Nat} {s : S} {e : E} (h : iter F n s = some e) (hm : n ≤ m) : iter F m s = some e := by
  obtain ⟨d, rfl⟩ := Nat.le.dest hm
  induction d with
  | zero => exact h
  | succ d ih => exact iter_mono (ih (Nat.le_add_right _ _))
theorem loopU_iff {S E : Type} {F : S → Option (S ⊕ E)} {s : S} {e : E} : loopU F s = some e ↔ ∃ n, iter F n s = some e := by
  unfold loopU
  constructor
  · intro h
    split at h
    · exact ⟨_, h⟩
    · cases h
  · rintro ⟨n, h⟩
    have hex : ∃ n e, iter F n s = some e := ⟨n, e, h⟩
    rw [dif_pos hex]
    obtain ⟨e', he'⟩ := Classical.choose_spec hex
    have h1 := iter_le he' (Nat.le_max_left (Classical.choose hex) n)
    have h2 := iter_le h (Nat.le_max_right (Classical.choose hex) n)
    rw [he']
    rw [h1] at h2
    exact h2
theorem loopU_eq {S E : Type} (F : S → Option (S ⊕ E)) (s : S) : loopU F s = match F s with
    | some (.inl s') => loopU F s'
    | some (.inr e) => some e
    | none => none := by
  cases hF : F s with
  | none =>
    cases hl : loopU F s with
    | none => rfl
    | some e =>
      obtain ⟨n, hn⟩ := loopU_iff.1 hl
      cases n with
      | zero => simp [iter] at hn
      | succ n => simp [iter, hF] at hn
  | some x =>
    cases x with
    | inr e => exact loopU_iff.2 ⟨1, by simp [iter, hF]⟩
    | inl s' =>
      simp only
      cases hl : loopU F s' with
      | some e =>
        obtain ⟨n, hn⟩ := loopU_iff.1 hl
        exact loopU_iff.2 ⟨n + 1, by simp [iter, hF, hn]⟩
      | none =>
        cases hl2 : loopU F s with
        | none => rfl
        | some e =>
          obtain ⟨n, hn⟩ := loopU_iff.1 hl2
          cases n with
          | zero => simp [iter] at hn
          | succ n =>
            simp only [iter, hF] at hn
            rw [loopU_iff.2 ⟨n, hn⟩] at hl; cases hl

def EP : List (AEx × Hint) → Type
  | [] => Empty
  | p :: l => Tup p.2.shapes ⊕ EP l
section
variable {R : Type}
def packD (np n m : Nat) (h : Hint) (st : St) (f : Tup h.shapes → Option R) : Option R := if st.np = np ∧ st.env.length = n ∧ st.objs.length = m then packK h (matH h st) f else none
def packE (np n m : Nat) : (xs : List (AEx × Hint)) → AEx → St → (EP xs → Option R) → Option R
  | [], _, _, _ => none
  | p :: l, x, st, f => if p.1 = x then packD np n m p.2 st fun t => f (.inl t) else packE np n m l x st fun q => f (.inr q)
/-- Which way it was left. -/
def onS {α β : Type} (q : α ⊕ β) (f : α → Option R) (g : β → Option R) : Option R := match q with
  | .inl t => f t
  | .inr q => g q
def noS (_ : Empty) : Option R := none
def unpackE (np n m : Nat) : (xs : List (AEx × Hint)) → EP xs → (AEx → St → Option R) → Option R
  | [], q, _ => noS q
  | p :: l, q, k => onS (α := Tup p.2.shapes) (β := EP l) q (fun t => k p.1 (unpack p.2 np n m t)) fun q => unpackE np n m l q k
end

open Classical in
/-- What two ways both come to. -/
noncomputable def bothU {R : Type} (a b : Option R) : Option R := if a = b then a else none
theorem bothU_some {R : Type} {a b : Option R} {r : R} (h : bothU a b = some r) : a = some r ∧ b = some r := by
  unfold bothU at h
  split at h
  · rename_i e; exact ⟨h, e ▸ h⟩
  · cases h
theorem bothU_eq {R : Type} {a b : Option R} {r : R} (h1 : a = some r) (h2 : b = some r) : bothU a b = some r := by
  unfold bothU
  rw [h1, h2, if_pos rfl]
/-- Rounds of a loop, one after the other, at most so many. -/
def unrU {R : Type} (F : St → (AEx → St → Option R) → Option R) : Nat → St → (AEx → St → Option R) → Option R
  | 0, _, _ => none
  | n + 1, st, k => F st fun e st' => match e with
    | .normal => unrU F n st' k
    | e => k e st'
noncomputable def condK {R : Type} (amb : Bool) (d : D) (a b : Option R) : Option R := match amb, d with
  | true, .s (.c .amb) => bothU a b
  | _, d => asB d fun q => bif q then a else b
section
variable (P : Program) (Γ : FuncId → Option Callee) (dok : Array Oper → Bool) (np n m : Nat) (amb : Bool)
noncomputable def aCode : ACode → (R : Type) → St → (AEx → St → Option R) → Option R
  | .skip, _, st, k => k .normal st
  | .ret, _, st, k => k .ret st
  | .exit id, _, st, k => k (.exit id) st
  | .region _ ops draw, _, st, k => if draw = false ∨ dok ops = true then aOps P Γ ops (List.range ops.size) st fun st => k .normal st else none
  | .seq x y, R, st, k => aCode x R st fun e st => match e with
    | .normal => aCode y R st k
    | e => k e st
  | .cond c x y, R, st, k => condK amb (ev st c) (aCode x R st k) (aCode y R st k)
  | .block id x, R, st, k => aCode x R st fun e st => match e with
    | .exit j => if j = id then k .normal st else k (.exit j) st
    | e => k e st
  | .scope x, R, st, k => aCode x R st k
  | .label _, _, st, k => k .normal st
  | .loop h xs x, R, st, k => packD np n m h st fun s0 => ob (loopU (fun s => aCode x (Tup h.shapes ⊕ EP xs) (unpack h np n m s) fun e st' => match e with
      | .normal => packD np n m h st' fun s' => some (.inl s')
      | e => packE np n m xs e st' fun q => some (.inr q)) s0) fun q => unpackE np n m xs q k
  | .join xs x, R, st, k => ob (aCode x (EP xs) st fun e st' => packE np n m xs e st' some) fun q => unpackE np n m xs q k
  | .unr i x, R, st, k => unrU (fun st k => aCode x R st k) i st k
end

section
variable {R : Type} {P : Program} {Γ : FuncId → Option Callee} {dok : Array Oper → Bool} {w0 : World} {F Xc : Nat → Prop} {ρ0 : Base} {r : R}

/-- What a drawn region asks: in any order the operations come to what they come to in the order of the text. -/
def DrawOK (P : Program) (Γ : FuncId → Option Callee) (dok : Array Oper → Bool) : Prop :=
  ∀ (ops : Array Oper), dok ops = true → ∀ {R : Type} (w0 : World) (F Xc : Nat → Prop) (ρ0 : Base) (ρ : Rho) (st : St) (a : Act) (w : World) (k : St → Option R) (r : R) (Q : Exit → Act → World → Prop) (t : Nat),
    Good P w0 F → Rel w0 F Xc ρ0 ρ st a w → aOps P Γ ops (List.range ops.size) st k = some r → (∀ ρ' st' a' w', Rel w0 F Xc ρ0 ρ' st' a' w' → k st' = some r → Q .normal a' w') →
    wpOps P ops Q (Region.schedule (P.follows .mixedOrders) ops t) a w

theorem packD_ok {np n m : Nat} {h : Hint} {f : Tup h.shapes → Option R} {st : St} {ρ : Rho} {a : Act} {w : World} (hex : ρ0.ex = []) (hR : Rel w0 F Xc ρ0 ρ st a w) (hf : packD np n m h st f = some r) :
    ∃ t, f t = some r ∧ ∃ ρ'', Rel w0 F Xc ρ0 ρ'' (unpack h np n m t) a w := by
  unfold packD at hf
  split at hf
  · rename_i hd
    obtain ⟨h1, h2, h3⟩ := hd
    subst h1; subst h2; subst h3
    obtain ⟨ρ1, hR1⟩ := matH_ok h hR
    obtain ⟨e1, e2, e3⟩ := matH_len h st
    have := packK_ok hex hR1 hf
    rw [e1, e2, e3] at this
    exact this
  · cases hf

theorem packE_ok {np n m : Nat} (hex : ρ0.ex = []) : ∀ (xs : List (AEx × Hint)) (e : AEx) (st : St) (f : EP xs → Option R) {ρ : Rho} {a : Act} {w : World}, Rel w0 F Xc ρ0 ρ st a w →
    packE np n m xs e st f = some r → ∃ q, f q = some r ∧ ∃ ρ'' st'', Rel w0 F Xc ρ0 ρ'' st'' a w ∧ ∀ {R' : Type} (k : AEx → St → Option R'), unpackE np n m xs q k = k e st''
  | [], e, st, f, ρ, a, w, h, hf => by simp [packE] at hf
  | p :: l, e, st, f, ρ, a, w, h, hf => by
    simp only [packE] at hf
    split at hf
    · rename_i he
      obtain ⟨t, ht, ρ'', hR⟩ := packD_ok hex h hf
      exact ⟨.inl t, ht, ρ'', _, hR, fun k => by subst he; rfl⟩
    · obtain ⟨q, hq, ρ'', st'', hR, hk⟩ := packE_ok hex l e st _ h hf
      exact ⟨.inr q, hq, ρ'', st'', hR, fun k => hk k⟩

theorem aCode_ok {np n m : Nat} {amb : Bool} (hΓ : GOK P Γ) (hD : DrawOK P Γ dok) (hG : Good P w0 F) : ∀ (c : ACode) (_ : ρ0.ex = [] ∨ c.flat = true) (R : Type) (r : R) {ρ : Rho} {st : St} {a : Act} {w : World} {k : AEx → St → Option R} {Q : Exit → Act → World → Prop}, Rel w0 F Xc ρ0 ρ st a w →
    aCode P Γ dok np n m amb c R st k = some r → (∀ ρ' st' a' w' e, Rel w0 F Xc ρ0 ρ' st' a' w' → k e st' = some r → Q e.ex a' w') → c.code.wp P Q a w
  | .skip, hx, R, r, ρ, st, a, w, k, Q, h, hk, hn => wp_skip (hn ρ st a w .normal h hk)
  | .ret, hx, R, r, ρ, st, a, w, k, Q, h, hk, hn => wp_ret (hn ρ st a w .ret h hk)
  | .exit id, hx, R, r, ρ, st, a, w, k, Q, h, hk, hn => wp_exit (hn ρ st a w (.exit id) h hk)
  | .region id ops draw, hx, R, r, ρ, st, a, w, k, Q, h, hk, hn => by
    simp only [aCode] at hk
    split at hk
    · rename_i hd
      cases draw with
      | false => exact wp_region (aOps_ok hΓ hG _ h hk fun ρ' st' a' w' hR hk' => hn ρ' st' a' w' .normal hR hk')
      | true =>
        have hd' : dok ops = true := by rcases hd with hd | hd; cases hd; exact hd
        refine wp_region_draw fun t => ?_
        exact hD ops hd' w0 F Xc ρ0 ρ st a _ (fun st => k .normal st) r Q t hG (h.world (Stp.drew _ w)) hk fun ρ' st' a' w' hR hk' => hn ρ' st' a' w' .normal hR hk'
    · cases hk
  | .seq x y, hx, R, r, ρ, st, a, w, k, Q, h, hk, hn => by
    simp only [aCode] at hk
    refine wp_seq (aCode_ok hΓ hD hG x (hx.imp (fun h => h) fun hf => (Bool.and_eq_true_iff.1 (show (x.flat && y.flat) = true from hf)).1) R r h hk fun ρ' st' a' w' e hR hk' => ?_)
    cases e with
    | normal => exact aCode_ok hΓ hD hG y (hx.imp (fun h => h) fun hf => (Bool.and_eq_true_iff.1 (show (x.flat && y.flat) = true from hf)).2) R r hR hk' hn
    | exit id => exact hn ρ' st' a' w' (.exit id) hR hk'
    | ret => exact hn ρ' st' a' w' .ret hR hk'
  | .cond c x y, hx, R, r, ρ, st, a, w, k, Q, h, hk, hn => by
    simp only [aCode] at hk
    unfold condK at hk
    split at hk
    · rename_i hd
      obtain ⟨k1, k2⟩ := bothU_some hk
      have hc := h.ev c
      rw [hd] at hc
      rcases hc with hc | ⟨⟨b, hb⟩, _⟩
      · cases hc
      · cases b with
        | true => exact wp_cond_true hb (aCode_ok hΓ hD hG x (hx.imp (fun h => h) fun hf => (Bool.and_eq_true_iff.1 (show (x.flat && y.flat) = true from hf)).1) R r h k1 hn)
        | false => exact wp_cond_false hb (aCode_ok hΓ hD hG y (hx.imp (fun h => h) fun hf => (Bool.and_eq_true_iff.1 (show (x.flat && y.flat) = true from hf)).2) R r h k2 hn)
    obtain ⟨b, hb, hk1⟩ := asB_ok (h.ev c) hk
    cases b with
    | true => exact wp_cond_true hb (aCode_ok hΓ hD hG x (hx.imp (fun h => h) fun hf => (Bool.and_eq_true_iff.1 (show (x.flat && y.flat) = true from hf)).1) R r h hk1 hn)
    | false => exact wp_cond_false hb (aCode_ok hΓ hD hG y (hx.imp (fun h => h) fun hf => (Bool.and_eq_true_iff.1 (show (x.flat && y.flat) = true from hf)).2) R r h hk1 hn)
  | .block id x, hx, R, r, ρ, st, a, w, k, Q, h, hk, hn => by
    simp only [aCode] at hk
    refine wp_block (aCode_ok hΓ hD hG x (hx.imp (fun h => h) fun hf => (show x.flat = true from hf)) R r h hk fun ρ' st' a' w' e hR hk' => ?_)
    cases e with
    | normal => exact hn ρ' st' a' w' .normal hR hk'
    | exit j =>
      simp only at hk'
      show if j = id then Q .normal a' w' else Q (.exit j) a' w'
      split
      · rename_i hj; rw [if_pos hj] at hk'; exact hn ρ' st' a' w' .normal hR hk'
      · rename_i hj; rw [if_neg hj] at hk'; exact hn ρ' st' a' w' (.exit j) hR hk'
    | ret => exact hn ρ' st' a' w' .ret hR hk'
  | .scope x, hx, R, r, ρ, st, a, w, k, Q, h, hk, hn => by
    simp only [aCode] at hk
    exact wp_scope_straight (aCode_ok hΓ hD hG x (hx.imp (fun h => h) fun hf => (show x.flat = true from hf)) R r h hk fun ρ' st' a' w' e hR hk' => by
      have := hn ρ' st' a' w' e hR hk'
      cases e <;> exact this)
  | .label l, hx, R, r, ρ, st, a, w, k, Q, h, hk, hn => wp_label (hn ρ st a w .normal h hk)
  | .loop hh xs x, hx, R, r, ρ, st, a, w, k, Q, h, hk, hn => by
    have hex : ρ0.ex = [] := hx.resolve_right (by simp [ACode.flat])
    simp only [aCode] at hk
    obtain ⟨s0, hk1, ρ1, h1⟩ := packD_ok hex h hk
    obtain ⟨q, hq, hk2⟩ := ob_some hk1
    obtain ⟨i, hi⟩ := loopU_iff.1 hq
    refine wp_loop_rounds i ?_
    clear hk hk1 hq h
    induction i generalizing s0 ρ1 a w with
    | zero => simp [iter] at hi
    | succ i ih =>
      rw [rounds_succ]
      rw [iter] at hi
      -- one round
      cases hF : (aCode P Γ dok np n m amb x (Tup hh.shapes ⊕ EP xs) (unpack hh np n m s0) fun e st' => match e with
        | .normal => packD np n m hh st' fun s' => some (.inl s')
        | e => packE np n m xs e st' fun q => some (.inr q)) with
      | none => rw [hF] at hi; cases hi
      | some res =>
        rw [hF] at hi
        refine aCode_ok hΓ hD hG x (.inl hex) _ res h1 hF fun ρ' st' a' w' e hR hk' => ?_
        cases e with
        | normal =>
          obtain ⟨s', hs', ρ2, h2⟩ := packD_ok hex hR hk'
          cases hs'
          exact ih (a := a') (w := w') (s0 := s') (ρ1 := ρ2) h2 hi
        | exit id =>
          obtain ⟨q', hq', ρ2, st2, h2, hu⟩ := packE_ok hex xs (.exit id) st' _ hR hk'
          cases hq'
          simp only [Option.some.injEq] at hi
          subst hi
          rw [hu] at hk2
          exact hn ρ2 st2 a' w' (.exit id) h2 hk2
        | ret =>
          obtain ⟨q', hq', ρ2, st2, h2, hu⟩ := packE_ok hex xs .ret st' _ hR hk'
          cases hq'
          simp only [Option.some.injEq] at hi
          subst hi
          rw [hu] at hk2
          exact hn ρ2 st2 a' w' .ret h2 hk2
  | .join xs x, hx, R, r, ρ, st, a, w, k, Q, h, hk, hn => by
    have hex : ρ0.ex = [] := hx.resolve_right (by simp [ACode.flat])
    simp only [aCode] at hk
    obtain ⟨q, hq, hk2⟩ := ob_some hk
    refine aCode_ok hΓ hD hG x (.inl hex) _ q h hq fun ρ' st' a' w' e hR hk' => ?_
    obtain ⟨q', hq', ρ2, st2, h2, hu⟩ := packE_ok hex xs e st' _ hR hk'
    cases hq'
    rw [hu] at hk2
    exact hn ρ2 st2 a' w' e h2 hk2
  | .unr i x, hx, R, r, ρ, st, a, w, k, Q, h, hk, hn => by
    simp only [aCode] at hk
    refine wp_loop_rounds i ?_
    induction i generalizing st ρ a w with
    | zero => simp [unrU] at hk
    | succ i ih =>
      rw [rounds_succ]
      simp only [unrU] at hk
      refine aCode_ok hΓ hD hG x (hx.imp (fun h => h) fun hf => (show x.flat = true from hf)) R r h hk fun ρ' st' a' w' e hR hk' => ?_
      cases e with
      | normal => exact ih (hx.imp (fun h => h) fun hf => (show x.flat = true from hf)) ρ' st' a' w' hR hk'
      | exit id => exact hn ρ' st' a' w' (.exit id) hR hk'
      | ret => exact hn ρ' st' a' w' .ret hR hk'
end
end Go.Eng
