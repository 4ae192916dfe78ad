/- The functions of this seat as plain functions on tuples, each proved to be what its code comes to; no conditions, but that nothing is said where the plain function gives nothing. -/
import Derived.Shelf.Strings.Search1
import Derived.Shelf.Strings.Search2
import Derived.Shelf.Strings.Search3
import Derived.Shelf.LaysM
import Derived.Shelf.Strings.Shaped
import Derived.Shelf.Strings.Prefix
import Derived.Test.YtgjoeikaglmoeaaProg
import Derived.Test.YtgjoeikaglmoeaaEng2
set_option linter.unusedSimpArgs false
set_option linter.unusedVariables false

namespace Go.Proofs
open Go.Shelf
def Try.lays217_ren : Go.Shelf.Ren := ⟨fun | 217 => 46 | 266 => 53 | n => n, fun | 9 => 9 | 5 => 5 | 3 => 3 | n => n, fun | n => n⟩
theorem Try.lays217 : Go.Proofs.Lays.n217 Try.prog Try.lays217_ren := {
  mixed := by kernel_rfl
  f217 := Try.func46.trans (congrArg some (by kernel_rfl))
  f266 := Try.func53.trans (congrArg some (by kernel_rfl))
  t3 := Try.underlying3
  a3 := Try.isAgg3
  z3 := Try.sizeOf3
  v3 := Try.zeroValue3
  t5 := Try.underlying5
  a5 := Try.isAgg5
  z5 := Try.sizeOf5
  v5 := Try.zeroValue5
  t9 := Try.underlying9
  a9 := Try.isAgg9
  z9 := Try.sizeOf9
  v9 := Try.zeroValue9 }
open Go.RowKit Go.Lib in
theorem Try.stringslite_IndexByte (s : ByteArray) (c : Int) (w : World) :
    Calls Try.prog 46 #[.string s, .int .u8 c] w fun e w' => e = .returned (.int .i64 (Lib.indexByte s.data.toList c.toNat.toUInt8)) ∧ w' = w := Any.stringslite_IndexByte Try.lays217 s c w
def Try.lays224_ren : Go.Shelf.Ren := ⟨fun | 224 => 48 | n => n, fun | 3 => 3 | n => n, fun | n => n⟩
theorem Try.lays224 : Go.Proofs.Lays.n224 Try.prog Try.lays224_ren := {
  mixed := by kernel_rfl
  f224 := Try.func48.trans (congrArg some (by kernel_rfl))
  t3 := Try.underlying3
  a3 := Try.isAgg3
  z3 := Try.sizeOf3
  v3 := Try.zeroValue3 }
open Go.RowKit Go.Lib in
theorem Try.bytealg_Cutover (n : Int) (h0 : 0 ≤ n) (h1 : n < 4611686018427387904) (w : World) :
    Calls Try.prog 48 #[.int .i64 n] w fun e w' => e = .returned (.int .i64 ((n + 16) / 8)) ∧ w' = w := Any.bytealg_Cutover Try.lays224 n h0 h1 w
def Try.lays314_ren : Go.Shelf.Ren := ⟨fun | 314 => 54 | n => n, fun | 9 => 9 | 51 => 69 | 3 => 3 | 4 => 4 | 5 => 5 | 46 => 66 | n => n, fun | n => n⟩
theorem Try.lays314 : Go.Proofs.Lays.n314 Try.prog Try.lays314_ren := {
  mixed := by kernel_rfl
  f314 := Try.func54.trans (congrArg some (by kernel_rfl))
  t3 := Try.underlying3
  a3 := Try.isAgg3
  z3 := Try.sizeOf3
  v3 := Try.zeroValue3
  t4 := Try.underlying4
  a4 := Try.isAgg4
  z4 := Try.sizeOf4
  v4 := Try.zeroValue4
  t5 := Try.underlying5
  a5 := Try.isAgg5
  z5 := Try.sizeOf5
  v5 := Try.zeroValue5
  t9 := Try.underlying9
  a9 := Try.isAgg9
  z9 := Try.sizeOf9
  v9 := Try.zeroValue9
  t46 := Try.underlying66
  a46 := Try.isAgg66
  z46 := Try.sizeOf66
  v46 := Try.zeroValue66
  t51 := Try.underlying69
  a51 := Try.isAgg69
  z51 := Try.sizeOf69
  v51 := Try.zeroValue69 }
open Go.RowKit Go.Lib in
theorem Try.bytealg_hashStr (sep : ByteArray) (hs : sep.size < 4294967281) (w : World) :
    Calls Try.prog 54 #[.string sep] w fun e w' => e = .returned (.tuple #[.int .u32 (RK.H sep.data.toList % 4294967296), .int .u32 (16777619 ^ sep.size % 4294967296)]) ∧ w' = w := Any.bytealg_hashStr Try.lays314 sep hs w
def Try.lays267_ren : Go.Shelf.Ren := ⟨fun | 267 => 49 | 314 => 54 | n => n, fun | 9 => 9 | 3 => 3 | 146 => 70 | 51 => 69 | 4 => 4 | 5 => 5 | 46 => 66 | n => n, fun | n => n⟩
theorem Try.lays267 : Go.Proofs.Lays.n267 Try.prog Try.lays267_ren := {
  mixed := by kernel_rfl
  f267 := Try.func49.trans (congrArg some (by kernel_rfl))
  f314 := Try.func54.trans (congrArg some (by kernel_rfl))
  t3 := Try.underlying3
  a3 := Try.isAgg3
  z3 := Try.sizeOf3
  v3 := Try.zeroValue3
  t4 := Try.underlying4
  a4 := Try.isAgg4
  z4 := Try.sizeOf4
  v4 := Try.zeroValue4
  t5 := Try.underlying5
  a5 := Try.isAgg5
  z5 := Try.sizeOf5
  v5 := Try.zeroValue5
  t9 := Try.underlying9
  a9 := Try.isAgg9
  z9 := Try.sizeOf9
  v9 := Try.zeroValue9
  t46 := Try.underlying66
  a46 := Try.isAgg66
  z46 := Try.sizeOf66
  v46 := Try.zeroValue66
  t51 := Try.underlying69
  a51 := Try.isAgg69
  z51 := Try.sizeOf69
  v51 := Try.zeroValue69
  t146 := Try.underlying70
  a146 := Try.isAgg70
  z146 := Try.sizeOf70
  v146 := Try.zeroValue70 }
open Go.RowKit Go.Lib in
theorem Try.bytealg_IndexRabinKarp (s sep : ByteArray) (h1 : 1 ≤ sep.size) (h2 : sep.size ≤ s.size) (hs : s.size < 4294967281) (w : World) :
    Calls Try.prog 49 #[.string s, .string sep] w fun e w' => e = .returned (.int .i64 (Lib.index s.data.toList sep.data.toList)) ∧ w' = w := Any.bytealg_IndexRabinKarp Try.lays267 s sep h1 h2 hs w
def Try.lays219_ren : Go.Shelf.Ren := ⟨fun | 219 => 30 | 217 => 46 | 225 => 47 | 224 => 48 | 267 => 49 | 266 => 53 | 314 => 54 | n => n, fun | 9 => 9 | 3 => 3 | 4 => 4 | 5 => 5 | 46 => 66 | 146 => 70 | 51 => 69 | n => n, fun | 1 => 0 | n => n⟩
theorem Try.lays219 : Go.Proofs.Lays.n219 Try.prog Try.lays219_ren := {
  mixed := by kernel_rfl
  f217 := Try.func46.trans (congrArg some (by kernel_rfl))
  f219 := Try.func30.trans (congrArg some (by kernel_rfl))
  f224 := Try.func48.trans (congrArg some (by kernel_rfl))
  f225 := Try.func47.trans (congrArg some (by kernel_rfl))
  f266 := Try.func53.trans (congrArg some (by kernel_rfl))
  f267 := Try.func49.trans (congrArg some (by kernel_rfl))
  f314 := Try.func54.trans (congrArg some (by kernel_rfl))
  t3 := Try.underlying3
  a3 := Try.isAgg3
  z3 := Try.sizeOf3
  v3 := Try.zeroValue3
  t4 := Try.underlying4
  a4 := Try.isAgg4
  z4 := Try.sizeOf4
  v4 := Try.zeroValue4
  t5 := Try.underlying5
  a5 := Try.isAgg5
  z5 := Try.sizeOf5
  v5 := Try.zeroValue5
  t9 := Try.underlying9
  a9 := Try.isAgg9
  z9 := Try.sizeOf9
  v9 := Try.zeroValue9
  t46 := Try.underlying66
  a46 := Try.isAgg66
  z46 := Try.sizeOf66
  v46 := Try.zeroValue66
  t51 := Try.underlying69
  a51 := Try.isAgg69
  z51 := Try.sizeOf69
  v51 := Try.zeroValue69
  t146 := Try.underlying70
  a146 := Try.isAgg70
  z146 := Try.sizeOf70
  v146 := Try.zeroValue70
  g1 := by kernel_rfl }
open Go.RowKit Go.Lib in
theorem Try.stringslite_Index_one (s : ByteArray) (c : UInt8) (w : World) :
    Calls Try.prog 30 #[.string s, .string ⟨#[c]⟩] w fun e w' => e = .returned (.int .i64 (Lib.indexByte s.data.toList c)) ∧ w' = w := Any.stringslite_Index_one Try.lays219 s c w
open Go.RowKit Go.Lib in
theorem Try.stringslite_Index (s sub : ByteArray) (m : Int) (w : World) (hs : s.size < 4294967281) (hm : w.cell? ⟨0, 0, none⟩ = some (.int .i64 m)) :
    Calls Try.prog 30 #[.string s, .string sub] w fun e w' => e = .returned (.int .i64 (Lib.index s.data.toList sub.data.toList)) ∧ w' = w := Any.stringslite_Index Try.lays219 s sub m w hs hm
def Try.lays143_ren : Go.Shelf.Ren := ⟨fun | 143 => 19 | 219 => 30 | 217 => 46 | 225 => 47 | 224 => 48 | 267 => 49 | 266 => 53 | 314 => 54 | n => n, fun | 9 => 9 | 3 => 3 | 4 => 4 | 5 => 5 | 46 => 66 | 146 => 70 | 51 => 69 | n => n, fun | 1 => 0 | n => n⟩
theorem Try.lays143 : Go.Proofs.Lays.n143 Try.prog Try.lays143_ren := {
  mixed := by kernel_rfl
  f143 := Try.func19.trans (congrArg some (by kernel_rfl))
  f217 := Try.func46.trans (congrArg some (by kernel_rfl))
  f219 := Try.func30.trans (congrArg some (by kernel_rfl))
  f224 := Try.func48.trans (congrArg some (by kernel_rfl))
  f225 := Try.func47.trans (congrArg some (by kernel_rfl))
  f266 := Try.func53.trans (congrArg some (by kernel_rfl))
  f267 := Try.func49.trans (congrArg some (by kernel_rfl))
  f314 := Try.func54.trans (congrArg some (by kernel_rfl))
  t3 := Try.underlying3
  a3 := Try.isAgg3
  z3 := Try.sizeOf3
  v3 := Try.zeroValue3
  t4 := Try.underlying4
  a4 := Try.isAgg4
  z4 := Try.sizeOf4
  v4 := Try.zeroValue4
  t5 := Try.underlying5
  a5 := Try.isAgg5
  z5 := Try.sizeOf5
  v5 := Try.zeroValue5
  t9 := Try.underlying9
  a9 := Try.isAgg9
  z9 := Try.sizeOf9
  v9 := Try.zeroValue9
  t46 := Try.underlying66
  a46 := Try.isAgg66
  z46 := Try.sizeOf66
  v46 := Try.zeroValue66
  t51 := Try.underlying69
  a51 := Try.isAgg69
  z51 := Try.sizeOf69
  v51 := Try.zeroValue69
  t146 := Try.underlying70
  a146 := Try.isAgg70
  z146 := Try.sizeOf70
  v146 := Try.zeroValue70
  g1 := by kernel_rfl }
open Go.RowKit Go.Lib in
theorem Try.strings_Index_one (s : ByteArray) (c : UInt8) (w : World) :
    Calls Try.prog 19 #[.string s, .string ⟨#[c]⟩] w fun e w' => e = .returned (.int .i64 (Lib.indexByte s.data.toList c)) ∧ w' = w := Any.strings_Index_one Try.lays143 s c w
open Go.RowKit Go.Lib in
theorem Try.strings_Index (s sub : ByteArray) (m : Int) (w : World) (hs : s.size < 4294967281) (hm : w.cell? ⟨0, 0, none⟩ = some (.int .i64 m)) :
    Calls Try.prog 19 #[.string s, .string sub] w fun e w' => e = .returned (.int .i64 (Lib.index s.data.toList sub.data.toList)) ∧ w' = w := Any.strings_Index Try.lays143 s sub m w hs hm
def Try.laysM219_ren : Go.Shelf.Ren := ⟨fun | 219 => 30 | 217 => 46 | 225 => 47 | 224 => 48 | 267 => 49 | 266 => 53 | 314 => 54 | n => n, fun | 9 => 9 | 3 => 3 | 4 => 4 | 5 => 5 | 46 => 66 | 146 => 70 | 51 => 69 | n => n, fun | 1 => 0 | n => n⟩
theorem Try.laysM219 : Go.Proofs.LaysM.n219 Try.prog Try.laysM219_ren := {
  mixed := by kernel_rfl
  f217 := Try.func46.trans (congrArg some (by kernel_rfl))
  f219 := Try.func30.trans (congrArg some (by kernel_rfl))
  f224 := Try.func48.trans (congrArg some (by kernel_rfl))
  f225 := Try.func47.trans (congrArg some (by kernel_rfl))
  f266 := Try.func53.trans (congrArg some (by kernel_rfl))
  f267 := Try.func49.trans (congrArg some (by kernel_rfl))
  f314 := Try.func54.trans (congrArg some (by kernel_rfl))
  t3 := Try.underlying3
  a3 := Try.isAgg3
  z3 := Try.sizeOf3
  v3 := Try.zeroValue3
  t4 := Try.underlying4
  a4 := Try.isAgg4
  z4 := Try.sizeOf4
  v4 := Try.zeroValue4
  t5 := Try.underlying5
  a5 := Try.isAgg5
  z5 := Try.sizeOf5
  v5 := Try.zeroValue5
  t9 := Try.underlying9
  a9 := Try.isAgg9
  z9 := Try.sizeOf9
  v9 := Try.zeroValue9
  t46 := Try.underlying66
  a46 := Try.isAgg66
  z46 := Try.sizeOf66
  v46 := Try.zeroValue66
  t51 := Try.underlying69
  a51 := Try.isAgg69
  z51 := Try.sizeOf69
  v51 := Try.zeroValue69
  t146 := Try.underlying70
  a146 := Try.isAgg70
  z146 := Try.sizeOf70
  v146 := Try.zeroValue70
  g1 := by kernel_rfl
  i3 := by kernel_rfl
  i4 := by kernel_rfl
  i5 := by kernel_rfl
  i9 := by kernel_rfl
  i46 := by kernel_rfl
  i51 := by kernel_rfl
  i146 := by kernel_rfl
  m1 := by kernel_rfl
  s1_3 := fun w h => Go.Proofs.cell_of_shapedOpen_int (zero := #[.int .i64 0]) (t := 3) h (of_decide_eq_true (by kernel_rfl)) (by kernel_rfl) rfl (by kernel_rfl) (by kernel_rfl) Try.underlying3 }
open Go.RowKit Go.Lib in
theorem Try.stringslite_Index_shaped (s sub : ByteArray) (w : World) (h : w.ShapedOpen Try.prog) (hs : s.size < 4294967281) :
    Calls Try.prog 30 #[.string s, .string sub] w fun e w' => e = .returned (.int .i64 (Lib.index s.data.toList sub.data.toList)) ∧ w' = w := Any.stringslite_Index_shaped Try.laysM219 s sub w h hs
def Try.laysM143_ren : Go.Shelf.Ren := ⟨fun | 143 => 19 | 219 => 30 | 217 => 46 | 225 => 47 | 224 => 48 | 267 => 49 | 266 => 53 | 314 => 54 | n => n, fun | 9 => 9 | 3 => 3 | 4 => 4 | 5 => 5 | 46 => 66 | 146 => 70 | 51 => 69 | n => n, fun | 1 => 0 | n => n⟩
theorem Try.laysM143 : Go.Proofs.LaysM.n143 Try.prog Try.laysM143_ren := {
  mixed := by kernel_rfl
  f143 := Try.func19.trans (congrArg some (by kernel_rfl))
  f217 := Try.func46.trans (congrArg some (by kernel_rfl))
  f219 := Try.func30.trans (congrArg some (by kernel_rfl))
  f224 := Try.func48.trans (congrArg some (by kernel_rfl))
  f225 := Try.func47.trans (congrArg some (by kernel_rfl))
  f266 := Try.func53.trans (congrArg some (by kernel_rfl))
  f267 := Try.func49.trans (congrArg some (by kernel_rfl))
  f314 := Try.func54.trans (congrArg some (by kernel_rfl))
  t3 := Try.underlying3
  a3 := Try.isAgg3
  z3 := Try.sizeOf3
  v3 := Try.zeroValue3
  t4 := Try.underlying4
  a4 := Try.isAgg4
  z4 := Try.sizeOf4
  v4 := Try.zeroValue4
  t5 := Try.underlying5
  a5 := Try.isAgg5
  z5 := Try.sizeOf5
  v5 := Try.zeroValue5
  t9 := Try.underlying9
  a9 := Try.isAgg9
  z9 := Try.sizeOf9
  v9 := Try.zeroValue9
  t46 := Try.underlying66
  a46 := Try.isAgg66
  z46 := Try.sizeOf66
  v46 := Try.zeroValue66
  t51 := Try.underlying69
  a51 := Try.isAgg69
  z51 := Try.sizeOf69
  v51 := Try.zeroValue69
  t146 := Try.underlying70
  a146 := Try.isAgg70
  z146 := Try.sizeOf70
  v146 := Try.zeroValue70
  g1 := by kernel_rfl
  i3 := by kernel_rfl
  i4 := by kernel_rfl
  i5 := by kernel_rfl
  i9 := by kernel_rfl
  i46 := by kernel_rfl
  i51 := by kernel_rfl
  i146 := by kernel_rfl
  m1 := by kernel_rfl
  s1_3 := fun w h => Go.Proofs.cell_of_shapedOpen_int (zero := #[.int .i64 0]) (t := 3) h (of_decide_eq_true (by kernel_rfl)) (by kernel_rfl) rfl (by kernel_rfl) (by kernel_rfl) Try.underlying3 }
open Go.RowKit Go.Lib in
theorem Try.strings_Index_shaped (s sub : ByteArray) (w : World) (h : w.ShapedOpen Try.prog) (hs : s.size < 4294967281) :
    Calls Try.prog 19 #[.string s, .string sub] w fun e w' => e = .returned (.int .i64 (Lib.index s.data.toList sub.data.toList)) ∧ w' = w := Any.strings_Index_shaped Try.laysM143 s sub w h hs
def Try.lays206_ren : Go.Shelf.Ren := ⟨fun | 206 => 45 | n => n, fun | 9 => 9 | 4 => 4 | 3 => 3 | n => n, fun | n => n⟩
theorem Try.lays206 : Go.Proofs.Lays.n206 Try.prog Try.lays206_ren := {
  mixed := by kernel_rfl
  f206 := Try.func45.trans (congrArg some (by kernel_rfl))
  t3 := Try.underlying3
  a3 := Try.isAgg3
  z3 := Try.sizeOf3
  v3 := Try.zeroValue3
  t4 := Try.underlying4
  a4 := Try.isAgg4
  z4 := Try.sizeOf4
  v4 := Try.zeroValue4
  t9 := Try.underlying9
  a9 := Try.isAgg9
  z9 := Try.sizeOf9
  v9 := Try.zeroValue9 }
open Go.RowKit Go.Lib in
theorem Try.stringslite_HasPrefix (s p : ByteArray) (w : World) :
    Calls Try.prog 45 #[.string s, .string p] w fun e w' => e = .returned (.bool (Lib.hasPrefix s.data.toList p.data.toList)) ∧ w' = w := Any.stringslite_HasPrefix Try.lays206 s p w
def Try.lays99_ren : Go.Shelf.Ren := ⟨fun | 99 => 29 | 206 => 45 | n => n, fun | 9 => 9 | 4 => 4 | 3 => 3 | n => n, fun | n => n⟩
theorem Try.lays99 : Go.Proofs.Lays.n99 Try.prog Try.lays99_ren := {
  mixed := by kernel_rfl
  f99 := Try.func29.trans (congrArg some (by kernel_rfl))
  f206 := Try.func45.trans (congrArg some (by kernel_rfl))
  t3 := Try.underlying3
  a3 := Try.isAgg3
  z3 := Try.sizeOf3
  v3 := Try.zeroValue3
  t4 := Try.underlying4
  a4 := Try.isAgg4
  z4 := Try.sizeOf4
  v4 := Try.zeroValue4
  t9 := Try.underlying9
  a9 := Try.isAgg9
  z9 := Try.sizeOf9
  v9 := Try.zeroValue9 }
open Go.RowKit Go.Lib in
theorem Try.strings_HasPrefix (s p : ByteArray) (w : World) :
    Calls Try.prog 29 #[.string s, .string p] w fun e w' => e = .returned (.bool (Lib.hasPrefix s.data.toList p.data.toList)) ∧ w' = w := Any.strings_HasPrefix Try.lays99 s p w
end Go.Proofs

/- strings.Index as a callee. -/
namespace Go.Eng
open Go.RowKit Go.Proofs
theorem RdS.val {w : World} {X : Nat → Prop} {ρ : Rho} {v y : Value} (h : RdS w X ρ (.c (.t (.v v))) y) : y = v := by
  rcases h with h | ⟨h, _⟩
  · cases h
  · exact Rd.inv_v h
theorem RdSs.two {w : World} {X : Nat → Prop} {ρ : Rho} {v1 v2 : Value} {vals : List Value} (h : RdSs w X ρ [.c (.t (.v v1)), .c (.t (.v v2))] vals) : vals = [v1, v2] := by
  match vals, h with
  | [a, b], h => rw [RdS.val (h.2 0 _ a rfl rfl), RdS.val (h.2 1 _ b rfl rfl)]
  | [], h => have := h.1; simp at this
  | [_], h => have := h.1; simp at this
  | _ :: _ :: _ :: _, h => have := h.1; simp at this
def sg_strings_Index : Sig := { ps := [.one, .one], bs := [], psh := [.str, .str], rs := [.one], rsh := [.int .i64] }
noncomputable def u_strings_Index (t : ByteArray × ByteArray × Unit) : Option (Int × Unit) := if t.1.size < 4294967281 then some (Lib.index t.1.data.toList t.2.1.data.toList, ()) else none
theorem global0 : IntGlobal Try.prog 0 .i64 := by
  refine ⟨3, #[.int .i64 0], of_decide_eq_true (by kernel_rfl), by kernel_rfl, by kernel_rfl, by kernel_rfl, by kernel_rfl, by kernel_rfl⟩
theorem k_strings_Index : (calleeOf sg_strings_Index u_strings_Index).OK Try.prog 19 := by
  refine libCallee rfl rfl rfl rfl rfl fun t q hq w X F vals hG hv => ?_
  unfold u_strings_Index at hq
  split at hq
  case isFalse => cases hq
  rename_i hs
  cases hq
  have hvals : vals = [.string t.1, .string t.2.1] := RdSs.two hv
  subst hvals
  obtain ⟨_, m, hm⟩ := hG 0 .i64 global0
  refine (Try.strings_Index t.1 t.2.1 m w hs hm).mono ?_
  rintro e w' ⟨rfl, rfl⟩
  exact ⟨_, rfl, .refl _ _, .inr ⟨.v _, rfl⟩⟩
end Go.Eng

namespace Go.Eng
open Go.Proofs
theorem mixed : Try.prog.follows .mixedOrders = true := by kernel_rfl

/-! lexer_digit -/
def sg_lexer_digit : Sig := { ps := [.one], bs := [], psh := [.int Go.IntKind.u8], rs := [.one], rsh := [.bool] }
noncomputable def g_lexer_digit : List (Go.FuncId × Callee) := []
noncomputable def u_lexer_digit (t : (Int × Unit)) : Option (Bool × Unit) :=
  (bif (Go.Eng.leI (48 : Int) t.1) then (some ((Go.Eng.leI t.1 (57 : Int)), ())) else (some (Bool.false, ())))
def h_lexer_digit : HT := .leaf
theorem ok_lexer_digit : TabOK Try.prog [] g_lexer_digit := TabOK.nil
theorem e_lexer_digit : ∀ t, bodyG Try.prog g_lexer_digit [] h_lexer_digit Try.f33 sg_lexer_digit t = u_lexer_digit t := by
  intro t
  kernel_rfl
theorem k_lexer_digit : (calleeOf sg_lexer_digit u_lexer_digit).OK Try.prog 33 := calleeG_ok mixed ok_lexer_digit Try.func33 (by kernel_rfl) (by kernel_rfl) e_lexer_digit

/-! lexer_blank_1 -/
def sg_lexer_blank_1 : Sig := { ps := [.one], bs := [], psh := [.int Go.IntKind.u8], rs := [.one], rsh := [.bool] }
noncomputable def g_lexer_blank_1 : List (Go.FuncId × Callee) := []
noncomputable def u_lexer_blank_1 (t : (Int × Unit)) : Option (Bool × Unit) :=
  (bif (Go.Eng.eqI t.1 (9 : Int)) then (some (Bool.true, ())) else (bif (Go.Eng.eqI t.1 (10 : Int)) then (some (Bool.true, ())) else (bif (Go.Eng.eqI t.1 (13 : Int)) then (some (Bool.true, ())) else (some ((Go.Eng.eqI t.1 (32 : Int)), ())))))
def h_lexer_blank_1 : HT := .leaf
theorem ok_lexer_blank_1 : TabOK Try.prog [] g_lexer_blank_1 := TabOK.nil
theorem e_lexer_blank_1 : ∀ t, bodyG Try.prog g_lexer_blank_1 [] h_lexer_blank_1 Try.f28 sg_lexer_blank_1 t = u_lexer_blank_1 t := by
  intro t
  kernel_rfl
theorem k_lexer_blank_1 : (calleeOf sg_lexer_blank_1 u_lexer_blank_1).OK Try.prog 28 := calleeG_ok mixed ok_lexer_blank_1 Try.func28 (by kernel_rfl) (by kernel_rfl) e_lexer_blank_1

/-! lexer_upper -/
def sg_lexer_upper : Sig := { ps := [.one], bs := [], psh := [.int Go.IntKind.u8], rs := [.one], rsh := [.bool] }
noncomputable def g_lexer_upper : List (Go.FuncId × Callee) := []
noncomputable def u_lexer_upper (t : (Int × Unit)) : Option (Bool × Unit) :=
  (bif (Go.Eng.leI (65 : Int) t.1) then (some ((Go.Eng.leI t.1 (90 : Int)), ())) else (some (Bool.false, ())))
def h_lexer_upper : HT := .leaf
theorem ok_lexer_upper : TabOK Try.prog [] g_lexer_upper := TabOK.nil
theorem e_lexer_upper : ∀ t, bodyG Try.prog g_lexer_upper [] h_lexer_upper Try.f31 sg_lexer_upper t = u_lexer_upper t := by
  intro t
  kernel_rfl
theorem k_lexer_upper : (calleeOf sg_lexer_upper u_lexer_upper).OK Try.prog 31 := calleeG_ok mixed ok_lexer_upper Try.func31 (by kernel_rfl) (by kernel_rfl) e_lexer_upper

/-! lexer_word -/
def sg_lexer_word : Sig := { ps := [.one], bs := [], psh := [.int Go.IntKind.u8], rs := [.one], rsh := [.bool] }
noncomputable def g_lexer_word : List (Go.FuncId × Callee) := [(31, (calleeOf sg_lexer_upper u_lexer_upper)), (33, (calleeOf sg_lexer_digit u_lexer_digit))]
noncomputable def u_lexer_word (t : (Int × Unit)) : Option (Bool × Unit) :=
  (ob (Go.Eng.u_lexer_upper (t.1, ())) fun x0 => (bif x0.1 then (some (Bool.true, ())) else (ob (Go.Eng.u_lexer_digit (t.1, ())) fun x1 => (bif x1.1 then (some (Bool.true, ())) else (bif (Go.Eng.eqI t.1 (95 : Int)) then (some (Bool.true, ())) else (some ((Go.Eng.eqI t.1 (45 : Int)), ())))))))
def h_lexer_word : HT := .leaf
theorem ok_lexer_word : TabOK Try.prog [31, 33] g_lexer_word := (TabOK.cons ⟨_, Try.func31, by kernel_rfl, by kernel_rfl⟩ k_lexer_upper (calleeOf_nat _ _) (fun _ => (calleeOf_pure (by kernel_rfl))) (TabOK.cons ⟨_, Try.func33, by kernel_rfl, by kernel_rfl⟩ k_lexer_digit (calleeOf_nat _ _) (fun _ => (calleeOf_pure (by kernel_rfl))) TabOK.nil))
theorem e_lexer_word : ∀ t, bodyG Try.prog g_lexer_word [31, 33] h_lexer_word Try.f32 sg_lexer_word t = u_lexer_word t := by
  intro t
  kernel_rfl
theorem k_lexer_word : (calleeOf sg_lexer_word u_lexer_word).OK Try.prog 32 := calleeG_ok mixed ok_lexer_word Try.func32 (by kernel_rfl) (by kernel_rfl) e_lexer_word

/-! lexer_inner -/
def sg_lexer_inner : Sig := { ps := [.one], bs := [], psh := [.int Go.IntKind.u8], rs := [.one], rsh := [.bool] }
noncomputable def g_lexer_inner : List (Go.FuncId × Callee) := [(31, (calleeOf sg_lexer_upper u_lexer_upper)), (33, (calleeOf sg_lexer_digit u_lexer_digit))]
noncomputable def u_lexer_inner (t : (Int × Unit)) : Option (Bool × Unit) :=
  (ob (Go.Eng.u_lexer_upper (t.1, ())) fun x0 => (bif x0.1 then (some (Bool.true, ())) else (ob (Go.Eng.u_lexer_digit (t.1, ())) fun x1 => (bif x1.1 then (some (Bool.true, ())) else (some ((Go.Eng.eqI t.1 (95 : Int)), ()))))))
def h_lexer_inner : HT := .leaf
theorem ok_lexer_inner : TabOK Try.prog [31, 33] g_lexer_inner := (TabOK.cons ⟨_, Try.func31, by kernel_rfl, by kernel_rfl⟩ k_lexer_upper (calleeOf_nat _ _) (fun _ => (calleeOf_pure (by kernel_rfl))) (TabOK.cons ⟨_, Try.func33, by kernel_rfl, by kernel_rfl⟩ k_lexer_digit (calleeOf_nat _ _) (fun _ => (calleeOf_pure (by kernel_rfl))) TabOK.nil))
theorem e_lexer_inner : ∀ t, bodyG Try.prog g_lexer_inner [31, 33] h_lexer_inner Try.f36 sg_lexer_inner t = u_lexer_inner t := by
  intro t
  kernel_rfl
theorem k_lexer_inner : (calleeOf sg_lexer_inner u_lexer_inner).OK Try.prog 36 := calleeG_ok mixed ok_lexer_inner Try.func36 (by kernel_rfl) (by kernel_rfl) e_lexer_inner

/-! lexer_run_blank -/
def sg_lexer_run_blank : Sig := { ps := [.one, .one, .one], bs := [], psh := [.str, .int Go.IntKind.i64, .lit (.t (.v (.func (.func 28) #[] #[])))], rs := [.one], rsh := [.int Go.IntKind.i64] }
noncomputable def g_lexer_run_blank : List (Go.FuncId × Callee) := [(28, (calleeOf sg_lexer_blank_1 u_lexer_blank_1))]
noncomputable def u_lexer_run_blank_l0 (s0 : (ByteArray × Int × Unit × Unit)) : Option ((ByteArray × Int × Unit × Unit) ⊕ ((Int × Unit) ⊕ Empty)) :=
  (bif (Go.Eng.ltI s0.2.1 (Go.Eng.lenS s0.1)) then (ob (Go.Eng.idxS s0.1 s0.2.1) fun x1 => (ob (Go.Eng.u_lexer_blank_1 (x1, ())) fun x2 => (bif x2.1 then (some (Sum.inl (s0.1, ((Go.Eng.wr Go.IntKind.i64 (Go.Eng.addI s0.2.1 (1 : Int))), ((), ()))))) else (some (Sum.inr (Sum.inl (s0.2.1, ()))))))) else (some (Sum.inr (Sum.inl (s0.2.1, ())))))
noncomputable def u_lexer_run_blank (t : (ByteArray × (Int × (Unit × Unit)))) : Option (Int × Unit) :=
  (ob (loopU u_lexer_run_blank_l0 (t.1, (t.2.1, ((), ())))) fun q3 => onS q3 (fun t4 => (some (t4.1, ()))) fun q5 => noS q5)
def h_lexer_run_blank : HT := (.seq .leaf (.seq (.one (.loop { items := [.slot 0, .slot 1, .slot 2], shapes := [.str, .int Go.IntKind.i64, .lit (Go.Eng.C.t (Go.Eng.T.v (Go.Value.func (Go.Fn.func 28) #[] #[])))] } [((AEx.exit 0), { items := [.slot 1], shapes := [.int Go.IntKind.i64] })] .leaf)) .leaf))
theorem ok_lexer_run_blank : TabOK Try.prog [28] g_lexer_run_blank := (TabOK.cons ⟨_, Try.func28, by kernel_rfl, by kernel_rfl⟩ k_lexer_blank_1 (calleeOf_nat _ _) (fun _ => (calleeOf_pure (by kernel_rfl))) TabOK.nil)
theorem e_lexer_run_blank : ∀ t, bodyG Try.prog g_lexer_run_blank [28] h_lexer_run_blank Try.f27 sg_lexer_run_blank t = u_lexer_run_blank t := by
  intro t
  kernel_rfl
theorem k_lexer_run_blank : (calleeOf sg_lexer_run_blank u_lexer_run_blank).OK Try.prog 27 := calleeG_ok mixed ok_lexer_run_blank Try.func27 (by kernel_rfl) (by kernel_rfl) e_lexer_run_blank

/-! lexer_run_digit -/
def sg_lexer_run_digit : Sig := { ps := [.one, .one, .one], bs := [], psh := [.str, .int Go.IntKind.i64, .lit (.t (.v (.func (.func 33) #[] #[])))], rs := [.one], rsh := [.int Go.IntKind.i64] }
noncomputable def g_lexer_run_digit : List (Go.FuncId × Callee) := [(33, (calleeOf sg_lexer_digit u_lexer_digit))]
noncomputable def u_lexer_run_digit_l0 (s0 : (ByteArray × Int × Unit × Unit)) : Option ((ByteArray × Int × Unit × Unit) ⊕ ((Int × Unit) ⊕ Empty)) :=
  (bif (Go.Eng.ltI s0.2.1 (Go.Eng.lenS s0.1)) then (ob (Go.Eng.idxS s0.1 s0.2.1) fun x1 => (ob (Go.Eng.u_lexer_digit (x1, ())) fun x2 => (bif x2.1 then (some (Sum.inl (s0.1, ((Go.Eng.wr Go.IntKind.i64 (Go.Eng.addI s0.2.1 (1 : Int))), ((), ()))))) else (some (Sum.inr (Sum.inl (s0.2.1, ()))))))) else (some (Sum.inr (Sum.inl (s0.2.1, ())))))
noncomputable def u_lexer_run_digit (t : (ByteArray × (Int × (Unit × Unit)))) : Option (Int × Unit) :=
  (ob (loopU u_lexer_run_digit_l0 (t.1, (t.2.1, ((), ())))) fun q3 => onS q3 (fun t4 => (some (t4.1, ()))) fun q5 => noS q5)
def h_lexer_run_digit : HT := (.seq .leaf (.seq (.one (.loop { items := [.slot 0, .slot 1, .slot 2], shapes := [.str, .int Go.IntKind.i64, .lit (Go.Eng.C.t (Go.Eng.T.v (Go.Value.func (Go.Fn.func 33) #[] #[])))] } [((AEx.exit 0), { items := [.slot 1], shapes := [.int Go.IntKind.i64] })] .leaf)) .leaf))
theorem ok_lexer_run_digit : TabOK Try.prog [33] g_lexer_run_digit := (TabOK.cons ⟨_, Try.func33, by kernel_rfl, by kernel_rfl⟩ k_lexer_digit (calleeOf_nat _ _) (fun _ => (calleeOf_pure (by kernel_rfl))) TabOK.nil)
theorem e_lexer_run_digit : ∀ t, bodyG Try.prog g_lexer_run_digit [33] h_lexer_run_digit Try.f27 sg_lexer_run_digit t = u_lexer_run_digit t := by
  intro t
  kernel_rfl
theorem k_lexer_run_digit : (calleeOf sg_lexer_run_digit u_lexer_run_digit).OK Try.prog 27 := calleeG_ok mixed ok_lexer_run_digit Try.func27 (by kernel_rfl) (by kernel_rfl) e_lexer_run_digit

/-! lexer_run_word -/
def sg_lexer_run_word : Sig := { ps := [.one, .one, .one], bs := [], psh := [.str, .int Go.IntKind.i64, .lit (.t (.v (.func (.func 32) #[] #[])))], rs := [.one], rsh := [.int Go.IntKind.i64] }
noncomputable def g_lexer_run_word : List (Go.FuncId × Callee) := [(32, (calleeOf sg_lexer_word u_lexer_word))]
noncomputable def u_lexer_run_word_l0 (s0 : (ByteArray × Int × Unit × Unit)) : Option ((ByteArray × Int × Unit × Unit) ⊕ ((Int × Unit) ⊕ Empty)) :=
  (bif (Go.Eng.ltI s0.2.1 (Go.Eng.lenS s0.1)) then (ob (Go.Eng.idxS s0.1 s0.2.1) fun x1 => (ob (Go.Eng.u_lexer_word (x1, ())) fun x2 => (bif x2.1 then (some (Sum.inl (s0.1, ((Go.Eng.wr Go.IntKind.i64 (Go.Eng.addI s0.2.1 (1 : Int))), ((), ()))))) else (some (Sum.inr (Sum.inl (s0.2.1, ()))))))) else (some (Sum.inr (Sum.inl (s0.2.1, ())))))
noncomputable def u_lexer_run_word (t : (ByteArray × (Int × (Unit × Unit)))) : Option (Int × Unit) :=
  (ob (loopU u_lexer_run_word_l0 (t.1, (t.2.1, ((), ())))) fun q3 => onS q3 (fun t4 => (some (t4.1, ()))) fun q5 => noS q5)
def h_lexer_run_word : HT := (.seq .leaf (.seq (.one (.loop { items := [.slot 0, .slot 1, .slot 2], shapes := [.str, .int Go.IntKind.i64, .lit (Go.Eng.C.t (Go.Eng.T.v (Go.Value.func (Go.Fn.func 32) #[] #[])))] } [((AEx.exit 0), { items := [.slot 1], shapes := [.int Go.IntKind.i64] })] .leaf)) .leaf))
theorem ok_lexer_run_word : TabOK Try.prog [32] g_lexer_run_word := (TabOK.cons ⟨_, Try.func32, by kernel_rfl, by kernel_rfl⟩ k_lexer_word (calleeOf_nat _ _) (fun _ => (calleeOf_pure (by kernel_rfl))) TabOK.nil)
theorem e_lexer_run_word : ∀ t, bodyG Try.prog g_lexer_run_word [32] h_lexer_run_word Try.f27 sg_lexer_run_word t = u_lexer_run_word t := by
  intro t
  kernel_rfl
theorem k_lexer_run_word : (calleeOf sg_lexer_run_word u_lexer_run_word).OK Try.prog 27 := calleeG_ok mixed ok_lexer_run_word Try.func27 (by kernel_rfl) (by kernel_rfl) e_lexer_run_word

/-! lexer_run_inner -/
def sg_lexer_run_inner : Sig := { ps := [.one, .one, .one], bs := [], psh := [.str, .int Go.IntKind.i64, .lit (.t (.v (.func (.func 36) #[] #[])))], rs := [.one], rsh := [.int Go.IntKind.i64] }
noncomputable def g_lexer_run_inner : List (Go.FuncId × Callee) := [(36, (calleeOf sg_lexer_inner u_lexer_inner))]
noncomputable def u_lexer_run_inner_l0 (s0 : (ByteArray × Int × Unit × Unit)) : Option ((ByteArray × Int × Unit × Unit) ⊕ ((Int × Unit) ⊕ Empty)) :=
  (bif (Go.Eng.ltI s0.2.1 (Go.Eng.lenS s0.1)) then (ob (Go.Eng.idxS s0.1 s0.2.1) fun x1 => (ob (Go.Eng.u_lexer_inner (x1, ())) fun x2 => (bif x2.1 then (some (Sum.inl (s0.1, ((Go.Eng.wr Go.IntKind.i64 (Go.Eng.addI s0.2.1 (1 : Int))), ((), ()))))) else (some (Sum.inr (Sum.inl (s0.2.1, ()))))))) else (some (Sum.inr (Sum.inl (s0.2.1, ())))))
noncomputable def u_lexer_run_inner (t : (ByteArray × (Int × (Unit × Unit)))) : Option (Int × Unit) :=
  (ob (loopU u_lexer_run_inner_l0 (t.1, (t.2.1, ((), ())))) fun q3 => onS q3 (fun t4 => (some (t4.1, ()))) fun q5 => noS q5)
def h_lexer_run_inner : HT := (.seq .leaf (.seq (.one (.loop { items := [.slot 0, .slot 1, .slot 2], shapes := [.str, .int Go.IntKind.i64, .lit (Go.Eng.C.t (Go.Eng.T.v (Go.Value.func (Go.Fn.func 36) #[] #[])))] } [((AEx.exit 0), { items := [.slot 1], shapes := [.int Go.IntKind.i64] })] .leaf)) .leaf))
theorem ok_lexer_run_inner : TabOK Try.prog [36] g_lexer_run_inner := (TabOK.cons ⟨_, Try.func36, by kernel_rfl, by kernel_rfl⟩ k_lexer_inner (calleeOf_nat _ _) (fun _ => (calleeOf_pure (by kernel_rfl))) TabOK.nil)
theorem e_lexer_run_inner : ∀ t, bodyG Try.prog g_lexer_run_inner [36] h_lexer_run_inner Try.f27 sg_lexer_run_inner t = u_lexer_run_inner t := by
  intro t
  kernel_rfl
theorem k_lexer_run_inner : (calleeOf sg_lexer_run_inner u_lexer_run_inner).OK Try.prog 27 := calleeG_ok mixed ok_lexer_run_inner Try.func27 (by kernel_rfl) (by kernel_rfl) e_lexer_run_inner

/-! lexer_at -/
def sg_lexer_at : Sig := { ps := [.one, .one], bs := [], psh := [.str, .int Go.IntKind.i64], rs := [.one], rsh := [.int Go.IntKind.u8] }
noncomputable def g_lexer_at : List (Go.FuncId × Callee) := []
noncomputable def u_lexer_at (t : (ByteArray × (Int × Unit))) : Option (Int × Unit) :=
  (bif (Go.Eng.ltI t.2.1 (Go.Eng.lenS t.1)) then (ob (Go.Eng.idxS t.1 t.2.1) fun x0 => (some (x0, ()))) else (some ((0 : Int), ())))
def h_lexer_at : HT := .leaf
theorem ok_lexer_at : TabOK Try.prog [] g_lexer_at := TabOK.nil
theorem e_lexer_at : ∀ t, bodyG Try.prog g_lexer_at [] h_lexer_at Try.f37 sg_lexer_at t = u_lexer_at t := by
  intro t
  kernel_rfl
theorem k_lexer_at : (calleeOf sg_lexer_at u_lexer_at).OK Try.prog 37 := calleeG_ok mixed ok_lexer_at Try.func37 (by kernel_rfl) (by kernel_rfl) e_lexer_at

/-! lexer_single -/
def sg_lexer_single : Sig := { ps := [.one], bs := [], psh := [.int Go.IntKind.u8], rs := [.one], rsh := [.int Go.IntKind.i64] }
noncomputable def g_lexer_single : List (Go.FuncId × Callee) := []
noncomputable def u_lexer_single (t : (Int × Unit)) : Option (Int × Unit) :=
  (bif (Go.Eng.eqI t.1 (40 : Int)) then (some ((6 : Int), ())) else (bif (Go.Eng.eqI t.1 (41 : Int)) then (some ((7 : Int), ())) else (bif (Go.Eng.eqI t.1 (44 : Int)) then (some ((8 : Int), ())) else (bif (Go.Eng.eqI t.1 (59 : Int)) then (some ((9 : Int), ())) else (bif (Go.Eng.eqI t.1 (61 : Int)) then (some ((10 : Int), ())) else (bif (Go.Eng.eqI t.1 (36 : Int)) then (some ((11 : Int), ())) else (bif (Go.Eng.eqI t.1 (42 : Int)) then (some ((12 : Int), ())) else (some ((0 : Int), ())))))))))
def h_lexer_single : HT := .leaf
theorem ok_lexer_single : TabOK Try.prog [] g_lexer_single := TabOK.nil
theorem e_lexer_single : ∀ t, bodyG Try.prog g_lexer_single [] h_lexer_single Try.f38 sg_lexer_single t = u_lexer_single t := by
  intro t
  kernel_rfl
theorem k_lexer_single : (calleeOf sg_lexer_single u_lexer_single).OK Try.prog 38 := calleeG_ok mixed ok_lexer_single Try.func38 (by kernel_rfl) (by kernel_rfl) e_lexer_single

/-! lexer_sign -/
def sg_lexer_sign : Sig := { ps := [.one, .one], bs := [], psh := [.str, .int Go.IntKind.i64], rs := [.one], rsh := [.int Go.IntKind.i64] }
noncomputable def g_lexer_sign : List (Go.FuncId × Callee) := [(37, (calleeOf sg_lexer_at u_lexer_at))]
noncomputable def u_lexer_sign (t : (ByteArray × (Int × Unit))) : Option (Int × Unit) :=
  (ob (Go.Eng.u_lexer_at (t.1, (t.2.1, ()))) fun x0 => (bif (Go.Eng.eqI x0.1 (43 : Int)) then (some ((Go.Eng.wr Go.IntKind.i64 (Go.Eng.addI t.2.1 (1 : Int))), ())) else (bif (Go.Eng.eqI x0.1 (45 : Int)) then (some ((Go.Eng.wr Go.IntKind.i64 (Go.Eng.addI t.2.1 (1 : Int))), ())) else (some (t.2.1, ())))))
def h_lexer_sign : HT := .leaf
theorem ok_lexer_sign : TabOK Try.prog [37] g_lexer_sign := (TabOK.cons ⟨_, Try.func37, by kernel_rfl, by kernel_rfl⟩ k_lexer_at (calleeOf_nat _ _) (fun _ => (calleeOf_pure (by kernel_rfl))) TabOK.nil)
theorem e_lexer_sign : ∀ t, bodyG Try.prog g_lexer_sign [37] h_lexer_sign Try.f50 sg_lexer_sign t = u_lexer_sign t := by
  intro t
  kernel_rfl
theorem k_lexer_sign : (calleeOf sg_lexer_sign u_lexer_sign).OK Try.prog 50 := calleeG_ok mixed ok_lexer_sign Try.func50 (by kernel_rfl) (by kernel_rfl) e_lexer_sign

/-! lexer_number -/
def sg_lexer_number : Sig := { ps := [.one, .one], bs := [], psh := [.str, .int Go.IntKind.i64], rs := [.one], rsh := [.int Go.IntKind.i64] }
noncomputable def g_lexer_number : List (Go.FuncId × Callee) := [(50, (calleeOf sg_lexer_sign u_lexer_sign)), (27, (orC (isLit 2 28) (calleeOf sg_lexer_run_blank u_lexer_run_blank) (orC (isLit 2 33) (calleeOf sg_lexer_run_digit u_lexer_run_digit) (orC (isLit 2 32) (calleeOf sg_lexer_run_word u_lexer_run_word) (calleeOf sg_lexer_run_inner u_lexer_run_inner))))), (33, (calleeOf sg_lexer_digit u_lexer_digit)), (37, (calleeOf sg_lexer_at u_lexer_at))]
noncomputable def u_lexer_number (t : (ByteArray × (Int × Unit))) : Option (Int × Unit) :=
  (ob (Go.Eng.u_lexer_sign (t.1, (t.2.1, ()))) fun x0 => (ob (Go.Eng.u_lexer_run_digit (t.1, (x0.1, ((), ())))) fun x1 => (bif (Go.Eng.eqI x1.1 x0.1) then (some (t.2.1, ())) else (ob (Go.Eng.u_lexer_at (t.1, (x1.1, ()))) fun x2 => (bif (Bool.not (Go.Eng.eqI x2.1 (46 : Int))) then (some (x1.1, ())) else (ob (Go.Eng.u_lexer_run_digit (t.1, ((Go.Eng.wr Go.IntKind.i64 (Go.Eng.addI x1.1 (1 : Int))), ((), ())))) fun x3 => (ob (Go.Eng.u_lexer_at (t.1, (x3.1, ()))) fun x4 => (bif (Bool.not (Go.Eng.eqI x4.1 (69 : Int))) then (some (x3.1, ())) else (ob (Go.Eng.u_lexer_sign (t.1, ((Go.Eng.wr Go.IntKind.i64 (Go.Eng.addI x3.1 (1 : Int))), ()))) fun x5 => (ob (Go.Eng.u_lexer_run_digit (t.1, (x5.1, ((), ())))) fun x6 => (bif (Go.Eng.ltI x5.1 x6.1) then (some (x6.1, ())) else (some (x3.1, ())))))))))))))
def h_lexer_number : HT := .leaf
theorem ok_lexer_number : TabOK Try.prog [50, 27, 33, 37] g_lexer_number := (TabOK.cons ⟨_, Try.func50, by kernel_rfl, by kernel_rfl⟩ k_lexer_sign (calleeOf_nat _ _) (fun _ => (calleeOf_pure (by kernel_rfl))) (TabOK.cons ⟨_, Try.func27, by kernel_rfl, by kernel_rfl⟩ (orC_ok k_lexer_run_blank (orC_ok k_lexer_run_digit (orC_ok k_lexer_run_word k_lexer_run_inner))) (orC_nat (calleeOf_nat _ _) (orC_nat (calleeOf_nat _ _) (orC_nat (calleeOf_nat _ _) (calleeOf_nat _ _)))) (fun _ => (orC_pure (calleeOf_pure (by kernel_rfl)) (orC_pure (calleeOf_pure (by kernel_rfl)) (orC_pure (calleeOf_pure (by kernel_rfl)) (calleeOf_pure (by kernel_rfl)))))) (TabOK.cons ⟨_, Try.func33, by kernel_rfl, by kernel_rfl⟩ k_lexer_digit (calleeOf_nat _ _) (fun _ => (calleeOf_pure (by kernel_rfl))) (TabOK.cons ⟨_, Try.func37, by kernel_rfl, by kernel_rfl⟩ k_lexer_at (calleeOf_nat _ _) (fun _ => (calleeOf_pure (by kernel_rfl))) TabOK.nil))))
theorem e_lexer_number : ∀ t, bodyG Try.prog g_lexer_number [50, 27, 33, 37] h_lexer_number Try.f34 sg_lexer_number t = u_lexer_number t := by
  intro t
  kernel_rfl
theorem k_lexer_number : (calleeOf sg_lexer_number u_lexer_number).OK Try.prog 34 := calleeG_ok mixed ok_lexer_number Try.func34 (by kernel_rfl) (by kernel_rfl) e_lexer_number

/-! lexer_quoted -/
def sg_lexer_quoted : Sig := { ps := [.one, .one], bs := [], psh := [.str, .int Go.IntKind.i64], rs := [.one, .one], rsh := [.int Go.IntKind.i64, .str] }
noncomputable def g_lexer_quoted : List (Go.FuncId × Callee) := [(37, (calleeOf sg_lexer_at u_lexer_at))]
noncomputable def u_lexer_quoted_l0 (s0 : (ByteArray × Int × List T × Int × Unit)) : Option ((ByteArray × Int × List T × Int × Unit) ⊕ ((Int × ByteArray × Unit) ⊕ ((Int × Unit) ⊕ Empty))) :=
  (bif (Go.Eng.ltI s0.2.2.2.1 (Go.Eng.lenS s0.1)) then (ob (Go.Eng.idxS s0.1 s0.2.2.2.1) fun x1 => (ob (α := ((Int × ByteArray × Unit) ⊕ ((ByteArray × Int × List T × Int × Int × Unit) ⊕ Empty))) (bif (Go.Eng.ltI x1 (32 : Int)) then (some (Sum.inl (s0.2.1, ((ByteArray.mk #[]), ())))) else (bif (Go.Eng.ltI (126 : Int) x1) then (some (Sum.inl (s0.2.1, ((ByteArray.mk #[]), ())))) else (bif (Go.Eng.eqI x1 (39 : Int)) then (ob (Go.Eng.u_lexer_at (s0.1, ((Go.Eng.wr Go.IntKind.i64 (Go.Eng.addI s0.2.2.2.1 (1 : Int))), ()))) fun x2 => (bif (Bool.not (Go.Eng.eqI x2.1 (39 : Int))) then (ob (Go.Eng.strOf s0.2.2.1) fun x3 => (some (Sum.inl ((Go.Eng.wr Go.IntKind.i64 (Go.Eng.addI s0.2.2.2.1 (1 : Int))), (x3, ()))))) else (bif (Go.Eng.eqI x1 (39 : Int)) then (some (Sum.inr (Sum.inl (s0.1, (s0.2.1, (s0.2.2.1, ((Go.Eng.wr Go.IntKind.i64 (Go.Eng.addI s0.2.2.2.1 (1 : Int))), (x1, ())))))))) else (some (Sum.inr (Sum.inl (s0.1, (s0.2.1, (s0.2.2.1, (s0.2.2.2.1, (x1, ()))))))))))) else (bif (Go.Eng.eqI x1 (39 : Int)) then (some (Sum.inr (Sum.inl (s0.1, (s0.2.1, (s0.2.2.1, ((Go.Eng.wr Go.IntKind.i64 (Go.Eng.addI s0.2.2.2.1 (1 : Int))), (x1, ())))))))) else (some (Sum.inr (Sum.inl (s0.1, (s0.2.1, (s0.2.2.1, (s0.2.2.2.1, (x1, ())))))))))))) fun q4 => onS q4 (fun t5 => (some (Sum.inr (Sum.inl (t5.1, (t5.2.1, ())))))) fun q6 => onS q6 (fun t7 => (ob (Go.Eng.room t7.2.2.1 [(Go.Eng.T.v (Go.Value.int Go.IntKind.u8 t7.2.2.2.2.1))] 1) fun x8 => (some (Sum.inl (t7.1, (t7.2.1, (x8, ((Go.Eng.wr Go.IntKind.i64 (Go.Eng.addI t7.2.2.2.1 (1 : Int))), ())))))))) fun q9 => noS q9)) else (some (Sum.inr (Sum.inr (Sum.inl (s0.2.1, ()))))))
noncomputable def u_lexer_quoted (t : (ByteArray × (Int × Unit))) : Option (Int × (ByteArray × Unit)) :=
  (ob (loopU u_lexer_quoted_l0 (t.1, (t.2.1, ([], ((Go.Eng.wr Go.IntKind.i64 (Go.Eng.addI t.2.1 (1 : Int))), ()))))) fun q10 => onS q10 (fun t11 => (some (t11.1, (t11.2.1, ())))) fun q12 => onS q12 (fun t13 => (some (t13.1, ((ByteArray.mk #[]), ())))) fun q14 => noS q14)
def h_lexer_quoted : HT := (.seq .leaf (.seq .leaf (.seq (.seq .leaf (.one (.loop { items := [.slot 0, .slot 1, .slot 6, .slot 7], shapes := [.str, .int Go.IntKind.i64, .row 5 1 50, .int Go.IntKind.i64] } [(AEx.ret, { items := [.slot 4, .slot 5], shapes := [.int Go.IntKind.i64, .str] }), ((AEx.exit 0), { items := [.slot 1], shapes := [.int Go.IntKind.i64] })] (.seq .leaf (.seq (.one (.seq .leaf (.seq (.join [(AEx.ret, { items := [.slot 4, .slot 5], shapes := [.int Go.IntKind.i64, .str] }), (AEx.normal, { items := [.slot 0, .slot 1, .slot 6, .slot 7, .slot 8], shapes := [.str, .int Go.IntKind.i64, .row 5 1 50, .int Go.IntKind.i64, .int Go.IntKind.u8] })] .leaf) .leaf))) .leaf))))) .leaf)))
theorem ok_lexer_quoted : TabOK Try.prog [37] g_lexer_quoted := (TabOK.cons ⟨_, Try.func37, by kernel_rfl, by kernel_rfl⟩ k_lexer_at (calleeOf_nat _ _) (fun _ => (calleeOf_pure (by kernel_rfl))) TabOK.nil)
theorem e_lexer_quoted : ∀ t, bodyG Try.prog g_lexer_quoted [37] h_lexer_quoted Try.f35 sg_lexer_quoted t = u_lexer_quoted t := by
  intro t
  kernel_rfl
theorem k_lexer_quoted : (calleeOf sg_lexer_quoted u_lexer_quoted).OK Try.prog 35 := calleeG_ok mixed ok_lexer_quoted Try.func35 (by kernel_rfl) (by kernel_rfl) e_lexer_quoted

/-! internal_stringslite_HasPrefix -/
def sg_internal_stringslite_HasPrefix : Sig := { ps := [.one, .one], bs := [], psh := [.str, .str], rs := [.one], rsh := [.bool] }
noncomputable def g_internal_stringslite_HasPrefix : List (Go.FuncId × Callee) := []
noncomputable def u_internal_stringslite_HasPrefix (t : (ByteArray × (ByteArray × Unit))) : Option (Bool × Unit) :=
  (bif (Go.Eng.leI (Go.Eng.lenS t.2.1) (Go.Eng.lenS t.1)) then (ob (Go.Eng.subS t.1 (0 : Int) (Go.Eng.lenS t.2.1)) fun x0 => (some ((Go.Eng.eqS x0 t.2.1), ()))) else (some (Bool.false, ())))
def h_internal_stringslite_HasPrefix : HT := .leaf
theorem ok_internal_stringslite_HasPrefix : TabOK Try.prog [] g_internal_stringslite_HasPrefix := TabOK.nil
theorem e_internal_stringslite_HasPrefix : ∀ t, bodyG Try.prog g_internal_stringslite_HasPrefix [] h_internal_stringslite_HasPrefix Try.f45 sg_internal_stringslite_HasPrefix t = u_internal_stringslite_HasPrefix t := by
  intro t
  kernel_rfl
theorem k_internal_stringslite_HasPrefix : (calleeOf sg_internal_stringslite_HasPrefix u_internal_stringslite_HasPrefix).OK Try.prog 45 := calleeG_ok mixed ok_internal_stringslite_HasPrefix Try.func45 (by kernel_rfl) (by kernel_rfl) e_internal_stringslite_HasPrefix

/-! strings_HasPrefix -/
def sg_strings_HasPrefix : Sig := { ps := [.one, .one], bs := [], psh := [.str, .str], rs := [.one], rsh := [.bool] }
noncomputable def g_strings_HasPrefix : List (Go.FuncId × Callee) := [(45, (calleeOf sg_internal_stringslite_HasPrefix u_internal_stringslite_HasPrefix))]
noncomputable def u_strings_HasPrefix (t : (ByteArray × (ByteArray × Unit))) : Option (Bool × Unit) :=
  (ob (Go.Eng.u_internal_stringslite_HasPrefix (t.1, (t.2.1, ()))) fun x0 => (some (x0.1, ())))
def h_strings_HasPrefix : HT := .leaf
theorem ok_strings_HasPrefix : TabOK Try.prog [45] g_strings_HasPrefix := (TabOK.cons ⟨_, Try.func45, by kernel_rfl, by kernel_rfl⟩ k_internal_stringslite_HasPrefix (calleeOf_nat _ _) (fun _ => (calleeOf_pure (by kernel_rfl))) TabOK.nil)
theorem e_strings_HasPrefix : ∀ t, bodyG Try.prog g_strings_HasPrefix [45] h_strings_HasPrefix Try.f29 sg_strings_HasPrefix t = u_strings_HasPrefix t := by
  intro t
  kernel_rfl
theorem k_strings_HasPrefix : (calleeOf sg_strings_HasPrefix u_strings_HasPrefix).OK Try.prog 29 := calleeG_ok mixed ok_strings_HasPrefix Try.func29 (by kernel_rfl) (by kernel_rfl) e_strings_HasPrefix

/-! lexer_token -/
def sg_lexer_token : Sig := { ps := [.one, .one], bs := [], psh := [.str, .int Go.IntKind.i64], rs := [.agg 3, .one], rsh := [.int Go.IntKind.i64, .str, .int Go.IntKind.i64, .int Go.IntKind.i64] }
noncomputable def g_lexer_token : List (Go.FuncId × Callee) := [(31, (calleeOf sg_lexer_upper u_lexer_upper)), (27, (orC (isLit 2 28) (calleeOf sg_lexer_run_blank u_lexer_run_blank) (orC (isLit 2 33) (calleeOf sg_lexer_run_digit u_lexer_run_digit) (orC (isLit 2 32) (calleeOf sg_lexer_run_word u_lexer_run_word) (calleeOf sg_lexer_run_inner u_lexer_run_inner))))), (32, (calleeOf sg_lexer_word u_lexer_word)), (33, (calleeOf sg_lexer_digit u_lexer_digit)), (34, (calleeOf sg_lexer_number u_lexer_number)), (35, (calleeOf sg_lexer_quoted u_lexer_quoted)), (36, (calleeOf sg_lexer_inner u_lexer_inner)), (37, (calleeOf sg_lexer_at u_lexer_at)), (38, (calleeOf sg_lexer_single u_lexer_single))]
noncomputable def u_lexer_token (t : (ByteArray × (Int × Unit))) : Option (Int × (ByteArray × (Int × (Int × Unit)))) :=
  (ob (Go.Eng.idxS t.1 t.2.1) fun x0 => (ob (α := ((Unit × Unit × Int × Int × ByteArray × Int × Int × ByteArray × Int × Unit) ⊕ ((Unit × Int × Int × ByteArray × Int × Unit) ⊕ Empty))) (ob (Go.Eng.u_lexer_upper (x0, ())) fun x1 => (bif x1.1 then (ob (Go.Eng.u_lexer_run_word (t.1, (t.2.1, ((), ())))) fun x2 => (ob (Go.Eng.subS t.1 t.2.1 x2.1) fun x3 => (some (Sum.inl ((), ((), (x2.1, ((0 : Int), ((ByteArray.mk #[]), ((0 : Int), ((1 : Int), (x3, (t.2.1, ()))))))))))))) else (ob (Go.Eng.u_lexer_digit (x0, ())) fun x4 => (bif x4.1 then (ob (Go.Eng.u_lexer_number (t.1, (t.2.1, ()))) fun x5 => (ob (Go.Eng.subS t.1 t.2.1 x5.1) fun x6 => (some (Sum.inl ((), ((), (x5.1, ((0 : Int), ((ByteArray.mk #[]), ((0 : Int), ((2 : Int), (x6, (t.2.1, ()))))))))))))) else (bif (Go.Eng.eqI x0 (43 : Int)) then (ob (Go.Eng.u_lexer_number (t.1, (t.2.1, ()))) fun x7 => (ob (Go.Eng.subS t.1 t.2.1 x7.1) fun x8 => (some (Sum.inl ((), ((), (x7.1, ((0 : Int), ((ByteArray.mk #[]), ((0 : Int), ((2 : Int), (x8, (t.2.1, ()))))))))))))) else (bif (Go.Eng.eqI x0 (45 : Int)) then (ob (Go.Eng.u_lexer_number (t.1, (t.2.1, ()))) fun x9 => (ob (Go.Eng.subS t.1 t.2.1 x9.1) fun x10 => (some (Sum.inl ((), ((), (x9.1, ((0 : Int), ((ByteArray.mk #[]), ((0 : Int), ((2 : Int), (x10, (t.2.1, ()))))))))))))) else (bif (Go.Eng.eqI x0 (39 : Int)) then (ob (Go.Eng.u_lexer_quoted (t.1, (t.2.1, ()))) fun x11 => (some (Sum.inl ((), ((), (x11.1, ((0 : Int), ((ByteArray.mk #[]), ((0 : Int), ((3 : Int), (x11.2.1, (t.2.1, ())))))))))))) else (bif (Go.Eng.eqI x0 (46 : Int)) then (ob (Go.Eng.u_lexer_run_inner (t.1, ((Go.Eng.wr Go.IntKind.i64 (Go.Eng.addI t.2.1 (1 : Int))), ((), ())))) fun x12 => (ob (Go.Eng.u_lexer_at (t.1, ((Go.Eng.wr Go.IntKind.i64 (Go.Eng.addI t.2.1 (1 : Int))), ()))) fun x13 => (ob (Go.Eng.u_lexer_upper (x13.1, ())) fun x14 => (bif (Bool.not x14.1) then (some (Sum.inr (Sum.inl ((), (t.2.1, ((0 : Int), ((ByteArray.mk #[]), (t.2.1, ())))))))) else (ob (Go.Eng.u_lexer_at (t.1, (x12.1, ()))) fun x15 => (bif (Bool.not (Go.Eng.eqI x15.1 (46 : Int))) then (some (Sum.inr (Sum.inl ((), (t.2.1, ((0 : Int), ((ByteArray.mk #[]), (t.2.1, ())))))))) else (ob (Go.Eng.subS t.1 (Go.Eng.wr Go.IntKind.i64 (Go.Eng.addI t.2.1 (1 : Int))) x12.1) fun x16 => (some (Sum.inl ((), ((), ((Go.Eng.wr Go.IntKind.i64 (Go.Eng.addI x12.1 (1 : Int))), ((0 : Int), ((ByteArray.mk #[]), ((0 : Int), ((4 : Int), (x16, (t.2.1, ())))))))))))))))))) else (bif (Go.Eng.eqI x0 (35 : Int)) then (ob (Go.Eng.u_lexer_run_digit (t.1, ((Go.Eng.wr Go.IntKind.i64 (Go.Eng.addI t.2.1 (1 : Int))), ((), ())))) fun x17 => (bif (Go.Eng.eqI x17.1 (Go.Eng.wr Go.IntKind.i64 (Go.Eng.addI t.2.1 (1 : Int)))) then (some (Sum.inr (Sum.inl ((), (t.2.1, ((0 : Int), ((ByteArray.mk #[]), (t.2.1, ())))))))) else (ob (Go.Eng.subS t.1 (Go.Eng.wr Go.IntKind.i64 (Go.Eng.addI t.2.1 (1 : Int))) x17.1) fun x18 => (some (Sum.inl ((), ((), (x17.1, ((0 : Int), ((ByteArray.mk #[]), ((0 : Int), ((5 : Int), (x18, (t.2.1, ())))))))))))))) else (ob (Go.Eng.u_lexer_single (x0, ())) fun x19 => (bif (Bool.not (Go.Eng.eqI x19.1 (0 : Int))) then (ob (Go.Eng.u_lexer_single (x0, ())) fun x20 => (some (Sum.inl ((), ((), ((Go.Eng.wr Go.IntKind.i64 (Go.Eng.addI t.2.1 (1 : Int))), ((0 : Int), ((ByteArray.mk #[]), ((0 : Int), (x20.1, ((ByteArray.mk #[]), (t.2.1, ())))))))))))) else (some (Sum.inl ((), ((), (t.2.1, ((0 : Int), ((ByteArray.mk #[]), ((0 : Int), ((0 : Int), ((ByteArray.mk #[]), (t.2.1, ())))))))))))))))))))))) fun q21 => onS q21 (fun t22 => (some (t22.2.2.2.2.2.2.1, (t22.2.2.2.2.2.2.2.1, (t22.2.2.2.2.2.2.2.2.1, (t22.2.2.1, ())))))) fun q23 => onS q23 (fun t24 => (some (t24.2.2.1, (t24.2.2.2.1, (t24.2.2.2.2.1, (t24.2.1, ())))))) fun q25 => noS q25))
def h_lexer_token : HT := (.seq .leaf (.seq .leaf (.seq .leaf (.seq .leaf (.seq (.join [(AEx.normal, { items := [.slot 4, .slot 6, .slot 8, .box 4 3, .box 6 3], shapes := [.lit (Go.Eng.C.box 4 0), .lit (Go.Eng.C.box 6 0), .int Go.IntKind.i64, .int Go.IntKind.i64, .str, .int Go.IntKind.i64, .int Go.IntKind.i64, .str, .int Go.IntKind.i64] }), (AEx.ret, { items := [.slot 4, .slot 5, .box 4 3], shapes := [.lit (Go.Eng.C.box 4 0), .int Go.IntKind.i64, .int Go.IntKind.i64, .str, .int Go.IntKind.i64] })] .leaf) .leaf)))))
theorem ok_lexer_token : TabOK Try.prog [31, 27, 32, 33, 34, 35, 36, 37, 38] g_lexer_token := (TabOK.cons ⟨_, Try.func31, by kernel_rfl, by kernel_rfl⟩ k_lexer_upper (calleeOf_nat _ _) (fun _ => (calleeOf_pure (by kernel_rfl))) (TabOK.cons ⟨_, Try.func27, by kernel_rfl, by kernel_rfl⟩ (orC_ok k_lexer_run_blank (orC_ok k_lexer_run_digit (orC_ok k_lexer_run_word k_lexer_run_inner))) (orC_nat (calleeOf_nat _ _) (orC_nat (calleeOf_nat _ _) (orC_nat (calleeOf_nat _ _) (calleeOf_nat _ _)))) (fun _ => (orC_pure (calleeOf_pure (by kernel_rfl)) (orC_pure (calleeOf_pure (by kernel_rfl)) (orC_pure (calleeOf_pure (by kernel_rfl)) (calleeOf_pure (by kernel_rfl)))))) (TabOK.cons ⟨_, Try.func32, by kernel_rfl, by kernel_rfl⟩ k_lexer_word (calleeOf_nat _ _) (fun _ => (calleeOf_pure (by kernel_rfl))) (TabOK.cons ⟨_, Try.func33, by kernel_rfl, by kernel_rfl⟩ k_lexer_digit (calleeOf_nat _ _) (fun _ => (calleeOf_pure (by kernel_rfl))) (TabOK.cons ⟨_, Try.func34, by kernel_rfl, by kernel_rfl⟩ k_lexer_number (calleeOf_nat _ _) (fun _ => (calleeOf_pure (by kernel_rfl))) (TabOK.cons ⟨_, Try.func35, by kernel_rfl, by kernel_rfl⟩ k_lexer_quoted (calleeOf_nat _ _) (fun _ => (calleeOf_pure (by kernel_rfl))) (TabOK.cons ⟨_, Try.func36, by kernel_rfl, by kernel_rfl⟩ k_lexer_inner (calleeOf_nat _ _) (fun _ => (calleeOf_pure (by kernel_rfl))) (TabOK.cons ⟨_, Try.func37, by kernel_rfl, by kernel_rfl⟩ k_lexer_at (calleeOf_nat _ _) (fun _ => (calleeOf_pure (by kernel_rfl))) (TabOK.cons ⟨_, Try.func38, by kernel_rfl, by kernel_rfl⟩ k_lexer_single (calleeOf_nat _ _) (fun _ => (calleeOf_pure (by kernel_rfl))) TabOK.nil)))))))))
theorem e_lexer_token : ∀ t, bodyG Try.prog g_lexer_token [31, 27, 32, 33, 34, 35, 36, 37, 38] h_lexer_token Try.f20 sg_lexer_token t = u_lexer_token t := by
  intro t
  kernel_rfl
theorem k_lexer_token : (calleeOf sg_lexer_token u_lexer_token).OK Try.prog 20 := calleeG_ok mixed ok_lexer_token Try.func20 (by kernel_rfl) (by kernel_rfl) e_lexer_token

/-! ref23_upper -/
def sg_ref23_upper : Sig := { ps := [.one], bs := [], psh := [.int Go.IntKind.u8], rs := [.one], rsh := [.bool] }
noncomputable def g_ref23_upper : List (Go.FuncId × Callee) := []
noncomputable def u_ref23_upper (t : (Int × Unit)) : Option (Bool × Unit) :=
  (bif (Go.Eng.leI (65 : Int) t.1) then (some ((Go.Eng.leI t.1 (90 : Int)), ())) else (some (Bool.false, ())))
def h_ref23_upper : HT := .leaf
theorem ok_ref23_upper : TabOK Try.prog [] g_ref23_upper := TabOK.nil
theorem e_ref23_upper : ∀ t, bodyG Try.prog g_ref23_upper [] h_ref23_upper Try.f42 sg_ref23_upper t = u_ref23_upper t := by
  intro t
  kernel_rfl
theorem k_ref23_upper : (calleeOf sg_ref23_upper u_ref23_upper).OK Try.prog 42 := calleeG_ok mixed ok_ref23_upper Try.func42 (by kernel_rfl) (by kernel_rfl) e_ref23_upper

/-! ref23_digit -/
def sg_ref23_digit : Sig := { ps := [.one], bs := [], psh := [.int Go.IntKind.u8], rs := [.one], rsh := [.bool] }
noncomputable def g_ref23_digit : List (Go.FuncId × Callee) := []
noncomputable def u_ref23_digit (t : (Int × Unit)) : Option (Bool × Unit) :=
  (bif (Go.Eng.leI (48 : Int) t.1) then (some ((Go.Eng.leI t.1 (57 : Int)), ())) else (some (Bool.false, ())))
def h_ref23_digit : HT := .leaf
theorem ok_ref23_digit : TabOK Try.prog [] g_ref23_digit := TabOK.nil
theorem e_ref23_digit : ∀ t, bodyG Try.prog g_ref23_digit [] h_ref23_digit Try.f43 sg_ref23_digit t = u_ref23_digit t := by
  intro t
  kernel_rfl
theorem k_ref23_digit : (calleeOf sg_ref23_digit u_ref23_digit).OK Try.prog 43 := calleeG_ok mixed ok_ref23_digit Try.func43 (by kernel_rfl) (by kernel_rfl) e_ref23_digit

/-! ref23_space -/
def sg_ref23_space : Sig := { ps := [.one], bs := [], psh := [.int Go.IntKind.u8], rs := [.one], rsh := [.bool] }
noncomputable def g_ref23_space : List (Go.FuncId × Callee) := []
noncomputable def u_ref23_space (t : (Int × Unit)) : Option (Bool × Unit) :=
  (bif (Go.Eng.eqI t.1 (32 : Int)) then (some (Bool.true, ())) else (bif (Go.Eng.eqI t.1 (9 : Int)) then (some (Bool.true, ())) else (bif (Go.Eng.eqI t.1 (10 : Int)) then (some (Bool.true, ())) else (some ((Go.Eng.eqI t.1 (13 : Int)), ())))))
def h_ref23_space : HT := .leaf
theorem ok_ref23_space : TabOK Try.prog [] g_ref23_space := TabOK.nil
theorem e_ref23_space : ∀ t, bodyG Try.prog g_ref23_space [] h_ref23_space Try.f39 sg_ref23_space t = u_ref23_space t := by
  intro t
  kernel_rfl
theorem k_ref23_space : (calleeOf sg_ref23_space u_ref23_space).OK Try.prog 39 := calleeG_ok mixed ok_ref23_space Try.func39 (by kernel_rfl) (by kernel_rfl) e_ref23_space

/-! ref23_comment -/
def sg_ref23_comment : Sig := { ps := [.one], bs := [], psh := [.str], rs := [.one], rsh := [.int Go.IntKind.i64] }
noncomputable def g_ref23_comment : List (Go.FuncId × Callee) := []
noncomputable def u_ref23_comment_l0 (s1 : (ByteArray × Int × Unit)) : Option ((ByteArray × Int × Unit) ⊕ ((Int × Unit) ⊕ ((Unit) ⊕ Empty))) :=
  (bif (Go.Eng.ltI (Go.Eng.wr Go.IntKind.i64 (Go.Eng.addI s1.2.1 (1 : Int))) (Go.Eng.lenS s1.1)) then (ob (Go.Eng.subS s1.1 s1.2.1 (Go.Eng.wr Go.IntKind.i64 (Go.Eng.addI s1.2.1 (2 : Int)))) fun x2 => (bif (Go.Eng.eqS x2 (ByteArray.mk #[42, 47])) then (some (Sum.inr (Sum.inl ((Go.Eng.wr Go.IntKind.i64 (Go.Eng.addI s1.2.1 (2 : Int))), ())))) else (some (Sum.inl (s1.1, ((Go.Eng.wr Go.IntKind.i64 (Go.Eng.addI s1.2.1 (1 : Int))), ())))))) else (some (Sum.inr (Sum.inr (Sum.inl ())))))
noncomputable def u_ref23_comment (t : (ByteArray × Unit)) : Option (Int × Unit) :=
  (bif (Go.Eng.ltI (Go.Eng.lenS t.1) (2 : Int)) then (some ((0 : Int), ())) else (ob (Go.Eng.subS t.1 (0 : Int) (2 : Int)) fun x0 => (bif (Bool.not (Go.Eng.eqS x0 (ByteArray.mk #[47, 42]))) then (some ((0 : Int), ())) else (ob (loopU u_ref23_comment_l0 (t.1, ((2 : Int), ()))) fun q3 => onS q3 (fun t4 => (some (t4.1, ()))) fun q5 => onS q5 (fun t6 => (some ((0 : Int), ()))) fun q7 => noS q7))))
def h_ref23_comment : HT := (.seq .leaf (.seq .leaf (.seq (.seq .leaf (.one (.loop { items := [.slot 0, .slot 3], shapes := [.str, .int Go.IntKind.i64] } [(AEx.ret, { items := [.slot 2], shapes := [.int Go.IntKind.i64] }), ((AEx.exit 0), { items := [], shapes := [] })] .leaf))) .leaf)))
theorem ok_ref23_comment : TabOK Try.prog [] g_ref23_comment := TabOK.nil
theorem e_ref23_comment : ∀ t, bodyG Try.prog g_ref23_comment [] h_ref23_comment Try.f40 sg_ref23_comment t = u_ref23_comment t := by
  intro t
  kernel_rfl
theorem k_ref23_comment : (calleeOf sg_ref23_comment u_ref23_comment).OK Try.prog 40 := calleeG_ok mixed ok_ref23_comment Try.func40 (by kernel_rfl) (by kernel_rfl) e_ref23_comment

/-! ref23_sign -/
def sg_ref23_sign : Sig := { ps := [.one], bs := [], psh := [.str], rs := [.one], rsh := [.int Go.IntKind.i64] }
noncomputable def g_ref23_sign : List (Go.FuncId × Callee) := []
noncomputable def u_ref23_sign (t : (ByteArray × Unit)) : Option (Int × Unit) :=
  (bif (Go.Eng.ltI (0 : Int) (Go.Eng.lenS t.1)) then (ob (Go.Eng.idxS t.1 (0 : Int)) fun x0 => (bif (Go.Eng.eqI x0 (43 : Int)) then (some ((1 : Int), ())) else (ob (Go.Eng.idxS t.1 (0 : Int)) fun x1 => (bif (Go.Eng.eqI x1 (45 : Int)) then (some ((1 : Int), ())) else (some ((0 : Int), ())))))) else (some ((0 : Int), ())))
def h_ref23_sign : HT := .leaf
theorem ok_ref23_sign : TabOK Try.prog [] g_ref23_sign := TabOK.nil
theorem e_ref23_sign : ∀ t, bodyG Try.prog g_ref23_sign [] h_ref23_sign Try.f44 sg_ref23_sign t = u_ref23_sign t := by
  intro t
  kernel_rfl
theorem k_ref23_sign : (calleeOf sg_ref23_sign u_ref23_sign).OK Try.prog 44 := calleeG_ok mixed ok_ref23_sign Try.func44 (by kernel_rfl) (by kernel_rfl) e_ref23_sign

/-! ref23_digits -/
def sg_ref23_digits : Sig := { ps := [.one], bs := [], psh := [.str], rs := [.one], rsh := [.int Go.IntKind.i64] }
noncomputable def g_ref23_digits : List (Go.FuncId × Callee) := [(43, (calleeOf sg_ref23_digit u_ref23_digit))]
noncomputable def u_ref23_digits_l0 (s0 : (ByteArray × Int × Unit)) : Option ((ByteArray × Int × Unit) ⊕ ((Int × Unit) ⊕ Empty)) :=
  (bif (Go.Eng.ltI s0.2.1 (Go.Eng.lenS s0.1)) then (ob (Go.Eng.idxS s0.1 s0.2.1) fun x1 => (ob (Go.Eng.u_ref23_digit (x1, ())) fun x2 => (bif x2.1 then (some (Sum.inl (s0.1, ((Go.Eng.wr Go.IntKind.i64 (Go.Eng.addI s0.2.1 (1 : Int))), ())))) else (some (Sum.inr (Sum.inl (s0.2.1, ()))))))) else (some (Sum.inr (Sum.inl (s0.2.1, ())))))
noncomputable def u_ref23_digits (t : (ByteArray × Unit)) : Option (Int × Unit) :=
  (ob (loopU u_ref23_digits_l0 (t.1, ((0 : Int), ()))) fun q3 => onS q3 (fun t4 => (some (t4.1, ()))) fun q5 => noS q5)
def h_ref23_digits : HT := (.seq .leaf (.seq .leaf (.seq (.one (.loop { items := [.slot 0, .slot 3], shapes := [.str, .int Go.IntKind.i64] } [((AEx.exit 0), { items := [.slot 3], shapes := [.int Go.IntKind.i64] })] .leaf)) .leaf)))
theorem ok_ref23_digits : TabOK Try.prog [43] g_ref23_digits := (TabOK.cons ⟨_, Try.func43, by kernel_rfl, by kernel_rfl⟩ k_ref23_digit (calleeOf_nat _ _) (fun _ => (calleeOf_pure (by kernel_rfl))) TabOK.nil)
theorem e_ref23_digits : ∀ t, bodyG Try.prog g_ref23_digits [43] h_ref23_digits Try.f25 sg_ref23_digits t = u_ref23_digits t := by
  intro t
  kernel_rfl
theorem k_ref23_digits : (calleeOf sg_ref23_digits u_ref23_digits).OK Try.prog 25 := calleeG_ok mixed ok_ref23_digits Try.func25 (by kernel_rfl) (by kernel_rfl) e_ref23_digits

/-! ref23_name -/
def sg_ref23_name : Sig := { ps := [.one, .one], bs := [], psh := [.str, .bool], rs := [.one], rsh := [.int Go.IntKind.i64] }
noncomputable def g_ref23_name : List (Go.FuncId × Callee) := [(42, (calleeOf sg_ref23_upper u_ref23_upper)), (43, (calleeOf sg_ref23_digit u_ref23_digit))]
noncomputable def u_ref23_name_l0 (s2 : (ByteArray × Bool × Int × Unit)) : Option ((ByteArray × Bool × Int × Unit) ⊕ ((Int × Unit) ⊕ Empty)) :=
  (bif (Go.Eng.ltI s2.2.2.1 (Go.Eng.lenS s2.1)) then (ob (Go.Eng.idxS s2.1 s2.2.2.1) fun x3 => (ob (Go.Eng.u_ref23_upper (x3, ())) fun x4 => (bif x4.1 then (some (Sum.inl (s2.1, (s2.2.1, ((Go.Eng.wr Go.IntKind.i64 (Go.Eng.addI s2.2.2.1 (1 : Int))), ()))))) else (ob (Go.Eng.idxS s2.1 s2.2.2.1) fun x5 => (ob (Go.Eng.u_ref23_digit (x5, ())) fun x6 => (bif x6.1 then (some (Sum.inl (s2.1, (s2.2.1, ((Go.Eng.wr Go.IntKind.i64 (Go.Eng.addI s2.2.2.1 (1 : Int))), ()))))) else (ob (Go.Eng.idxS s2.1 s2.2.2.1) fun x7 => (bif (Go.Eng.eqI x7 (95 : Int)) then (some (Sum.inl (s2.1, (s2.2.1, ((Go.Eng.wr Go.IntKind.i64 (Go.Eng.addI s2.2.2.1 (1 : Int))), ()))))) else (bif s2.2.1 then (ob (Go.Eng.idxS s2.1 s2.2.2.1) fun x8 => (bif (Go.Eng.eqI x8 (45 : Int)) then (some (Sum.inl (s2.1, (s2.2.1, ((Go.Eng.wr Go.IntKind.i64 (Go.Eng.addI s2.2.2.1 (1 : Int))), ()))))) else (some (Sum.inr (Sum.inl (s2.2.2.1, ())))))) else (some (Sum.inr (Sum.inl (s2.2.2.1, ()))))))))))))) else (some (Sum.inr (Sum.inl (s2.2.2.1, ())))))
noncomputable def u_ref23_name (t : (ByteArray × (Bool × Unit))) : Option (Int × Unit) :=
  (bif (Go.Eng.eqI (Go.Eng.lenS t.1) (0 : Int)) then (some ((0 : Int), ())) else (ob (Go.Eng.idxS t.1 (0 : Int)) fun x0 => (ob (Go.Eng.u_ref23_upper (x0, ())) fun x1 => (bif (Bool.not x1.1) then (some ((0 : Int), ())) else (ob (loopU u_ref23_name_l0 (t.1, (t.2.1, ((1 : Int), ())))) fun q9 => onS q9 (fun t10 => (some (t10.1, ()))) fun q11 => noS q11)))))
def h_ref23_name : HT := (.seq .leaf (.seq .leaf (.seq .leaf (.seq (.one (.loop { items := [.slot 0, .slot 1, .slot 5], shapes := [.str, .bool, .int Go.IntKind.i64] } [((AEx.exit 0), { items := [.slot 5], shapes := [.int Go.IntKind.i64] })] .leaf)) .leaf))))
theorem ok_ref23_name : TabOK Try.prog [42, 43] g_ref23_name := (TabOK.cons ⟨_, Try.func42, by kernel_rfl, by kernel_rfl⟩ k_ref23_upper (calleeOf_nat _ _) (fun _ => (calleeOf_pure (by kernel_rfl))) (TabOK.cons ⟨_, Try.func43, by kernel_rfl, by kernel_rfl⟩ k_ref23_digit (calleeOf_nat _ _) (fun _ => (calleeOf_pure (by kernel_rfl))) TabOK.nil))
theorem e_ref23_name : ∀ t, bodyG Try.prog g_ref23_name [42, 43] h_ref23_name Try.f23 sg_ref23_name t = u_ref23_name t := by
  intro t
  kernel_rfl
theorem k_ref23_name : (calleeOf sg_ref23_name u_ref23_name).OK Try.prog 23 := calleeG_ok mixed ok_ref23_name Try.func23 (by kernel_rfl) (by kernel_rfl) e_ref23_name

/-! ref23_number -/
def sg_ref23_number : Sig := { ps := [.one], bs := [], psh := [.str], rs := [.one], rsh := [.int Go.IntKind.i64] }
noncomputable def g_ref23_number : List (Go.FuncId × Callee) := [(44, (calleeOf sg_ref23_sign u_ref23_sign)), (25, (calleeOf sg_ref23_digits u_ref23_digits))]
noncomputable def u_ref23_number (t : (ByteArray × Unit)) : Option (Int × Unit) :=
  (ob (Go.Eng.u_ref23_sign (t.1, ())) fun x0 => (ob (Go.Eng.subS t.1 x0.1 (Go.Eng.lenS t.1)) fun x1 => (ob (Go.Eng.u_ref23_digits (x1, ())) fun x2 => (bif (Go.Eng.eqI x2.1 (0 : Int)) then (some ((0 : Int), ())) else (bif (Go.Eng.eqI (Go.Eng.wr Go.IntKind.i64 (Go.Eng.addI x0.1 x2.1)) (Go.Eng.lenS t.1)) then (some ((Go.Eng.wr Go.IntKind.i64 (Go.Eng.addI x0.1 x2.1)), ())) else (ob (Go.Eng.idxS t.1 (Go.Eng.wr Go.IntKind.i64 (Go.Eng.addI x0.1 x2.1))) fun x3 => (bif (Bool.not (Go.Eng.eqI x3 (46 : Int))) then (some ((Go.Eng.wr Go.IntKind.i64 (Go.Eng.addI x0.1 x2.1)), ())) else (ob (Go.Eng.subS t.1 (Go.Eng.wr Go.IntKind.i64 (Go.Eng.addI (Go.Eng.wr Go.IntKind.i64 (Go.Eng.addI x0.1 x2.1)) (1 : Int))) (Go.Eng.lenS t.1)) fun x4 => (ob (Go.Eng.u_ref23_digits (x4, ())) fun x5 => (ob (α := ((Int × Unit) ⊕ ((Int × Unit) ⊕ Empty))) (bif (Go.Eng.ltI (Go.Eng.wr Go.IntKind.i64 (Go.Eng.addI (Go.Eng.wr Go.IntKind.i64 (Go.Eng.addI (Go.Eng.wr Go.IntKind.i64 (Go.Eng.addI x0.1 x2.1)) (1 : Int))) x5.1)) (Go.Eng.lenS t.1)) then (ob (Go.Eng.idxS t.1 (Go.Eng.wr Go.IntKind.i64 (Go.Eng.addI (Go.Eng.wr Go.IntKind.i64 (Go.Eng.addI (Go.Eng.wr Go.IntKind.i64 (Go.Eng.addI x0.1 x2.1)) (1 : Int))) x5.1))) fun x6 => (bif (Go.Eng.eqI x6 (69 : Int)) then (ob (Go.Eng.subS t.1 (Go.Eng.wr Go.IntKind.i64 (Go.Eng.addI (Go.Eng.wr Go.IntKind.i64 (Go.Eng.addI (Go.Eng.wr Go.IntKind.i64 (Go.Eng.addI (Go.Eng.wr Go.IntKind.i64 (Go.Eng.addI x0.1 x2.1)) (1 : Int))) x5.1)) (1 : Int))) (Go.Eng.lenS t.1)) fun x7 => (ob (Go.Eng.u_ref23_sign (x7, ())) fun x8 => (ob (Go.Eng.subS t.1 (Go.Eng.wr Go.IntKind.i64 (Go.Eng.addI (Go.Eng.wr Go.IntKind.i64 (Go.Eng.addI (Go.Eng.wr Go.IntKind.i64 (Go.Eng.addI (Go.Eng.wr Go.IntKind.i64 (Go.Eng.addI (Go.Eng.wr Go.IntKind.i64 (Go.Eng.addI x0.1 x2.1)) (1 : Int))) x5.1)) (1 : Int))) x8.1)) (Go.Eng.lenS t.1)) fun x9 => (ob (Go.Eng.u_ref23_digits (x9, ())) fun x10 => (bif (Go.Eng.ltI (0 : Int) x10.1) then (some (Sum.inl ((Go.Eng.wr Go.IntKind.i64 (Go.Eng.addI (Go.Eng.wr Go.IntKind.i64 (Go.Eng.addI (Go.Eng.wr Go.IntKind.i64 (Go.Eng.addI (Go.Eng.wr Go.IntKind.i64 (Go.Eng.addI (Go.Eng.wr Go.IntKind.i64 (Go.Eng.addI (Go.Eng.wr Go.IntKind.i64 (Go.Eng.addI x0.1 x2.1)) (1 : Int))) x5.1)) (1 : Int))) x8.1)) x10.1)), ()))) else (some (Sum.inr (Sum.inl ((Go.Eng.wr Go.IntKind.i64 (Go.Eng.addI (Go.Eng.wr Go.IntKind.i64 (Go.Eng.addI (Go.Eng.wr Go.IntKind.i64 (Go.Eng.addI x0.1 x2.1)) (1 : Int))) x5.1)), ()))))))))) else (some (Sum.inr (Sum.inl ((Go.Eng.wr Go.IntKind.i64 (Go.Eng.addI (Go.Eng.wr Go.IntKind.i64 (Go.Eng.addI (Go.Eng.wr Go.IntKind.i64 (Go.Eng.addI x0.1 x2.1)) (1 : Int))) x5.1)), ())))))) else (some (Sum.inr (Sum.inl ((Go.Eng.wr Go.IntKind.i64 (Go.Eng.addI (Go.Eng.wr Go.IntKind.i64 (Go.Eng.addI (Go.Eng.wr Go.IntKind.i64 (Go.Eng.addI x0.1 x2.1)) (1 : Int))) x5.1)), ()))))) fun q11 => onS q11 (fun t12 => (some (t12.1, ()))) fun q13 => onS q13 (fun t14 => (some (t14.1, ()))) fun q15 => noS q15))))))))))
def h_ref23_number : HT := (.seq .leaf (.seq .leaf (.seq .leaf (.seq .leaf (.seq .leaf (.seq .leaf (.seq .leaf (.seq .leaf (.seq (.join [(AEx.ret, { items := [.slot 2], shapes := [.int Go.IntKind.i64] }), (AEx.normal, { items := [.slot 3], shapes := [.int Go.IntKind.i64] })] .leaf) .leaf)))))))))
theorem ok_ref23_number : TabOK Try.prog [44, 25] g_ref23_number := (TabOK.cons ⟨_, Try.func44, by kernel_rfl, by kernel_rfl⟩ k_ref23_sign (calleeOf_nat _ _) (fun _ => (calleeOf_pure (by kernel_rfl))) (TabOK.cons ⟨_, Try.func25, by kernel_rfl, by kernel_rfl⟩ k_ref23_digits (calleeOf_nat _ _) (fun _ => (calleeOf_pure (by kernel_rfl))) TabOK.nil))
theorem e_ref23_number : ∀ t, bodyG Try.prog g_ref23_number [44, 25] h_ref23_number Try.f24 sg_ref23_number t = u_ref23_number t := by
  intro t
  kernel_rfl
theorem k_ref23_number : (calleeOf sg_ref23_number u_ref23_number).OK Try.prog 24 := calleeG_ok mixed ok_ref23_number Try.func24 (by kernel_rfl) (by kernel_rfl) e_ref23_number

/-! ref23_single -/
def sg_ref23_single : Sig := { ps := [.one], bs := [], psh := [.int Go.IntKind.u8], rs := [.one], rsh := [.int Go.IntKind.i64] }
noncomputable def g_ref23_single : List (Go.FuncId × Callee) := []
noncomputable def u_ref23_single (t : (Int × Unit)) : Option (Int × Unit) :=
  (bif (Go.Eng.eqI t.1 (40 : Int)) then (some ((6 : Int), ())) else (bif (Go.Eng.eqI t.1 (41 : Int)) then (some ((7 : Int), ())) else (bif (Go.Eng.eqI t.1 (44 : Int)) then (some ((8 : Int), ())) else (bif (Go.Eng.eqI t.1 (59 : Int)) then (some ((9 : Int), ())) else (bif (Go.Eng.eqI t.1 (61 : Int)) then (some ((10 : Int), ())) else (bif (Go.Eng.eqI t.1 (36 : Int)) then (some ((11 : Int), ())) else (bif (Go.Eng.eqI t.1 (42 : Int)) then (some ((12 : Int), ())) else (some ((0 : Int), ())))))))))
def h_ref23_single : HT := .leaf
theorem ok_ref23_single : TabOK Try.prog [] g_ref23_single := TabOK.nil
theorem e_ref23_single : ∀ t, bodyG Try.prog g_ref23_single [] h_ref23_single Try.f52 sg_ref23_single t = u_ref23_single t := by
  intro t
  kernel_rfl
theorem k_ref23_single : (calleeOf sg_ref23_single u_ref23_single).OK Try.prog 52 := calleeG_ok mixed ok_ref23_single Try.func52 (by kernel_rfl) (by kernel_rfl) e_ref23_single

/-! ref23_quoted -/
def sg_ref23_quoted : Sig := { ps := [.one], bs := [], psh := [.str], rs := [.one, .one], rsh := [.str, .int Go.IntKind.i64] }
noncomputable def g_ref23_quoted : List (Go.FuncId × Callee) := []
noncomputable def u_ref23_quoted_l0 (s0 : (ByteArray × ByteArray × Int × Unit)) : Option ((ByteArray × ByteArray × Int × Unit) ⊕ ((ByteArray × Int × Unit) ⊕ ((Unit) ⊕ Empty))) :=
  (bif (Go.Eng.ltI s0.2.2.1 (Go.Eng.lenS s0.1)) then (ob (α := ((ByteArray × Int × Unit) ⊕ ((ByteArray × ByteArray × Int × Unit) ⊕ Empty))) (ob (Go.Eng.idxS s0.1 s0.2.2.1) fun x1 => (bif (Go.Eng.ltI x1 (32 : Int)) then (some (Sum.inl ((ByteArray.mk #[]), ((0 : Int), ())))) else (ob (Go.Eng.idxS s0.1 s0.2.2.1) fun x2 => (bif (Go.Eng.ltI (126 : Int) x2) then (some (Sum.inl ((ByteArray.mk #[]), ((0 : Int), ())))) else (ob (Go.Eng.idxS s0.1 s0.2.2.1) fun x3 => (bif (Bool.not (Go.Eng.eqI x3 (39 : Int))) then (ob (Go.Eng.subS s0.1 s0.2.2.1 (Go.Eng.wr Go.IntKind.i64 (Go.Eng.addI s0.2.2.1 (1 : Int)))) fun x4 => (ob (Go.Eng.catS s0.2.1 x4) fun x5 => (some (Sum.inr (Sum.inl (s0.1, (x5, (s0.2.2.1, ())))))))) else (bif (Go.Eng.ltI (Go.Eng.wr Go.IntKind.i64 (Go.Eng.addI s0.2.2.1 (1 : Int))) (Go.Eng.lenS s0.1)) then (ob (Go.Eng.idxS s0.1 (Go.Eng.wr Go.IntKind.i64 (Go.Eng.addI s0.2.2.1 (1 : Int)))) fun x6 => (bif (Go.Eng.eqI x6 (39 : Int)) then (ob (Go.Eng.catS s0.2.1 (ByteArray.mk #[39])) fun x7 => (some (Sum.inr (Sum.inl (s0.1, (x7, ((Go.Eng.wr Go.IntKind.i64 (Go.Eng.addI s0.2.2.1 (1 : Int))), ()))))))) else (some (Sum.inl (s0.2.1, ((Go.Eng.wr Go.IntKind.i64 (Go.Eng.addI s0.2.2.1 (1 : Int))), ())))))) else (some (Sum.inl (s0.2.1, ((Go.Eng.wr Go.IntKind.i64 (Go.Eng.addI s0.2.2.1 (1 : Int))), ()))))))))))) fun q8 => onS q8 (fun t9 => (some (Sum.inr (Sum.inl (t9.1, (t9.2.1, ())))))) fun q10 => onS q10 (fun t11 => (some (Sum.inl (t11.1, (t11.2.1, ((Go.Eng.wr Go.IntKind.i64 (Go.Eng.addI t11.2.2.1 (1 : Int))), ())))))) fun q12 => noS q12) else (some (Sum.inr (Sum.inr (Sum.inl ())))))
noncomputable def u_ref23_quoted (t : (ByteArray × Unit)) : Option (ByteArray × (Int × Unit)) :=
  (ob (loopU u_ref23_quoted_l0 (t.1, ((ByteArray.mk #[]), ((1 : Int), ())))) fun q13 => onS q13 (fun t14 => (some (t14.1, (t14.2.1, ())))) fun q15 => onS q15 (fun t16 => (some ((ByteArray.mk #[]), ((0 : Int), ())))) fun q17 => noS q17)
def h_ref23_quoted : HT := (.seq .leaf (.seq .leaf (.seq (.seq .leaf (.one (.loop { items := [.slot 0, .slot 4, .slot 5], shapes := [.str, .str, .int Go.IntKind.i64] } [(AEx.ret, { items := [.slot 2, .slot 3], shapes := [.str, .int Go.IntKind.i64] }), ((AEx.exit 0), { items := [], shapes := [] })] (.seq .leaf (.seq (.join [(AEx.ret, { items := [.slot 2, .slot 3], shapes := [.str, .int Go.IntKind.i64] }), (AEx.normal, { items := [.slot 0, .slot 4, .slot 5], shapes := [.str, .str, .int Go.IntKind.i64] })] .leaf) .leaf))))) .leaf)))
theorem ok_ref23_quoted : TabOK Try.prog [] g_ref23_quoted := TabOK.nil
theorem e_ref23_quoted : ∀ t, bodyG Try.prog g_ref23_quoted [] h_ref23_quoted Try.f51 sg_ref23_quoted t = u_ref23_quoted t := by
  intro t
  kernel_rfl
theorem k_ref23_quoted : (calleeOf sg_ref23_quoted u_ref23_quoted).OK Try.prog 51 := calleeG_ok mixed ok_ref23_quoted Try.func51 (by kernel_rfl) (by kernel_rfl) e_ref23_quoted

/-! ref23_read -/
def sg_ref23_read : Sig := { ps := [.one], bs := [], psh := [.str], rs := [.agg 3, .one], rsh := [.int Go.IntKind.i64, .str, .int Go.IntKind.i64, .int Go.IntKind.i64] }
noncomputable def g_ref23_read : List (Go.FuncId × Callee) := [(23, (calleeOf sg_ref23_name u_ref23_name)), (24, (calleeOf sg_ref23_number u_ref23_number)), (51, (calleeOf sg_ref23_quoted u_ref23_quoted)), (25, (calleeOf sg_ref23_digits u_ref23_digits)), (52, (calleeOf sg_ref23_single u_ref23_single))]
noncomputable def u_ref23_read (t : (ByteArray × Unit)) : Option (Int × (ByteArray × (Int × (Int × Unit)))) :=
  (ob (Go.Eng.u_ref23_name (t.1, (Bool.true, ()))) fun x0 => (bif (Go.Eng.ltI (0 : Int) x0.1) then (ob (Go.Eng.subS t.1 (0 : Int) x0.1) fun x1 => (some ((1 : Int), (x1, ((0 : Int), (x0.1, ())))))) else (ob (Go.Eng.u_ref23_number (t.1, ())) fun x2 => (bif (Go.Eng.ltI (0 : Int) x2.1) then (ob (Go.Eng.subS t.1 (0 : Int) x2.1) fun x3 => (some ((2 : Int), (x3, ((0 : Int), (x2.1, ())))))) else (ob (Go.Eng.idxS t.1 (0 : Int)) fun x4 => (bif (Go.Eng.eqI x4 (39 : Int)) then (ob (Go.Eng.u_ref23_quoted (t.1, ())) fun x5 => (some ((3 : Int), (x5.1, ((0 : Int), (x5.2.1, ())))))) else (bif (Go.Eng.eqI x4 (46 : Int)) then (ob (Go.Eng.subS t.1 (1 : Int) (Go.Eng.lenS t.1)) fun x6 => (ob (Go.Eng.u_ref23_name (x6, (Bool.false, ()))) fun x7 => (bif (Go.Eng.ltI (0 : Int) x7.1) then (bif (Go.Eng.ltI (Go.Eng.wr Go.IntKind.i64 (Go.Eng.addI x7.1 (1 : Int))) (Go.Eng.lenS t.1)) then (ob (Go.Eng.idxS t.1 (Go.Eng.wr Go.IntKind.i64 (Go.Eng.addI x7.1 (1 : Int)))) fun x8 => (bif (Go.Eng.eqI x8 (46 : Int)) then (ob (Go.Eng.subS t.1 (1 : Int) (Go.Eng.wr Go.IntKind.i64 (Go.Eng.addI x7.1 (1 : Int)))) fun x9 => (some ((4 : Int), (x9, ((0 : Int), ((Go.Eng.wr Go.IntKind.i64 (Go.Eng.addI x7.1 (2 : Int))), ())))))) else (some ((0 : Int), ((ByteArray.mk #[]), ((0 : Int), ((0 : Int), ()))))))) else (some ((0 : Int), ((ByteArray.mk #[]), ((0 : Int), ((0 : Int), ())))))) else (some ((0 : Int), ((ByteArray.mk #[]), ((0 : Int), ((0 : Int), ())))))))) else (bif (Go.Eng.eqI x4 (35 : Int)) then (ob (Go.Eng.subS t.1 (1 : Int) (Go.Eng.lenS t.1)) fun x10 => (ob (Go.Eng.u_ref23_digits (x10, ())) fun x11 => (bif (Go.Eng.ltI (0 : Int) x11.1) then (ob (Go.Eng.subS t.1 (1 : Int) (Go.Eng.wr Go.IntKind.i64 (Go.Eng.addI x11.1 (1 : Int)))) fun x12 => (some ((5 : Int), (x12, ((0 : Int), ((Go.Eng.wr Go.IntKind.i64 (Go.Eng.addI x11.1 (1 : Int))), ())))))) else (some ((0 : Int), ((ByteArray.mk #[]), ((0 : Int), ((0 : Int), ())))))))) else (ob (Go.Eng.idxS t.1 (0 : Int)) fun x13 => (ob (Go.Eng.u_ref23_single (x13, ())) fun x14 => (bif (Go.Eng.ltI (0 : Int) x14.1) then (some (x14.1, ((ByteArray.mk #[]), ((0 : Int), ((1 : Int), ()))))) else (some ((0 : Int), ((ByteArray.mk #[]), ((0 : Int), ((0 : Int), ()))))))))))))))))
def h_ref23_read : HT := .leaf
theorem ok_ref23_read : TabOK Try.prog [23, 24, 51, 25, 52] g_ref23_read := (TabOK.cons ⟨_, Try.func23, by kernel_rfl, by kernel_rfl⟩ k_ref23_name (calleeOf_nat _ _) (fun _ => (calleeOf_pure (by kernel_rfl))) (TabOK.cons ⟨_, Try.func24, by kernel_rfl, by kernel_rfl⟩ k_ref23_number (calleeOf_nat _ _) (fun _ => (calleeOf_pure (by kernel_rfl))) (TabOK.cons ⟨_, Try.func51, by kernel_rfl, by kernel_rfl⟩ k_ref23_quoted (calleeOf_nat _ _) (fun _ => (calleeOf_pure (by kernel_rfl))) (TabOK.cons ⟨_, Try.func25, by kernel_rfl, by kernel_rfl⟩ k_ref23_digits (calleeOf_nat _ _) (fun _ => (calleeOf_pure (by kernel_rfl))) (TabOK.cons ⟨_, Try.func52, by kernel_rfl, by kernel_rfl⟩ k_ref23_single (calleeOf_nat _ _) (fun _ => (calleeOf_pure (by kernel_rfl))) TabOK.nil)))))
theorem e_ref23_read : ∀ t, bodyG Try.prog g_ref23_read [23, 24, 51, 25, 52] h_ref23_read Try.f41 sg_ref23_read t = u_ref23_read t := by
  intro t
  kernel_rfl
theorem k_ref23_read : (calleeOf sg_ref23_read u_ref23_read).OK Try.prog 41 := calleeG_ok mixed ok_ref23_read Try.func41 (by kernel_rfl) (by kernel_rfl) e_ref23_read

/-! ref23_Tokens -/
def sg_ref23_Tokens : Sig := { ps := [.one], bs := [], psh := [.str], rs := [.one, .one, .one], rsh := [.sl 3, .int Go.IntKind.i64, .int Go.IntKind.i64] }
noncomputable def g_ref23_Tokens : List (Go.FuncId × Callee) := [(39, (calleeOf sg_ref23_space u_ref23_space)), (40, (calleeOf sg_ref23_comment u_ref23_comment)), (41, (calleeOf sg_ref23_read u_ref23_read))]
noncomputable def u_ref23_Tokens_l0 (s0 : (ByteArray × List T × Int × Unit)) : Option ((ByteArray × List T × Int × Unit) ⊕ ((T × Int × Int × Unit) ⊕ ((ByteArray × List T × Unit) ⊕ Empty))) :=
  (bif (Go.Eng.ltI s0.2.2.1 (Go.Eng.lenS s0.1)) then (ob (Go.Eng.idxS s0.1 s0.2.2.1) fun x1 => (ob (Go.Eng.u_ref23_space (x1, ())) fun x2 => (bif x2.1 then (some (Sum.inl (s0.1, (s0.2.1, ((Go.Eng.wr Go.IntKind.i64 (Go.Eng.addI s0.2.2.1 (1 : Int))), ()))))) else (ob (Go.Eng.subS s0.1 s0.2.2.1 (Go.Eng.lenS s0.1)) fun x3 => (ob (Go.Eng.u_ref23_comment (x3, ())) fun x4 => (bif (Go.Eng.ltI (0 : Int) x4.1) then (some (Sum.inl (s0.1, (s0.2.1, ((Go.Eng.wr Go.IntKind.i64 (Go.Eng.addI s0.2.2.1 x4.1)), ()))))) else (ob (Go.Eng.subS s0.1 s0.2.2.1 (Go.Eng.lenS s0.1)) fun x5 => (ob (Go.Eng.u_ref23_read (x5, ())) fun x6 => (bif (Go.Eng.eqI x6.2.2.2.1 (0 : Int)) then (some (Sum.inr (Sum.inl ((Go.Eng.T.v (Go.Value.slice (Option.none) 0 0)), (s0.2.2.1, ((41 : Int), ())))))) else (bif (Go.Eng.eqI (Go.Eng.lenL s0.2.1) (16384 : Int)) then (some (Sum.inr (Sum.inl ((Go.Eng.T.v (Go.Value.slice (Option.none) 0 0)), (s0.2.2.1, ((2 : Int), ())))))) else (ob (Go.Eng.room s0.2.1 [(Go.Eng.T.agg [(Go.Eng.T.v (Go.Value.int Go.IntKind.i64 x6.1)), (Go.Eng.T.v (Go.Value.string x6.2.1)), (Go.Eng.T.v (Go.Value.int Go.IntKind.i64 s0.2.2.1))])] 32) fun x7 => (some (Sum.inl (s0.1, (x7, ((Go.Eng.wr Go.IntKind.i64 (Go.Eng.addI s0.2.2.1 x6.2.2.2.1)), ())))))))))))))))) else (some (Sum.inr (Sum.inr (Sum.inl (s0.1, (s0.2.1, ())))))))
noncomputable def u_ref23_Tokens (t : (ByteArray × Unit)) : Option ((List T) × (Int × (Int × Unit))) :=
  (bif (Go.Eng.ltI (65536 : Int) (Go.Eng.lenS t.1)) then (some ([], ((0 : Int), ((2 : Int), ())))) else (ob (loopU u_ref23_Tokens_l0 (t.1, ([], ((0 : Int), ())))) fun q8 => onS q8 (fun t9 => (ob (Go.Eng.T.sl? 3 t9.1) fun x10 => (some (x10, (t9.2.1, (t9.2.2.1, ())))))) fun q11 => onS q11 (fun t12 => (some (t12.2.1, ((Go.Eng.lenS t12.1), ((0 : Int), ()))))) fun q13 => noS q13))
def h_ref23_Tokens : HT := (.seq .leaf (.seq .leaf (.seq .leaf (.seq (.seq .leaf (.one (.loop { items := [.slot 0, .slot 5, .slot 6], shapes := [.str, .row 36 3 51, .int Go.IntKind.i64] } [(AEx.ret, { items := [.slot 2, .slot 3, .slot 4], shapes := [.tree, .int Go.IntKind.i64, .int Go.IntKind.i64] }), ((AEx.exit 0), { items := [.slot 0, .slot 5], shapes := [.str, .row 36 3 51] })] .leaf))) .leaf))))
theorem ok_ref23_Tokens : TabOK Try.prog [39, 40, 41] g_ref23_Tokens := (TabOK.cons ⟨_, Try.func39, by kernel_rfl, by kernel_rfl⟩ k_ref23_space (calleeOf_nat _ _) (fun _ => (calleeOf_pure (by kernel_rfl))) (TabOK.cons ⟨_, Try.func40, by kernel_rfl, by kernel_rfl⟩ k_ref23_comment (calleeOf_nat _ _) (fun _ => (calleeOf_pure (by kernel_rfl))) (TabOK.cons ⟨_, Try.func41, by kernel_rfl, by kernel_rfl⟩ k_ref23_read (calleeOf_nat _ _) (fun _ => (calleeOf_pure (by kernel_rfl))) TabOK.nil)))
theorem e_ref23_Tokens : ∀ t, bodyG Try.prog g_ref23_Tokens [39, 40, 41] h_ref23_Tokens Try.f21 sg_ref23_Tokens t = u_ref23_Tokens t := by
  intro t
  kernel_rfl
theorem k_ref23_Tokens : (calleeOf sg_ref23_Tokens u_ref23_Tokens).OK Try.prog 21 := calleeG_ok mixed ok_ref23_Tokens Try.func21 (by kernel_rfl) (by kernel_rfl) e_ref23_Tokens

/-! ref23_Quote -/
def sg_ref23_Quote : Sig := { ps := [.one], bs := [], psh := [.str], rs := [.one], rsh := [.str] }
noncomputable def g_ref23_Quote : List (Go.FuncId × Callee) := []
noncomputable def u_ref23_Quote_l0 (s0 : (ByteArray × ByteArray × Int × Unit)) : Option ((ByteArray × ByteArray × Int × Unit) ⊕ ((ByteArray × Unit) ⊕ Empty)) :=
  (bif (Go.Eng.ltI s0.2.2.1 (Go.Eng.lenS s0.1)) then (ob (α := ((ByteArray × ByteArray × Int × Unit) ⊕ Empty)) (ob (Go.Eng.idxS s0.1 s0.2.2.1) fun x1 => (bif (Go.Eng.eqI x1 (39 : Int)) then (ob (Go.Eng.catS s0.2.1 (ByteArray.mk #[39])) fun x2 => (some (Sum.inl (s0.1, (x2, (s0.2.2.1, ())))))) else (some (Sum.inl (s0.1, (s0.2.1, (s0.2.2.1, ()))))))) fun q3 => onS q3 (fun t4 => (ob (Go.Eng.subS t4.1 t4.2.2.1 (Go.Eng.wr Go.IntKind.i64 (Go.Eng.addI t4.2.2.1 (1 : Int)))) fun x5 => (ob (Go.Eng.catS t4.2.1 x5) fun x6 => (some (Sum.inl (t4.1, (x6, ((Go.Eng.wr Go.IntKind.i64 (Go.Eng.addI t4.2.2.1 (1 : Int))), ())))))))) fun q7 => noS q7) else (some (Sum.inr (Sum.inl (s0.2.1, ())))))
noncomputable def u_ref23_Quote (t : (ByteArray × Unit)) : Option (ByteArray × Unit) :=
  (ob (loopU u_ref23_Quote_l0 (t.1, ((ByteArray.mk #[39]), ((0 : Int), ())))) fun q8 => onS q8 (fun t9 => (ob (Go.Eng.catS t9.1 (ByteArray.mk #[39])) fun x10 => (some (x10, ())))) fun q11 => noS q11)
def h_ref23_Quote : HT := (.seq .leaf (.seq .leaf (.seq (.seq .leaf (.one (.loop { items := [.slot 0, .slot 3, .slot 4], shapes := [.str, .str, .int Go.IntKind.i64] } [((AEx.exit 0), { items := [.slot 3], shapes := [.str] })] (.seq .leaf (.seq (.one (.seq (.join [(AEx.normal, { items := [.slot 0, .slot 3, .slot 4], shapes := [.str, .str, .int Go.IntKind.i64] })] .leaf) .leaf)) .leaf))))) .leaf)))
theorem ok_ref23_Quote : TabOK Try.prog [] g_ref23_Quote := TabOK.nil
theorem e_ref23_Quote : ∀ t, bodyG Try.prog g_ref23_Quote [] h_ref23_Quote Try.f26 sg_ref23_Quote t = u_ref23_Quote t := by
  intro t
  kernel_rfl
theorem k_ref23_Quote : (calleeOf sg_ref23_Quote u_ref23_Quote).OK Try.prog 26 := calleeG_ok mixed ok_ref23_Quote Try.func26 (by kernel_rfl) (by kernel_rfl) e_ref23_Quote

/-! ref23_write -/
def sg_ref23_write : Sig := { ps := [.agg 3], bs := [], psh := [.int Go.IntKind.i64, .str, .int Go.IntKind.i64], rs := [.one], rsh := [.str] }
noncomputable def g_ref23_write : List (Go.FuncId × Callee) := [(26, (calleeOf sg_ref23_Quote u_ref23_Quote))]
noncomputable def u_ref23_write (t : (Int × (ByteArray × (Int × Unit)))) : Option (ByteArray × Unit) :=
  (ob (α := ((Unit × Int × Bool × Int × ByteArray × Int × Unit) ⊕ Empty)) (bif (Go.Eng.eqI t.1 (1 : Int)) then (some (Sum.inl ((), (t.1, ((Go.Eng.eqI t.1 (1 : Int)), (t.1, (t.2.1, (t.2.2.1, ())))))))) else (some (Sum.inl ((), (t.1, ((Go.Eng.eqI t.1 (2 : Int)), (t.1, (t.2.1, (t.2.2.1, ()))))))))) fun q0 => onS q0 (fun t1 => (bif t1.2.2.1 then (some (t1.2.2.2.2.1, ())) else (bif (Go.Eng.eqI t1.2.1 (3 : Int)) then (ob (Go.Eng.u_ref23_Quote (t1.2.2.2.2.1, ())) fun x2 => (some (x2.1, ()))) else (bif (Go.Eng.eqI t1.2.1 (4 : Int)) then (ob (Go.Eng.catS (ByteArray.mk #[46]) t1.2.2.2.2.1) fun x3 => (ob (Go.Eng.catS x3 (ByteArray.mk #[46])) fun x4 => (some (x4, ())))) else (bif (Go.Eng.eqI t1.2.1 (5 : Int)) then (ob (Go.Eng.catS (ByteArray.mk #[35]) t1.2.2.2.2.1) fun x5 => (some (x5, ()))) else (bif (Go.Eng.eqI t1.2.1 (9 : Int)) then (some ((ByteArray.mk #[59, 10]), ())) else (bif (Go.Eng.leI (6 : Int) t1.2.2.2.1) then (bif (Go.Eng.leI t1.2.2.2.1 (12 : Int)) then (ob (Go.Eng.subS (ByteArray.mk #[40, 41, 44, 59, 61, 36, 42]) (Go.Eng.wr Go.IntKind.i64 (Go.Eng.subI t1.2.2.2.1 (6 : Int))) (Go.Eng.wr Go.IntKind.i64 (Go.Eng.addI (Go.Eng.wr Go.IntKind.i64 (Go.Eng.subI t1.2.2.2.1 (6 : Int))) (1 : Int)))) fun x6 => (some (x6, ()))) else (some ((ByteArray.mk #[]), ()))) else (some ((ByteArray.mk #[]), ()))))))))) fun q7 => noS q7)
def h_ref23_write : HT := (.seq .leaf (.seq (.seq .leaf (.one (.seq (.join [(AEx.normal, { items := [.slot 1, .slot 4, .slot 5, .box 1 3], shapes := [.lit (Go.Eng.C.box 1 0), .int Go.IntKind.i64, .bool, .int Go.IntKind.i64, .str, .int Go.IntKind.i64] })] .leaf) .leaf))) .leaf))
theorem ok_ref23_write : TabOK Try.prog [26] g_ref23_write := (TabOK.cons ⟨_, Try.func26, by kernel_rfl, by kernel_rfl⟩ k_ref23_Quote (calleeOf_nat _ _) (fun _ => (calleeOf_pure (by kernel_rfl))) TabOK.nil)
theorem e_ref23_write : ∀ t, bodyG Try.prog g_ref23_write [26] h_ref23_write Try.f17 sg_ref23_write t = u_ref23_write t := by
  intro t
  kernel_rfl
theorem k_ref23_write : (calleeOf sg_ref23_write u_ref23_write).OK Try.prog 17 := calleeG_ok mixed ok_ref23_write Try.func17 (by kernel_rfl) (by kernel_rfl) e_ref23_write

/-! ref23_long -/
def sg_ref23_long : Sig := { ps := [.agg 3], bs := [], psh := [.int Go.IntKind.i64, .str, .int Go.IntKind.i64], rs := [.one], rsh := [.bool] }
noncomputable def g_ref23_long : List (Go.FuncId × Callee) := []
noncomputable def u_ref23_long (t : (Int × (ByteArray × (Int × Unit)))) : Option (Bool × Unit) :=
  (bif (Go.Eng.leI (1 : Int) t.1) then (some ((Go.Eng.leI t.1 (5 : Int)), ())) else (some (Bool.false, ())))
def h_ref23_long : HT := .leaf
theorem ok_ref23_long : TabOK Try.prog [] g_ref23_long := TabOK.nil
theorem e_ref23_long : ∀ t, bodyG Try.prog g_ref23_long [] h_ref23_long Try.f16 sg_ref23_long t = u_ref23_long t := by
  intro t
  kernel_rfl
theorem k_ref23_long : (calleeOf sg_ref23_long u_ref23_long).OK Try.prog 16 := calleeG_ok mixed ok_ref23_long Try.func16 (by kernel_rfl) (by kernel_rfl) e_ref23_long

/-! ref23_Text -/
def sg_ref23_Text : Sig := { ps := [.one], bs := [], psh := [.sl 3], rs := [.one], rsh := [.str] }
noncomputable def g_ref23_Text : List (Go.FuncId × Callee) := [(16, (calleeOf sg_ref23_long u_ref23_long)), (17, (calleeOf sg_ref23_write u_ref23_write))]
noncomputable def u_ref23_Text_l0 (s0 : (List T × List T × Int × Unit)) : Option ((List T × List T × Int × Unit) ⊕ ((List T × Unit) ⊕ Empty)) :=
  (bif (Go.Eng.ltI s0.2.2.1 (Go.Eng.lenL s0.1)) then (ob (α := ((List T × List T × Int × Unit) ⊕ Empty)) (bif (Go.Eng.ltI (0 : Int) s0.2.2.1) then (ob (Go.Eng.idxL s0.1 s0.2.2.1) fun x1 => (ob (Go.Eng.T.int? Go.IntKind.i64 (Go.Eng.T.cell x1 0)) fun x2 => (ob (Go.Eng.T.str? (Go.Eng.T.cell x1 1)) fun x3 => (ob (Go.Eng.T.int? Go.IntKind.i64 (Go.Eng.T.cell x1 2)) fun x4 => (ob (Go.Eng.u_ref23_long (x2, (x3, (x4, ())))) fun x5 => (bif x5.1 then (ob (Go.Eng.idxL s0.1 (Go.Eng.wr Go.IntKind.i64 (Go.Eng.subI s0.2.2.1 (1 : Int)))) fun x6 => (ob (Go.Eng.T.int? Go.IntKind.i64 (Go.Eng.T.cell x6 0)) fun x7 => (ob (Go.Eng.T.str? (Go.Eng.T.cell x6 1)) fun x8 => (ob (Go.Eng.T.int? Go.IntKind.i64 (Go.Eng.T.cell x6 2)) fun x9 => (ob (Go.Eng.u_ref23_long (x7, (x8, (x9, ())))) fun x10 => (bif x10.1 then (ob (Go.Eng.room s0.2.1 [(Go.Eng.T.v (Go.Value.int Go.IntKind.u8 (32 : Int)))] 1) fun x11 => (some (Sum.inl (s0.1, (x11, (s0.2.2.1, ())))))) else (some (Sum.inl (s0.1, (s0.2.1, (s0.2.2.1, ()))))))))))) else (some (Sum.inl (s0.1, (s0.2.1, (s0.2.2.1, ()))))))))))) else (some (Sum.inl (s0.1, (s0.2.1, (s0.2.2.1, ())))))) fun q12 => onS q12 (fun t13 => (ob (Go.Eng.idxL t13.1 t13.2.2.1) fun x14 => (ob (Go.Eng.T.int? Go.IntKind.i64 (Go.Eng.T.cell x14 0)) fun x15 => (ob (Go.Eng.T.str? (Go.Eng.T.cell x14 1)) fun x16 => (ob (Go.Eng.T.int? Go.IntKind.i64 (Go.Eng.T.cell x14 2)) fun x17 => (ob (Go.Eng.u_ref23_write (x15, (x16, (x17, ())))) fun x18 => (ob (Go.Eng.room t13.2.1 (Go.Eng.bytesL x18.1) 1) fun x19 => (some (Sum.inl (t13.1, (x19, ((Go.Eng.wr Go.IntKind.i64 (Go.Eng.addI t13.2.2.1 (1 : Int))), ())))))))))))) fun q20 => noS q20) else (some (Sum.inr (Sum.inl (s0.2.1, ())))))
noncomputable def u_ref23_Text (t : ((List T) × Unit)) : Option (ByteArray × Unit) :=
  (ob (loopU u_ref23_Text_l0 (t.1, ([], ((0 : Int), ())))) fun q21 => onS q21 (fun t22 => (ob (Go.Eng.strOf t22.1) fun x23 => (some (x23, ())))) fun q24 => noS q24)
def h_ref23_Text : HT := (.seq .leaf (.seq .leaf (.seq (.seq .leaf (.one (.loop { items := [.slot 0, .slot 3, .slot 4], shapes := [.sl 3, .row 5 1 37, .int Go.IntKind.i64] } [((AEx.exit 0), { items := [.slot 3], shapes := [.row 5 1 37] })] (.seq .leaf (.seq (.one (.seq (.join [(AEx.normal, { items := [.slot 0, .slot 3, .slot 4], shapes := [.sl 3, .row 5 1 30, .int Go.IntKind.i64] })] .leaf) .leaf)) .leaf))))) .leaf)))
theorem ok_ref23_Text : TabOK Try.prog [16, 17] g_ref23_Text := (TabOK.cons ⟨_, Try.func16, by kernel_rfl, by kernel_rfl⟩ k_ref23_long (calleeOf_nat _ _) (fun _ => (calleeOf_pure (by kernel_rfl))) (TabOK.cons ⟨_, Try.func17, by kernel_rfl, by kernel_rfl⟩ k_ref23_write (calleeOf_nat _ _) (fun _ => (calleeOf_pure (by kernel_rfl))) TabOK.nil))
theorem e_ref23_Text : ∀ t, bodyG Try.prog g_ref23_Text [16, 17] h_ref23_Text Try.f10 sg_ref23_Text t = u_ref23_Text t := by
  intro t
  kernel_rfl
theorem k_ref23_Text : (calleeOf sg_ref23_Text u_ref23_Text).OK Try.prog 10 := calleeG_ok mixed ok_ref23_Text Try.func10 (by kernel_rfl) (by kernel_rfl) e_ref23_Text

/-! ref23_ValidToken -/
def sg_ref23_ValidToken : Sig := { ps := [.agg 3], bs := [], psh := [.int Go.IntKind.i64, .str, .int Go.IntKind.i64], rs := [.one], rsh := [.bool] }
noncomputable def g_ref23_ValidToken : List (Go.FuncId × Callee) := [(23, (calleeOf sg_ref23_name u_ref23_name)), (24, (calleeOf sg_ref23_number u_ref23_number)), (25, (calleeOf sg_ref23_digits u_ref23_digits))]
noncomputable def u_ref23_ValidToken_l0 (s4 : (ByteArray × Int × Unit)) : Option ((ByteArray × Int × Unit) ⊕ ((Bool × Unit) ⊕ ((Unit) ⊕ Empty))) :=
  (bif (Go.Eng.ltI s4.2.1 (Go.Eng.lenS s4.1)) then (ob (Go.Eng.idxS s4.1 s4.2.1) fun x5 => (bif (Go.Eng.ltI x5 (32 : Int)) then (some (Sum.inr (Sum.inl (Bool.false, ())))) else (ob (Go.Eng.idxS s4.1 s4.2.1) fun x6 => (bif (Go.Eng.ltI (126 : Int) x6) then (some (Sum.inr (Sum.inl (Bool.false, ())))) else (some (Sum.inl (s4.1, ((Go.Eng.wr Go.IntKind.i64 (Go.Eng.addI s4.2.1 (1 : Int))), ())))))))) else (some (Sum.inr (Sum.inr (Sum.inl ())))))
noncomputable def u_ref23_ValidToken (t : (Int × (ByteArray × (Int × Unit)))) : Option (Bool × Unit) :=
  (bif (Go.Eng.eqI t.1 (1 : Int)) then (bif (Bool.not (Go.Eng.eqS t.2.1 (ByteArray.mk #[]))) then (ob (Go.Eng.u_ref23_name (t.2.1, (Bool.true, ()))) fun x0 => (some ((Go.Eng.eqI x0.1 (Go.Eng.lenS t.2.1)), ()))) else (some (Bool.false, ()))) else (bif (Go.Eng.eqI t.1 (2 : Int)) then (bif (Bool.not (Go.Eng.eqS t.2.1 (ByteArray.mk #[]))) then (ob (Go.Eng.u_ref23_number (t.2.1, ())) fun x1 => (some ((Go.Eng.eqI x1.1 (Go.Eng.lenS t.2.1)), ()))) else (some (Bool.false, ()))) else (bif (Go.Eng.eqI t.1 (4 : Int)) then (bif (Bool.not (Go.Eng.eqS t.2.1 (ByteArray.mk #[]))) then (ob (Go.Eng.u_ref23_name (t.2.1, (Bool.false, ()))) fun x2 => (some ((Go.Eng.eqI x2.1 (Go.Eng.lenS t.2.1)), ()))) else (some (Bool.false, ()))) else (bif (Go.Eng.eqI t.1 (5 : Int)) then (bif (Bool.not (Go.Eng.eqS t.2.1 (ByteArray.mk #[]))) then (ob (Go.Eng.u_ref23_digits (t.2.1, ())) fun x3 => (some ((Go.Eng.eqI x3.1 (Go.Eng.lenS t.2.1)), ()))) else (some (Bool.false, ()))) else (bif (Go.Eng.eqI t.1 (3 : Int)) then (ob (loopU u_ref23_ValidToken_l0 (t.2.1, ((0 : Int), ()))) fun q7 => onS q7 (fun t8 => (some (t8.1, ()))) fun q9 => onS q9 (fun t10 => (some (Bool.true, ()))) fun q11 => noS q11) else (bif (Go.Eng.leI (6 : Int) t.1) then (bif (Go.Eng.leI t.1 (12 : Int)) then (some ((Go.Eng.eqS t.2.1 (ByteArray.mk #[])), ())) else (some (Bool.false, ()))) else (some (Bool.false, ()))))))))
def h_ref23_ValidToken : HT := (.seq .leaf (.seq .leaf (.seq (.seq .leaf (.one (.seq .leaf (.cond .leaf (.seq .leaf (.cond .leaf (.seq .leaf (.cond .leaf (.seq .leaf (.cond .leaf (.seq .leaf (.cond (.seq (.seq .leaf (.one (.loop { items := [.slot 3, .slot 4], shapes := [.str, .int Go.IntKind.i64] } [(AEx.ret, { items := [.slot 2], shapes := [.bool] }), ((AEx.exit 1), { items := [], shapes := [] })] .leaf))) .leaf) .leaf)))))))))))) .leaf)))
theorem ok_ref23_ValidToken : TabOK Try.prog [23, 24, 25] g_ref23_ValidToken := (TabOK.cons ⟨_, Try.func23, by kernel_rfl, by kernel_rfl⟩ k_ref23_name (calleeOf_nat _ _) (fun _ => (calleeOf_pure (by kernel_rfl))) (TabOK.cons ⟨_, Try.func24, by kernel_rfl, by kernel_rfl⟩ k_ref23_number (calleeOf_nat _ _) (fun _ => (calleeOf_pure (by kernel_rfl))) (TabOK.cons ⟨_, Try.func25, by kernel_rfl, by kernel_rfl⟩ k_ref23_digits (calleeOf_nat _ _) (fun _ => (calleeOf_pure (by kernel_rfl))) TabOK.nil)))
theorem e_ref23_ValidToken : ∀ t, bodyG Try.prog g_ref23_ValidToken [23, 24, 25] h_ref23_ValidToken Try.f14 sg_ref23_ValidToken t = u_ref23_ValidToken t := by
  intro t
  kernel_rfl
theorem k_ref23_ValidToken : (calleeOf sg_ref23_ValidToken u_ref23_ValidToken).OK Try.prog 14 := calleeG_ok mixed ok_ref23_ValidToken Try.func14 (by kernel_rfl) (by kernel_rfl) e_ref23_ValidToken

/-! ref23_Same -/
def sg_ref23_Same : Sig := { ps := [.one, .one], bs := [], psh := [.sl 3, .sl 3], rs := [.one], rsh := [.bool] }
noncomputable def g_ref23_Same : List (Go.FuncId × Callee) := []
noncomputable def u_ref23_Same_l0 (s0 : (List T × List T × Int × Unit)) : Option ((List T × List T × Int × Unit) ⊕ ((Bool × Unit) ⊕ ((Unit) ⊕ Empty))) :=
  (bif (Go.Eng.ltI s0.2.2.1 (Go.Eng.lenL s0.1)) then (ob (Go.Eng.idxL s0.1 s0.2.2.1) fun x1 => (ob (Go.Eng.idxL s0.2.1 s0.2.2.1) fun x2 => (ob (Go.Eng.T.int? Go.IntKind.i64 (Go.Eng.T.cell x1 0)) fun x3 => (ob (Go.Eng.T.int? Go.IntKind.i64 (Go.Eng.T.cell x2 0)) fun x4 => (ob (Go.Eng.T.str? (Go.Eng.T.cell x1 1)) fun x5 => (ob (Go.Eng.T.str? (Go.Eng.T.cell x2 1)) fun x6 => (ob (Go.Eng.T.int? Go.IntKind.i64 (Go.Eng.T.cell x1 2)) fun x7 => (ob (Go.Eng.T.int? Go.IntKind.i64 (Go.Eng.T.cell x2 2)) fun x8 => (bif (Bool.not (Go.Eng.andB (Go.Eng.eqI x3 x4) (Go.Eng.andB (Go.Eng.eqS x5 x6) (Go.Eng.andB (Go.Eng.eqI x7 x8) Bool.true)))) then (some (Sum.inr (Sum.inl (Bool.false, ())))) else (some (Sum.inl (s0.1, (s0.2.1, ((Go.Eng.wr Go.IntKind.i64 (Go.Eng.addI s0.2.2.1 (1 : Int))), ())))))))))))))) else (some (Sum.inr (Sum.inr (Sum.inl ())))))
noncomputable def u_ref23_Same (t : ((List T) × ((List T) × Unit))) : Option (Bool × Unit) :=
  (bif (Bool.not (Go.Eng.eqI (Go.Eng.lenL t.1) (Go.Eng.lenL t.2.1))) then (some (Bool.false, ())) else (ob (loopU u_ref23_Same_l0 (t.1, (t.2.1, ((0 : Int), ())))) fun q9 => onS q9 (fun t10 => (some (t10.1, ()))) fun q11 => onS q11 (fun t12 => (some (Bool.true, ()))) fun q13 => noS q13))
def h_ref23_Same : HT := (.seq .leaf (.seq .leaf (.seq (.seq .leaf (.one (.loop { items := [.slot 0, .slot 1, .slot 5], shapes := [.sl 3, .sl 3, .int Go.IntKind.i64] } [(AEx.ret, { items := [.slot 4], shapes := [.bool] }), ((AEx.exit 0), { items := [], shapes := [] })] .leaf))) .leaf)))
theorem ok_ref23_Same : TabOK Try.prog [] g_ref23_Same := TabOK.nil
theorem e_ref23_Same : ∀ t, bodyG Try.prog g_ref23_Same [] h_ref23_Same Try.f22 sg_ref23_Same t = u_ref23_Same t := by
  intro t
  kernel_rfl
theorem k_ref23_Same : (calleeOf sg_ref23_Same u_ref23_Same).OK Try.prog 22 := calleeG_ok mixed ok_ref23_Same Try.func22 (by kernel_rfl) (by kernel_rfl) e_ref23_Same

/-! brepkernelmade_Mod -/
def sg_brepkernelmade_Mod : Sig := { ps := [.one, .one], bs := [], psh := [.int Go.IntKind.i64, .int Go.IntKind.i64], rs := [.one], rsh := [.int Go.IntKind.i64] }
noncomputable def g_brepkernelmade_Mod : List (Go.FuncId × Callee) := []
noncomputable def u_brepkernelmade_Mod (t : (Int × (Int × Unit))) : Option (Int × Unit) :=
  (ob (Go.Eng.nz t.2.1) fun x0 => (ob (α := ((Int × Unit) ⊕ Empty)) (bif (Go.Eng.ltI (Go.Eng.modI t.1 x0) (0 : Int)) then (some (Sum.inl ((Go.Eng.wr Go.IntKind.i64 (Go.Eng.addI (Go.Eng.modI t.1 x0) t.2.1)), ()))) else (some (Sum.inl ((Go.Eng.modI t.1 x0), ())))) fun q1 => onS q1 (fun t2 => (some (t2.1, ()))) fun q3 => noS q3))
def h_brepkernelmade_Mod : HT := (.seq .leaf (.seq .leaf (.seq (.join [(AEx.normal, { items := [.slot 0], shapes := [.int Go.IntKind.i64] })] .leaf) .leaf)))
theorem ok_brepkernelmade_Mod : TabOK Try.prog [] g_brepkernelmade_Mod := TabOK.nil
theorem e_brepkernelmade_Mod : ∀ t, bodyG Try.prog g_brepkernelmade_Mod [] h_brepkernelmade_Mod Try.f15 sg_brepkernelmade_Mod t = u_brepkernelmade_Mod t := by
  intro t
  kernel_rfl
theorem k_brepkernelmade_Mod : (calleeOf sg_brepkernelmade_Mod u_brepkernelmade_Mod).OK Try.prog 15 := calleeG_ok mixed ok_brepkernelmade_Mod Try.func15 (by kernel_rfl) (by kernel_rfl) e_brepkernelmade_Mod

/-! brepkernelmade_Roll -/
def sg_brepkernelmade_Roll : Sig := { ps := [.one], bs := [], psh := [.sl 1], rs := [.new 2], rsh := [.sl 1, .int Go.IntKind.i64] }
noncomputable def g_brepkernelmade_Roll : List (Go.FuncId × Callee) := []
noncomputable def u_brepkernelmade_Roll (t : ((List T) × Unit)) : Option ((List T) × (Int × Unit)) :=
  (some (t.1, ((0 : Int), ())))
def h_brepkernelmade_Roll : HT := .leaf
theorem ok_brepkernelmade_Roll : TabOK Try.prog [] g_brepkernelmade_Roll := TabOK.nil
theorem e_brepkernelmade_Roll : ∀ t, bodyG Try.prog g_brepkernelmade_Roll [] h_brepkernelmade_Roll Try.f7 sg_brepkernelmade_Roll t = u_brepkernelmade_Roll t := by
  intro t
  kernel_rfl
theorem k_brepkernelmade_Roll : (calleeOf sg_brepkernelmade_Roll u_brepkernelmade_Roll).OK Try.prog 7 := calleeG_ok mixed ok_brepkernelmade_Roll Try.func7 (by kernel_rfl) (by kernel_rfl) e_brepkernelmade_Roll

/-! brepkernelmade_Light -/
def sg_brepkernelmade_Light : Sig := { ps := [.one], bs := [], psh := [.sl 1], rs := [.one], rsh := [.bool] }
noncomputable def g_brepkernelmade_Light : List (Go.FuncId × Callee) := []
noncomputable def u_brepkernelmade_Light (t : ((List T) × Unit)) : Option (Bool × Unit) :=
  (some ((Go.Eng.leI (Go.Eng.lenL t.1) (500 : Int)), ()))
def h_brepkernelmade_Light : HT := .leaf
theorem ok_brepkernelmade_Light : TabOK Try.prog [] g_brepkernelmade_Light := TabOK.nil
theorem e_brepkernelmade_Light : ∀ t, bodyG Try.prog g_brepkernelmade_Light [] h_brepkernelmade_Light Try.f5 sg_brepkernelmade_Light t = u_brepkernelmade_Light t := by
  intro t
  kernel_rfl
theorem k_brepkernelmade_Light : (calleeOf sg_brepkernelmade_Light u_brepkernelmade_Light).OK Try.prog 5 := calleeG_ok mixed ok_brepkernelmade_Light Try.func5 (by kernel_rfl) (by kernel_rfl) e_brepkernelmade_Light

/-! __brepkernelmade_Dice__Next -/
def sg___brepkernelmade_Dice__Next : Sig := { ps := [.one, .one], bs := [2], psh := [.lit (.box 0 0), .int Go.IntKind.i64, .sl 1, .int Go.IntKind.i64], rs := [.one], rsh := [.int Go.IntKind.i64, .sl 1, .int Go.IntKind.i64] }
noncomputable def g___brepkernelmade_Dice__Next : List (Go.FuncId × Callee) := [(15, (calleeOf sg_brepkernelmade_Mod u_brepkernelmade_Mod))]
noncomputable def u___brepkernelmade_Dice__Next (t : (Unit × (Int × ((List T) × (Int × Unit))))) : Option (Int × ((List T) × (Int × Unit))) :=
  (bif (Go.Eng.leI (Go.Eng.lenL t.2.2.1) t.2.2.2.1) then (some ((0 : Int), (t.2.2.1, (t.2.2.2.1, ())))) else (ob (Go.Eng.idxL t.2.2.1 (Go.Eng.wr Go.IntKind.i64 (Go.Eng.subI (Go.Eng.wr Go.IntKind.i64 (Go.Eng.addI t.2.2.2.1 (1 : Int))) (1 : Int)))) fun x0 => (ob (Go.Eng.T.int? Go.IntKind.i64 (Go.Eng.T.cell x0 0)) fun x1 => (ob (Go.Eng.u_brepkernelmade_Mod (x1, (t.2.1, ()))) fun x2 => (some (x2.1, (t.2.2.1, ((Go.Eng.wr Go.IntKind.i64 (Go.Eng.addI t.2.2.2.1 (1 : Int))), ()))))))))
def h___brepkernelmade_Dice__Next : HT := .leaf
theorem ok___brepkernelmade_Dice__Next : TabOK Try.prog [15] g___brepkernelmade_Dice__Next := (TabOK.cons ⟨_, Try.func15, by kernel_rfl, by kernel_rfl⟩ k_brepkernelmade_Mod (calleeOf_nat _ _) (fun _ => (calleeOf_pure (by kernel_rfl))) TabOK.nil)
theorem e___brepkernelmade_Dice__Next : ∀ t, bodyG Try.prog g___brepkernelmade_Dice__Next [15] h___brepkernelmade_Dice__Next Try.f9 sg___brepkernelmade_Dice__Next t = u___brepkernelmade_Dice__Next t := by
  intro t
  kernel_rfl
theorem k___brepkernelmade_Dice__Next : (calleeOf sg___brepkernelmade_Dice__Next u___brepkernelmade_Dice__Next).OK Try.prog 9 := calleeG_ok mixed ok___brepkernelmade_Dice__Next Try.func9 (by kernel_rfl) (by kernel_rfl) e___brepkernelmade_Dice__Next

/-! __brepkernelmade_Dice__Token -/
def sg___brepkernelmade_Dice__Token : Sig := { ps := [.one], bs := [2], psh := [.lit (.box 0 0), .sl 1, .int Go.IntKind.i64], rs := [.agg 3], rsh := [.int Go.IntKind.i64, .str, .int Go.IntKind.i64, .sl 1, .int Go.IntKind.i64] }
noncomputable def g___brepkernelmade_Dice__Token : List (Go.FuncId × Callee) := [(9, (calleeOf sg___brepkernelmade_Dice__Next u___brepkernelmade_Dice__Next))]
noncomputable def u___brepkernelmade_Dice__Token (t : (Unit × ((List T) × (Int × Unit)))) : Option (Int × (ByteArray × (Int × ((List T) × (Int × Unit))))) :=
  (ob (Go.Eng.u___brepkernelmade_Dice__Next ((), ((12 : Int), (t.2.1, (t.2.2.1, ()))))) fun x0 => (ob (α := ((Unit × Unit × List T × Int × Int × ByteArray × Int × Int × ByteArray × Int × Unit) ⊕ Empty)) (bif (Go.Eng.eqI (Go.Eng.wr Go.IntKind.i64 (Go.Eng.addI (1 : Int) x0.1)) (1 : Int)) then (ob (Go.Eng.u___brepkernelmade_Dice__Next ((), ((7 : Int), (x0.2.1, (x0.2.2.1, ()))))) fun x1 => (ob (Go.Eng.chkI (Go.Eng.lenL [(Go.Eng.T.v (Go.Value.string (ByteArray.mk #[65]))), (Go.Eng.T.v (Go.Value.string (ByteArray.mk #[80, 76, 65, 78, 69]))), (Go.Eng.T.v (Go.Value.string (ByteArray.mk #[65, 45, 49]))), (Go.Eng.T.v (Go.Value.string (ByteArray.mk #[90, 95, 57]))), (Go.Eng.T.v (Go.Value.string (ByteArray.mk #[69, 78, 68, 83, 69, 67]))), (Go.Eng.T.v (Go.Value.string (ByteArray.mk #[97]))), (Go.Eng.T.v (Go.Value.string (ByteArray.mk #[])))]) x1.1) fun x2 => (ob (Go.Eng.idxN [(Go.Eng.T.v (Go.Value.string (ByteArray.mk #[65]))), (Go.Eng.T.v (Go.Value.string (ByteArray.mk #[80, 76, 65, 78, 69]))), (Go.Eng.T.v (Go.Value.string (ByteArray.mk #[65, 45, 49]))), (Go.Eng.T.v (Go.Value.string (ByteArray.mk #[90, 95, 57]))), (Go.Eng.T.v (Go.Value.string (ByteArray.mk #[69, 78, 68, 83, 69, 67]))), (Go.Eng.T.v (Go.Value.string (ByteArray.mk #[97]))), (Go.Eng.T.v (Go.Value.string (ByteArray.mk #[])))] x2) fun x3 => (ob (Go.Eng.T.str? (Go.Eng.T.cell x3 0)) fun x4 => (some (Sum.inl ((), ((), (x1.2.1, (x1.2.2.1, ((0 : Int), ((ByteArray.mk #[]), ((0 : Int), ((Go.Eng.wr Go.IntKind.i64 (Go.Eng.addI (1 : Int) x0.1)), (x4, ((0 : Int), ())))))))))))))))) else (bif (Go.Eng.eqI (Go.Eng.wr Go.IntKind.i64 (Go.Eng.addI (1 : Int) x0.1)) (2 : Int)) then (ob (Go.Eng.u___brepkernelmade_Dice__Next ((), ((10 : Int), (x0.2.1, (x0.2.2.1, ()))))) fun x5 => (ob (Go.Eng.chkI (Go.Eng.lenL [(Go.Eng.T.v (Go.Value.string (ByteArray.mk #[48]))), (Go.Eng.T.v (Go.Value.string (ByteArray.mk #[45, 49]))), (Go.Eng.T.v (Go.Value.string (ByteArray.mk #[43, 49, 50]))), (Go.Eng.T.v (Go.Value.string (ByteArray.mk #[49, 46]))), (Go.Eng.T.v (Go.Value.string (ByteArray.mk #[50, 46, 53]))), (Go.Eng.T.v (Go.Value.string (ByteArray.mk #[45, 51, 46, 50, 53, 69, 50]))), (Go.Eng.T.v (Go.Value.string (ByteArray.mk #[49, 46, 69, 45, 51]))), (Go.Eng.T.v (Go.Value.string (ByteArray.mk #[48, 48, 55]))), (Go.Eng.T.v (Go.Value.string (ByteArray.mk #[49, 69, 53]))), (Go.Eng.T.v (Go.Value.string (ByteArray.mk #[46, 53])))]) x5.1) fun x6 => (ob (Go.Eng.idxN [(Go.Eng.T.v (Go.Value.string (ByteArray.mk #[48]))), (Go.Eng.T.v (Go.Value.string (ByteArray.mk #[45, 49]))), (Go.Eng.T.v (Go.Value.string (ByteArray.mk #[43, 49, 50]))), (Go.Eng.T.v (Go.Value.string (ByteArray.mk #[49, 46]))), (Go.Eng.T.v (Go.Value.string (ByteArray.mk #[50, 46, 53]))), (Go.Eng.T.v (Go.Value.string (ByteArray.mk #[45, 51, 46, 50, 53, 69, 50]))), (Go.Eng.T.v (Go.Value.string (ByteArray.mk #[49, 46, 69, 45, 51]))), (Go.Eng.T.v (Go.Value.string (ByteArray.mk #[48, 48, 55]))), (Go.Eng.T.v (Go.Value.string (ByteArray.mk #[49, 69, 53]))), (Go.Eng.T.v (Go.Value.string (ByteArray.mk #[46, 53])))] x6) fun x7 => (ob (Go.Eng.T.str? (Go.Eng.T.cell x7 0)) fun x8 => (some (Sum.inl ((), ((), (x5.2.1, (x5.2.2.1, ((0 : Int), ((ByteArray.mk #[]), ((0 : Int), ((Go.Eng.wr Go.IntKind.i64 (Go.Eng.addI (1 : Int) x0.1)), (x8, ((0 : Int), ())))))))))))))))) else (bif (Go.Eng.eqI (Go.Eng.wr Go.IntKind.i64 (Go.Eng.addI (1 : Int) x0.1)) (3 : Int)) then (ob (Go.Eng.u___brepkernelmade_Dice__Next ((), ((6 : Int), (x0.2.1, (x0.2.2.1, ()))))) fun x9 => (ob (Go.Eng.chkI (Go.Eng.lenL [(Go.Eng.T.v (Go.Value.string (ByteArray.mk #[]))), (Go.Eng.T.v (Go.Value.string (ByteArray.mk #[97, 39, 98]))), (Go.Eng.T.v (Go.Value.string (ByteArray.mk #[39, 39]))), (Go.Eng.T.v (Go.Value.string (ByteArray.mk #[120, 32, 121]))), (Go.Eng.T.v (Go.Value.string (ByteArray.mk #[47, 42]))), (Go.Eng.T.v (Go.Value.string (ByteArray.mk #[10])))]) x9.1) fun x10 => (ob (Go.Eng.idxN [(Go.Eng.T.v (Go.Value.string (ByteArray.mk #[]))), (Go.Eng.T.v (Go.Value.string (ByteArray.mk #[97, 39, 98]))), (Go.Eng.T.v (Go.Value.string (ByteArray.mk #[39, 39]))), (Go.Eng.T.v (Go.Value.string (ByteArray.mk #[120, 32, 121]))), (Go.Eng.T.v (Go.Value.string (ByteArray.mk #[47, 42]))), (Go.Eng.T.v (Go.Value.string (ByteArray.mk #[10])))] x10) fun x11 => (ob (Go.Eng.T.str? (Go.Eng.T.cell x11 0)) fun x12 => (some (Sum.inl ((), ((), (x9.2.1, (x9.2.2.1, ((0 : Int), ((ByteArray.mk #[]), ((0 : Int), ((Go.Eng.wr Go.IntKind.i64 (Go.Eng.addI (1 : Int) x0.1)), (x12, ((0 : Int), ())))))))))))))))) else (bif (Go.Eng.eqI (Go.Eng.wr Go.IntKind.i64 (Go.Eng.addI (1 : Int) x0.1)) (4 : Int)) then (ob (Go.Eng.u___brepkernelmade_Dice__Next ((), ((5 : Int), (x0.2.1, (x0.2.2.1, ()))))) fun x13 => (ob (Go.Eng.chkI (Go.Eng.lenL [(Go.Eng.T.v (Go.Value.string (ByteArray.mk #[84]))), (Go.Eng.T.v (Go.Value.string (ByteArray.mk #[70]))), (Go.Eng.T.v (Go.Value.string (ByteArray.mk #[85, 95, 49]))), (Go.Eng.T.v (Go.Value.string (ByteArray.mk #[116]))), (Go.Eng.T.v (Go.Value.string (ByteArray.mk #[65, 45, 66])))]) x13.1) fun x14 => (ob (Go.Eng.idxN [(Go.Eng.T.v (Go.Value.string (ByteArray.mk #[84]))), (Go.Eng.T.v (Go.Value.string (ByteArray.mk #[70]))), (Go.Eng.T.v (Go.Value.string (ByteArray.mk #[85, 95, 49]))), (Go.Eng.T.v (Go.Value.string (ByteArray.mk #[116]))), (Go.Eng.T.v (Go.Value.string (ByteArray.mk #[65, 45, 66])))] x14) fun x15 => (ob (Go.Eng.T.str? (Go.Eng.T.cell x15 0)) fun x16 => (some (Sum.inl ((), ((), (x13.2.1, (x13.2.2.1, ((0 : Int), ((ByteArray.mk #[]), ((0 : Int), ((Go.Eng.wr Go.IntKind.i64 (Go.Eng.addI (1 : Int) x0.1)), (x16, ((0 : Int), ())))))))))))))))) else (bif (Go.Eng.eqI (Go.Eng.wr Go.IntKind.i64 (Go.Eng.addI (1 : Int) x0.1)) (5 : Int)) then (ob (Go.Eng.u___brepkernelmade_Dice__Next ((), ((6 : Int), (x0.2.1, (x0.2.2.1, ()))))) fun x17 => (ob (Go.Eng.chkI (Go.Eng.lenL [(Go.Eng.T.v (Go.Value.string (ByteArray.mk #[49]))), (Go.Eng.T.v (Go.Value.string (ByteArray.mk #[48, 49]))), (Go.Eng.T.v (Go.Value.string (ByteArray.mk #[50, 51]))), (Go.Eng.T.v (Go.Value.string (ByteArray.mk #[50, 49, 52, 55, 52, 56, 51, 54, 52, 56]))), (Go.Eng.T.v (Go.Value.string (ByteArray.mk #[]))), (Go.Eng.T.v (Go.Value.string (ByteArray.mk #[45, 49])))]) x17.1) fun x18 => (ob (Go.Eng.idxN [(Go.Eng.T.v (Go.Value.string (ByteArray.mk #[49]))), (Go.Eng.T.v (Go.Value.string (ByteArray.mk #[48, 49]))), (Go.Eng.T.v (Go.Value.string (ByteArray.mk #[50, 51]))), (Go.Eng.T.v (Go.Value.string (ByteArray.mk #[50, 49, 52, 55, 52, 56, 51, 54, 52, 56]))), (Go.Eng.T.v (Go.Value.string (ByteArray.mk #[]))), (Go.Eng.T.v (Go.Value.string (ByteArray.mk #[45, 49])))] x18) fun x19 => (ob (Go.Eng.T.str? (Go.Eng.T.cell x19 0)) fun x20 => (some (Sum.inl ((), ((), (x17.2.1, (x17.2.2.1, ((0 : Int), ((ByteArray.mk #[]), ((0 : Int), ((Go.Eng.wr Go.IntKind.i64 (Go.Eng.addI (1 : Int) x0.1)), (x20, ((0 : Int), ())))))))))))))))) else (some (Sum.inl ((), ((), (x0.2.1, (x0.2.2.1, ((0 : Int), ((ByteArray.mk #[]), ((0 : Int), ((Go.Eng.wr Go.IntKind.i64 (Go.Eng.addI (1 : Int) x0.1)), ((ByteArray.mk #[]), ((0 : Int), ()))))))))))))))))) fun q21 => onS q21 (fun t22 => (some (t22.2.2.2.2.2.2.2.1, (t22.2.2.2.2.2.2.2.2.1, (t22.2.2.2.2.2.2.2.2.2.1, (t22.2.2.1, (t22.2.2.2.1, ()))))))) fun q23 => noS q23))
def h___brepkernelmade_Dice__Token : HT := (.seq .leaf (.seq .leaf (.seq .leaf (.seq (.join [(AEx.normal, { items := [.slot 2, .slot 4, .box 0 2, .box 3 3, .box 5 3], shapes := [.lit (Go.Eng.C.box 3 0), .lit (Go.Eng.C.box 5 0), .sl 1, .int Go.IntKind.i64, .int Go.IntKind.i64, .str, .int Go.IntKind.i64, .int Go.IntKind.i64, .str, .int Go.IntKind.i64] })] .leaf) .leaf))))
theorem ok___brepkernelmade_Dice__Token : TabOK Try.prog [] g___brepkernelmade_Dice__Token := (TabOK.cons ⟨_, Try.func9, by kernel_rfl, by kernel_rfl⟩ k___brepkernelmade_Dice__Next (calleeOf_nat _ _) (fun h => by cases h) TabOK.nil)
theorem e___brepkernelmade_Dice__Token : ∀ t, bodyG Try.prog g___brepkernelmade_Dice__Token [] h___brepkernelmade_Dice__Token Try.f13 sg___brepkernelmade_Dice__Token t = u___brepkernelmade_Dice__Token t := by
  intro t
  kernel_rfl
theorem k___brepkernelmade_Dice__Token : (calleeOf sg___brepkernelmade_Dice__Token u___brepkernelmade_Dice__Token).OK Try.prog 13 := calleeG_ok mixed ok___brepkernelmade_Dice__Token Try.func13 (by kernel_rfl) (by kernel_rfl) e___brepkernelmade_Dice__Token

/-! __brepkernelmade_Dice__Tokens -/
def sg___brepkernelmade_Dice__Tokens : Sig := { ps := [.one, .one], bs := [2], psh := [.lit (.box 0 0), .int Go.IntKind.i64, .sl 1, .int Go.IntKind.i64], rs := [.one], rsh := [.sl 3, .sl 1, .int Go.IntKind.i64] }
noncomputable def g___brepkernelmade_Dice__Tokens : List (Go.FuncId × Callee) := [(9, (calleeOf sg___brepkernelmade_Dice__Next u___brepkernelmade_Dice__Next)), (13, (calleeOf sg___brepkernelmade_Dice__Token u___brepkernelmade_Dice__Token)), (14, (calleeOf sg_ref23_ValidToken u_ref23_ValidToken))]
noncomputable def u___brepkernelmade_Dice__Tokens_l0 (s1 : (Unit × List T × Int × List T × Int × Unit)) : Option ((Unit × List T × Int × List T × Int × Unit) ⊕ ((List T × List T × Int × Unit) ⊕ Empty)) :=
  (bif (Go.Eng.ltI (0 : Int) s1.2.2.1) then (ob (α := ((Unit × List T × Int × List T × Int × Unit) ⊕ Empty)) (ob (Go.Eng.u___brepkernelmade_Dice__Token ((), (s1.2.2.2.1, (s1.2.2.2.2.1, ())))) fun x2 => (ob (Go.Eng.u_ref23_ValidToken (x2.1, (x2.2.1, (x2.2.2.1, ())))) fun x3 => (bif x3.1 then (ob (Go.Eng.room s1.2.1 [(Go.Eng.T.agg [(Go.Eng.T.v (Go.Value.int Go.IntKind.i64 x2.1)), (Go.Eng.T.v (Go.Value.string x2.2.1)), (Go.Eng.T.v (Go.Value.int Go.IntKind.i64 x2.2.2.1))])] 32) fun x4 => (some (Sum.inl ((), (x4, (s1.2.2.1, (x2.2.2.2.1, (x2.2.2.2.2.1, ())))))))) else (some (Sum.inl ((), (s1.2.1, (s1.2.2.1, (x2.2.2.2.1, (x2.2.2.2.2.1, ())))))))))) fun q5 => onS q5 (fun t6 => (some (Sum.inl ((), (t6.2.1, ((Go.Eng.wr Go.IntKind.i64 (Go.Eng.subI t6.2.2.1 (1 : Int))), (t6.2.2.2.1, (t6.2.2.2.2.1, ())))))))) fun q7 => noS q7) else (some (Sum.inr (Sum.inl (s1.2.1, (s1.2.2.2.1, (s1.2.2.2.2.1, ())))))))
noncomputable def u___brepkernelmade_Dice__Tokens (t : (Unit × (Int × ((List T) × (Int × Unit))))) : Option ((List T) × ((List T) × (Int × Unit))) :=
  (ob (Go.Eng.u___brepkernelmade_Dice__Next ((), ((Go.Eng.wr Go.IntKind.i64 (Go.Eng.addI t.2.1 (1 : Int))), (t.2.2.1, (t.2.2.2.1, ()))))) fun x0 => (ob (loopU u___brepkernelmade_Dice__Tokens_l0 ((), ([], (x0.1, (x0.2.1, (x0.2.2.1, ())))))) fun q8 => onS q8 (fun t9 => (some (t9.1, (t9.2.1, (t9.2.2.1, ()))))) fun q10 => noS q10))
def h___brepkernelmade_Dice__Tokens : HT := (.seq .leaf (.seq .leaf (.seq (.seq .leaf (.one (.loop { items := [.slot 0, .slot 5, .slot 6, .box 0 2], shapes := [.lit (Go.Eng.C.box 0 0), .row 36 3 24, .int Go.IntKind.i64, .sl 1, .int Go.IntKind.i64] } [((AEx.exit 0), { items := [.slot 5, .box 0 2], shapes := [.row 36 3 24, .sl 1, .int Go.IntKind.i64] })] (.seq .leaf (.seq (.join [(AEx.normal, { items := [.slot 0, .slot 5, .slot 6, .box 0 2], shapes := [.lit (Go.Eng.C.box 0 0), .row 36 3 24, .int Go.IntKind.i64, .sl 1, .int Go.IntKind.i64] })] .leaf) .leaf))))) .leaf)))
theorem ok___brepkernelmade_Dice__Tokens : TabOK Try.prog [14] g___brepkernelmade_Dice__Tokens := (TabOK.cons ⟨_, Try.func9, by kernel_rfl, by kernel_rfl⟩ k___brepkernelmade_Dice__Next (calleeOf_nat _ _) (fun h => by cases h) (TabOK.cons ⟨_, Try.func13, by kernel_rfl, by kernel_rfl⟩ k___brepkernelmade_Dice__Token (calleeOf_nat _ _) (fun h => by cases h) (TabOK.cons ⟨_, Try.func14, by kernel_rfl, by kernel_rfl⟩ k_ref23_ValidToken (calleeOf_nat _ _) (fun _ => (calleeOf_pure (by kernel_rfl))) TabOK.nil)))
theorem e___brepkernelmade_Dice__Tokens : ∀ t, bodyG Try.prog g___brepkernelmade_Dice__Tokens [14] h___brepkernelmade_Dice__Tokens Try.f8 sg___brepkernelmade_Dice__Tokens t = u___brepkernelmade_Dice__Tokens t := by
  intro t
  kernel_rfl
theorem k___brepkernelmade_Dice__Tokens : (calleeOf sg___brepkernelmade_Dice__Tokens u___brepkernelmade_Dice__Tokens).OK Try.prog 8 := calleeG_ok mixed ok___brepkernelmade_Dice__Tokens Try.func8 (by kernel_rfl) (by kernel_rfl) e___brepkernelmade_Dice__Tokens

/-! lexer_blank -/
def sg_lexer_blank : Sig := { ps := [.one, .one], bs := [], psh := [.str, .int Go.IntKind.i64], rs := [.one, .one], rsh := [.int Go.IntKind.i64, .bool] }
noncomputable def g_lexer_blank : List (Go.FuncId × Callee) := [(27, (orC (isLit 2 28) (calleeOf sg_lexer_run_blank u_lexer_run_blank) (orC (isLit 2 33) (calleeOf sg_lexer_run_digit u_lexer_run_digit) (orC (isLit 2 32) (calleeOf sg_lexer_run_word u_lexer_run_word) (calleeOf sg_lexer_run_inner u_lexer_run_inner))))), (28, (calleeOf sg_lexer_blank_1 u_lexer_blank_1)), (29, (calleeOf sg_strings_HasPrefix u_strings_HasPrefix)), (19, (calleeOf sg_strings_Index u_strings_Index))]
noncomputable def u_lexer_blank (t : (ByteArray × (Int × Unit))) : Option (Int × (Bool × Unit)) :=
  (ob (Go.Eng.u_lexer_run_blank (t.1, (t.2.1, ((), ())))) fun x0 => (ob (Go.Eng.subS t.1 x0.1 (Go.Eng.lenS t.1)) fun x1 => (ob (Go.Eng.u_strings_HasPrefix (x1, ((ByteArray.mk #[47, 42]), ()))) fun x2 => (bif (Bool.not x2.1) then (some (x0.1, (Bool.true, ()))) else (ob (Go.Eng.subS t.1 (Go.Eng.wr Go.IntKind.i64 (Go.Eng.addI x0.1 (2 : Int))) (Go.Eng.lenS t.1)) fun x3 => (ob (Go.Eng.u_strings_Index (x3, ((ByteArray.mk #[42, 47]), ()))) fun x4 => (some ((Go.Eng.wr Go.IntKind.i64 (Go.Eng.addI (Go.Eng.wr Go.IntKind.i64 (Go.Eng.addI x0.1 x4.1)) (4 : Int))), ((Go.Eng.leI (0 : Int) x4.1), ())))))))))
def h_lexer_blank : HT := .leaf
theorem ok_lexer_blank : TabOK Try.prog [27, 28, 29, 19] g_lexer_blank := (TabOK.cons ⟨_, Try.func27, by kernel_rfl, by kernel_rfl⟩ (orC_ok k_lexer_run_blank (orC_ok k_lexer_run_digit (orC_ok k_lexer_run_word k_lexer_run_inner))) (orC_nat (calleeOf_nat _ _) (orC_nat (calleeOf_nat _ _) (orC_nat (calleeOf_nat _ _) (calleeOf_nat _ _)))) (fun _ => (orC_pure (calleeOf_pure (by kernel_rfl)) (orC_pure (calleeOf_pure (by kernel_rfl)) (orC_pure (calleeOf_pure (by kernel_rfl)) (calleeOf_pure (by kernel_rfl)))))) (TabOK.cons ⟨_, Try.func28, by kernel_rfl, by kernel_rfl⟩ k_lexer_blank_1 (calleeOf_nat _ _) (fun _ => (calleeOf_pure (by kernel_rfl))) (TabOK.cons ⟨_, Try.func29, by kernel_rfl, by kernel_rfl⟩ k_strings_HasPrefix (calleeOf_nat _ _) (fun _ => (calleeOf_pure (by kernel_rfl))) (TabOK.cons ⟨_, Try.func19, by kernel_rfl, by kernel_rfl⟩ k_strings_Index (calleeOf_nat _ _) (fun _ => (calleeOf_pure (by kernel_rfl))) TabOK.nil))))
theorem e_lexer_blank : ∀ t, bodyG Try.prog g_lexer_blank [27, 28, 29, 19] h_lexer_blank Try.f18 sg_lexer_blank t = u_lexer_blank t := by
  intro t
  kernel_rfl
theorem k_lexer_blank : (calleeOf sg_lexer_blank u_lexer_blank).OK Try.prog 18 := calleeG_ok mixed ok_lexer_blank Try.func18 (by kernel_rfl) (by kernel_rfl) e_lexer_blank

/-! lexer_Tokens -/
def sg_lexer_Tokens : Sig := { ps := [.one], bs := [], psh := [.str], rs := [.one, .one, .one], rsh := [.sl 3, .int Go.IntKind.i64, .int Go.IntKind.i64] }
noncomputable def g_lexer_Tokens : List (Go.FuncId × Callee) := [(18, (calleeOf sg_lexer_blank u_lexer_blank)), (19, (calleeOf sg_strings_Index u_strings_Index)), (20, (calleeOf sg_lexer_token u_lexer_token))]
noncomputable def u_lexer_Tokens_l0 (s0 : (ByteArray × List T × Int × Unit)) : Option ((ByteArray × List T × Int × Unit) ⊕ ((T × Int × Int × Unit) ⊕ ((ByteArray × List T × Unit) ⊕ Empty))) :=
  (bif (Go.Eng.ltI s0.2.2.1 (Go.Eng.lenS s0.1)) then (ob (Go.Eng.u_lexer_blank (s0.1, (s0.2.2.1, ()))) fun x1 => (bif (Bool.not x1.2.1) then (ob (Go.Eng.subS s0.1 s0.2.2.1 (Go.Eng.lenS s0.1)) fun x2 => (ob (Go.Eng.u_strings_Index (x2, ((ByteArray.mk #[47, 42]), ()))) fun x3 => (some (Sum.inr (Sum.inl ((Go.Eng.T.v (Go.Value.slice (Option.none) 0 0)), ((Go.Eng.wr Go.IntKind.i64 (Go.Eng.addI x3.1 s0.2.2.1)), ((41 : Int), ())))))))) else (bif (Go.Eng.ltI s0.2.2.1 x1.1) then (some (Sum.inl (s0.1, (s0.2.1, (x1.1, ()))))) else (ob (Go.Eng.u_lexer_token (s0.1, (s0.2.2.1, ()))) fun x4 => (bif (Go.Eng.eqI x4.2.2.2.1 s0.2.2.1) then (some (Sum.inr (Sum.inl ((Go.Eng.T.v (Go.Value.slice (Option.none) 0 0)), (s0.2.2.1, ((41 : Int), ())))))) else (bif (Go.Eng.eqI (Go.Eng.lenL s0.2.1) (16384 : Int)) then (some (Sum.inr (Sum.inl ((Go.Eng.T.v (Go.Value.slice (Option.none) 0 0)), (s0.2.2.1, ((2 : Int), ())))))) else (ob (Go.Eng.room s0.2.1 [(Go.Eng.T.agg [(Go.Eng.T.v (Go.Value.int Go.IntKind.i64 x4.1)), (Go.Eng.T.v (Go.Value.string x4.2.1)), (Go.Eng.T.v (Go.Value.int Go.IntKind.i64 x4.2.2.1))])] 32) fun x5 => (some (Sum.inl (s0.1, (x5, (x4.2.2.2.1, ())))))))))))) else (some (Sum.inr (Sum.inr (Sum.inl (s0.1, (s0.2.1, ())))))))
noncomputable def u_lexer_Tokens (t : (ByteArray × Unit)) : Option ((List T) × (Int × (Int × Unit))) :=
  (bif (Go.Eng.ltI (65536 : Int) (Go.Eng.lenS t.1)) then (some ([], ((0 : Int), ((2 : Int), ())))) else (ob (loopU u_lexer_Tokens_l0 (t.1, ([], ((0 : Int), ())))) fun q6 => onS q6 (fun t7 => (ob (Go.Eng.T.sl? 3 t7.1) fun x8 => (some (x8, (t7.2.1, (t7.2.2.1, ())))))) fun q9 => onS q9 (fun t10 => (some (t10.2.1, ((Go.Eng.lenS t10.1), ((0 : Int), ()))))) fun q11 => noS q11))
def h_lexer_Tokens : HT := (.seq .leaf (.one (.seq .leaf (.seq .leaf (.seq .leaf (.seq (.seq .leaf (.one (.loop { items := [.slot 0, .slot 5, .slot 6], shapes := [.str, .row 36 3 55, .int Go.IntKind.i64] } [(AEx.ret, { items := [.slot 2, .slot 3, .slot 4], shapes := [.tree, .int Go.IntKind.i64, .int Go.IntKind.i64] }), ((AEx.exit 0), { items := [.slot 0, .slot 5], shapes := [.str, .row 36 3 55] })] .leaf))) .leaf))))))
theorem ok_lexer_Tokens : TabOK Try.prog [18, 19, 20] g_lexer_Tokens := (TabOK.cons ⟨_, Try.func18, by kernel_rfl, by kernel_rfl⟩ k_lexer_blank (calleeOf_nat _ _) (fun _ => (calleeOf_pure (by kernel_rfl))) (TabOK.cons ⟨_, Try.func19, by kernel_rfl, by kernel_rfl⟩ k_strings_Index (calleeOf_nat _ _) (fun _ => (calleeOf_pure (by kernel_rfl))) (TabOK.cons ⟨_, Try.func20, by kernel_rfl, by kernel_rfl⟩ k_lexer_token (calleeOf_nat _ _) (fun _ => (calleeOf_pure (by kernel_rfl))) TabOK.nil)))
theorem e_lexer_Tokens : ∀ t, bodyG Try.prog g_lexer_Tokens [18, 19, 20] h_lexer_Tokens Try.f11 sg_lexer_Tokens t = u_lexer_Tokens t := by
  intro t
  kernel_rfl
theorem k_lexer_Tokens : (calleeOf sg_lexer_Tokens u_lexer_Tokens).OK Try.prog 11 := calleeG_ok mixed ok_lexer_Tokens Try.func11 (by kernel_rfl) (by kernel_rfl) e_lexer_Tokens

/-! brepkernellaw23_sane -/
def sg_brepkernellaw23_sane : Sig := { ps := [], bs := [], psh := [], rs := [.one], rsh := [.bool] }
noncomputable def g_brepkernellaw23_sane : List (Go.FuncId × Callee) := [(11, (calleeOf sg_lexer_Tokens u_lexer_Tokens))]
noncomputable def u_brepkernellaw23_sane (t : Unit) : Option (Bool × Unit) :=
  (ob (Go.Eng.u_lexer_Tokens ((ByteArray.mk #[35, 49, 61, 88, 40, 39, 97, 39, 39, 98, 39, 44, 46, 84, 46, 44, 45, 49, 46, 53, 69, 50, 41, 59]), ())) fun x0 => (bif (Go.Eng.eqI x0.2.2.1 (0 : Int)) then (bif (Go.Eng.eqI x0.2.1 (24 : Int)) then (bif (Go.Eng.eqI (Go.Eng.lenL x0.1) (11 : Int)) then (ob (Go.Eng.idxL x0.1 (0 : Int)) fun x1 => (ob (Go.Eng.T.str? (Go.Eng.T.cell x1 1)) fun x2 => (bif (Go.Eng.eqS x2 (ByteArray.mk #[49])) then (ob (Go.Eng.idxL x0.1 (4 : Int)) fun x3 => (ob (Go.Eng.T.str? (Go.Eng.T.cell x3 1)) fun x4 => (bif (Go.Eng.eqS x4 (ByteArray.mk #[97, 39, 98])) then (ob (Go.Eng.idxL x0.1 (8 : Int)) fun x5 => (ob (Go.Eng.T.str? (Go.Eng.T.cell x5 1)) fun x6 => (bif (Go.Eng.eqS x6 (ByteArray.mk #[45, 49, 46, 53, 69, 50])) then (ob (Go.Eng.idxL x0.1 (10 : Int)) fun x7 => (ob (Go.Eng.T.int? Go.IntKind.i64 (Go.Eng.T.cell x7 0)) fun x8 => (some ((Go.Eng.eqI x8 (9 : Int)), ())))) else (some (Bool.false, ()))))) else (some (Bool.false, ()))))) else (some (Bool.false, ()))))) else (some (Bool.false, ()))) else (some (Bool.false, ()))) else (some (Bool.false, ()))))
def h_brepkernellaw23_sane : HT := .leaf
theorem ok_brepkernellaw23_sane : TabOK Try.prog [] g_brepkernellaw23_sane := (TabOK.cons ⟨_, Try.func11, by kernel_rfl, by kernel_rfl⟩ k_lexer_Tokens (calleeOf_nat _ _) (fun h => by cases h) TabOK.nil)
theorem e_brepkernellaw23_sane : ∀ t, bodyG Try.prog g_brepkernellaw23_sane [] h_brepkernellaw23_sane Try.f6 sg_brepkernellaw23_sane t = u_brepkernellaw23_sane t := by
  intro t
  kernel_rfl
theorem k_brepkernellaw23_sane : (calleeOf sg_brepkernellaw23_sane u_brepkernellaw23_sane).OK Try.prog 6 := calleeG_ok mixed ok_brepkernellaw23_sane Try.func6 (by kernel_rfl) (by kernel_rfl) e_brepkernellaw23_sane

/-! brepkernellaw23_same -/
def sg_brepkernellaw23_same : Sig := { ps := [.one], bs := [], psh := [.str], rs := [.one], rsh := [.bool] }
noncomputable def g_brepkernellaw23_same : List (Go.FuncId × Callee) := [(11, (calleeOf sg_lexer_Tokens u_lexer_Tokens)), (21, (calleeOf sg_ref23_Tokens u_ref23_Tokens)), (22, (calleeOf sg_ref23_Same u_ref23_Same))]
noncomputable def u_brepkernellaw23_same (t : (ByteArray × Unit)) : Option (Bool × Unit) :=
  (ob (Go.Eng.u_lexer_Tokens (t.1, ())) fun x0 => (ob (Go.Eng.u_ref23_Tokens (t.1, ())) fun x1 => (bif (Go.Eng.eqI x0.2.1 x1.2.1) then (bif (Go.Eng.eqI x0.2.2.1 x1.2.2.1) then (ob (Go.Eng.u_ref23_Same (x0.1, (x1.1, ()))) fun x2 => (some (x2.1, ()))) else (some (Bool.false, ()))) else (some (Bool.false, ())))))
def h_brepkernellaw23_same : HT := .leaf
theorem ok_brepkernellaw23_same : TabOK Try.prog [22] g_brepkernellaw23_same := (TabOK.cons ⟨_, Try.func11, by kernel_rfl, by kernel_rfl⟩ k_lexer_Tokens (calleeOf_nat _ _) (fun h => by cases h) (TabOK.cons ⟨_, Try.func21, by kernel_rfl, by kernel_rfl⟩ k_ref23_Tokens (calleeOf_nat _ _) (fun h => by cases h) (TabOK.cons ⟨_, Try.func22, by kernel_rfl, by kernel_rfl⟩ k_ref23_Same (calleeOf_nat _ _) (fun _ => (calleeOf_pure (by kernel_rfl))) TabOK.nil)))
theorem e_brepkernellaw23_same : ∀ t, bodyG Try.prog g_brepkernellaw23_same [22] h_brepkernellaw23_same Try.f12 sg_brepkernellaw23_same t = u_brepkernellaw23_same t := by
  intro t
  kernel_rfl
theorem k_brepkernellaw23_same : (calleeOf sg_brepkernellaw23_same u_brepkernellaw23_same).OK Try.prog 12 := calleeG_ok mixed ok_brepkernellaw23_same Try.func12 (by kernel_rfl) (by kernel_rfl) e_brepkernellaw23_same

/-! brepkernellaw23_LexerSpaces -/
def sg_brepkernellaw23_LexerSpaces : Sig := { ps := [.one], bs := [], psh := [.sl 1], rs := [.one], rsh := [.bool] }
noncomputable def g_brepkernellaw23_LexerSpaces : List (Go.FuncId × Callee) := [(5, (calleeOf sg_brepkernelmade_Light u_brepkernelmade_Light)), (6, (calleeOf sg_brepkernellaw23_sane u_brepkernellaw23_sane)), (7, (calleeOf sg_brepkernelmade_Roll u_brepkernelmade_Roll)), (8, (calleeOf sg___brepkernelmade_Dice__Tokens u___brepkernelmade_Dice__Tokens)), (9, (calleeOf sg___brepkernelmade_Dice__Next u___brepkernelmade_Dice__Next)), (10, (calleeOf sg_ref23_Text u_ref23_Text)), (11, (calleeOf sg_lexer_Tokens u_lexer_Tokens))]
noncomputable def u_brepkernellaw23_LexerSpaces_l0 (s7 : (Unit × List T × ByteArray × Int × Int × List T × Int × Unit)) : Option ((Unit × List T × ByteArray × Int × Int × List T × Int × Unit) ⊕ ((List T × ByteArray × Unit) ⊕ Empty)) :=
  (bif (Go.Eng.ltI s7.2.2.2.2.1 s7.2.2.2.1) then (ob (Go.Eng.cutL s7.2.1 s7.2.2.2.2.1 (Go.Eng.wr Go.IntKind.i64 (Go.Eng.addI s7.2.2.2.2.1 (1 : Int)))) fun x8 => (ob (Go.Eng.u_ref23_Text (x8, ())) fun x9 => (ob (Go.Eng.u___brepkernelmade_Dice__Next ((), ((5 : Int), (s7.2.2.2.2.2.1, (s7.2.2.2.2.2.2.1, ()))))) fun x10 => (ob (Go.Eng.chkI (Go.Eng.lenL [(Go.Eng.T.v (Go.Value.string (ByteArray.mk #[32]))), (Go.Eng.T.v (Go.Value.string (ByteArray.mk #[10, 9]))), (Go.Eng.T.v (Go.Value.string (ByteArray.mk #[47, 42, 42, 47, 32]))), (Go.Eng.T.v (Go.Value.string (ByteArray.mk #[32, 47, 42, 32, 39, 32, 42, 47]))), (Go.Eng.T.v (Go.Value.string (ByteArray.mk #[13])))]) x10.1) fun x11 => (ob (Go.Eng.idxN [(Go.Eng.T.v (Go.Value.string (ByteArray.mk #[32]))), (Go.Eng.T.v (Go.Value.string (ByteArray.mk #[10, 9]))), (Go.Eng.T.v (Go.Value.string (ByteArray.mk #[47, 42, 42, 47, 32]))), (Go.Eng.T.v (Go.Value.string (ByteArray.mk #[32, 47, 42, 32, 39, 32, 42, 47]))), (Go.Eng.T.v (Go.Value.string (ByteArray.mk #[13])))] x11) fun x12 => (ob (Go.Eng.T.str? (Go.Eng.T.cell x12 0)) fun x13 => (ob (Go.Eng.catS x9.1 x13) fun x14 => (ob (Go.Eng.catS s7.2.2.1 x14) fun x15 => (some (Sum.inl ((), (s7.2.1, (x15, (s7.2.2.2.1, ((Go.Eng.wr Go.IntKind.i64 (Go.Eng.addI s7.2.2.2.2.1 (1 : Int))), (x10.2.1, (x10.2.2.1, ()))))))))))))))))) else (some (Sum.inr (Sum.inl (s7.2.1, (s7.2.2.1, ()))))))
noncomputable def u_brepkernellaw23_LexerSpaces_l1 (s20 : (List T × ByteArray × List T × Int × Int × Unit)) : Option ((List T × ByteArray × List T × Int × Int × Unit) ⊕ ((Bool × Unit) ⊕ ((Unit) ⊕ Empty))) :=
  (bif (Go.Eng.ltI s20.2.2.2.2.1 s20.2.2.2.1) then (ob (Go.Eng.idxL s20.1 s20.2.2.2.2.1) fun x21 => (ob (Go.Eng.idxL s20.2.2.1 s20.2.2.2.2.1) fun x22 => (ob (Go.Eng.T.int? Go.IntKind.i64 (Go.Eng.T.cell x21 0)) fun x23 => (ob (Go.Eng.T.int? Go.IntKind.i64 (Go.Eng.T.cell x22 0)) fun x24 => (bif (Bool.not (Go.Eng.eqI x23 x24)) then (some (Sum.inr (Sum.inl (Bool.false, ())))) else (ob (Go.Eng.idxL s20.1 s20.2.2.2.2.1) fun x25 => (ob (Go.Eng.idxL s20.2.2.1 s20.2.2.2.2.1) fun x26 => (ob (Go.Eng.T.str? (Go.Eng.T.cell x25 1)) fun x27 => (ob (Go.Eng.T.str? (Go.Eng.T.cell x26 1)) fun x28 => (bif (Bool.not (Go.Eng.eqS x27 x28)) then (some (Sum.inr (Sum.inl (Bool.false, ())))) else (bif (Go.Eng.ltI (0 : Int) s20.2.2.2.2.1) then (ob (Go.Eng.idxL s20.2.2.1 s20.2.2.2.2.1) fun x29 => (ob (Go.Eng.idxL s20.2.2.1 (Go.Eng.wr Go.IntKind.i64 (Go.Eng.subI s20.2.2.2.2.1 (1 : Int)))) fun x30 => (ob (Go.Eng.T.int? Go.IntKind.i64 (Go.Eng.T.cell x29 2)) fun x31 => (ob (Go.Eng.T.int? Go.IntKind.i64 (Go.Eng.T.cell x30 2)) fun x32 => (bif (Go.Eng.leI x31 x32) then (some (Sum.inr (Sum.inl (Bool.false, ())))) else (ob (Go.Eng.idxL s20.2.2.1 s20.2.2.2.2.1) fun x33 => (ob (Go.Eng.T.int? Go.IntKind.i64 (Go.Eng.T.cell x33 2)) fun x34 => (bif (Go.Eng.ltI x34 (0 : Int)) then (some (Sum.inr (Sum.inl (Bool.false, ())))) else (ob (Go.Eng.idxL s20.2.2.1 s20.2.2.2.2.1) fun x35 => (ob (Go.Eng.T.int? Go.IntKind.i64 (Go.Eng.T.cell x35 2)) fun x36 => (bif (Go.Eng.leI (Go.Eng.lenS s20.2.1) x36) then (some (Sum.inr (Sum.inl (Bool.false, ())))) else (ob (Go.Eng.idxL s20.2.2.1 s20.2.2.2.2.1) fun x37 => (ob (Go.Eng.T.anyInt? (Go.Eng.T.cell x37 2)) fun x38 => (ob (Go.Eng.subS s20.2.1 x38 (Go.Eng.lenS s20.2.1)) fun x39 => (ob (Go.Eng.u_lexer_Tokens (x39, ())) fun x40 => (bif (Bool.not (Go.Eng.eqI x40.2.2.1 (0 : Int))) then (some (Sum.inr (Sum.inl (Bool.false, ())))) else (bif (Bool.not (Go.Eng.eqI (Go.Eng.lenL x40.1) (Go.Eng.wr Go.IntKind.i64 (Go.Eng.subI (Go.Eng.lenL s20.1) s20.2.2.2.2.1)))) then (some (Sum.inr (Sum.inl (Bool.false, ())))) else (ob (Go.Eng.idxL x40.1 (0 : Int)) fun x41 => (ob (Go.Eng.T.int? Go.IntKind.i64 (Go.Eng.T.cell x41 2)) fun x42 => (bif (Bool.not (Go.Eng.eqI x42 (0 : Int))) then (some (Sum.inr (Sum.inl (Bool.false, ())))) else (some (Sum.inl (s20.1, (s20.2.1, (s20.2.2.1, (s20.2.2.2.1, ((Go.Eng.wr Go.IntKind.i64 (Go.Eng.addI s20.2.2.2.2.1 (1 : Int))), ()))))))))))))))))))))))))))) else (ob (Go.Eng.idxL s20.2.2.1 s20.2.2.2.2.1) fun x43 => (ob (Go.Eng.T.int? Go.IntKind.i64 (Go.Eng.T.cell x43 2)) fun x44 => (bif (Go.Eng.ltI x44 (0 : Int)) then (some (Sum.inr (Sum.inl (Bool.false, ())))) else (ob (Go.Eng.idxL s20.2.2.1 s20.2.2.2.2.1) fun x45 => (ob (Go.Eng.T.int? Go.IntKind.i64 (Go.Eng.T.cell x45 2)) fun x46 => (bif (Go.Eng.leI (Go.Eng.lenS s20.2.1) x46) then (some (Sum.inr (Sum.inl (Bool.false, ())))) else (ob (Go.Eng.idxL s20.2.2.1 s20.2.2.2.2.1) fun x47 => (ob (Go.Eng.T.anyInt? (Go.Eng.T.cell x47 2)) fun x48 => (ob (Go.Eng.subS s20.2.1 x48 (Go.Eng.lenS s20.2.1)) fun x49 => (ob (Go.Eng.u_lexer_Tokens (x49, ())) fun x50 => (bif (Bool.not (Go.Eng.eqI x50.2.2.1 (0 : Int))) then (some (Sum.inr (Sum.inl (Bool.false, ())))) else (bif (Bool.not (Go.Eng.eqI (Go.Eng.lenL x50.1) (Go.Eng.wr Go.IntKind.i64 (Go.Eng.subI (Go.Eng.lenL s20.1) s20.2.2.2.2.1)))) then (some (Sum.inr (Sum.inl (Bool.false, ())))) else (ob (Go.Eng.idxL x50.1 (0 : Int)) fun x51 => (ob (Go.Eng.T.int? Go.IntKind.i64 (Go.Eng.T.cell x51 2)) fun x52 => (bif (Bool.not (Go.Eng.eqI x52 (0 : Int))) then (some (Sum.inr (Sum.inl (Bool.false, ())))) else (some (Sum.inl (s20.1, (s20.2.1, (s20.2.2.1, (s20.2.2.2.1, ((Go.Eng.wr Go.IntKind.i64 (Go.Eng.addI s20.2.2.2.2.1 (1 : Int))), ()))))))))))))))))))))))))))))))))) else (some (Sum.inr (Sum.inr (Sum.inl ())))))
noncomputable def u_brepkernellaw23_LexerSpaces (t : ((List T) × Unit)) : Option (Bool × Unit) :=
  (ob (Go.Eng.u_brepkernelmade_Light (t.1, ())) fun x0 => (bif (Bool.not x0.1) then (ob (Go.Eng.u_brepkernellaw23_sane ()) fun x1 => (some (x1.1, ()))) else (ob (Go.Eng.u_brepkernelmade_Roll (t.1, ())) fun x2 => (ob (Go.Eng.u___brepkernelmade_Dice__Tokens ((), ((8 : Int), (x2.1, (x2.2.1, ()))))) fun x3 => (ob (Go.Eng.u___brepkernelmade_Dice__Next ((), ((3 : Int), (x3.2.1, (x3.2.2.1, ()))))) fun x4 => (ob (Go.Eng.chkI (Go.Eng.lenL [(Go.Eng.T.v (Go.Value.string (ByteArray.mk #[]))), (Go.Eng.T.v (Go.Value.string (ByteArray.mk #[32]))), (Go.Eng.T.v (Go.Value.string (ByteArray.mk #[47, 42, 32, 97, 32, 42, 47])))]) x4.1) fun x5 => (ob (Go.Eng.idxN [(Go.Eng.T.v (Go.Value.string (ByteArray.mk #[]))), (Go.Eng.T.v (Go.Value.string (ByteArray.mk #[32]))), (Go.Eng.T.v (Go.Value.string (ByteArray.mk #[47, 42, 32, 97, 32, 42, 47])))] x5) fun x6 => (ob (Go.Eng.T.str? (Go.Eng.T.cell x6 0)) fun x16 => (ob (loopU u_brepkernellaw23_LexerSpaces_l0 ((), (x3.1, (x16, ((Go.Eng.lenL x3.1), ((0 : Int), (x4.2.1, (x4.2.2.1, ())))))))) fun q17 => onS q17 (fun t18 => (ob (Go.Eng.u_lexer_Tokens (t18.2.1, ())) fun x19 => (bif (Bool.not (Go.Eng.eqI x19.2.2.1 (0 : Int))) then (some (Bool.false, ())) else (bif (Bool.not (Go.Eng.eqI x19.2.1 (Go.Eng.lenS t18.2.1))) then (some (Bool.false, ())) else (bif (Bool.not (Go.Eng.eqI (Go.Eng.lenL t18.1) (Go.Eng.lenL x19.1))) then (some (Bool.false, ())) else (ob (loopU u_brepkernellaw23_LexerSpaces_l1 (t18.1, (t18.2.1, (x19.1, ((Go.Eng.lenL t18.1), ((0 : Int), ())))))) fun q53 => onS q53 (fun t54 => (some (t54.1, ()))) fun q55 => onS q55 (fun t56 => (ob (Go.Eng.u_brepkernellaw23_sane ()) fun x57 => (some (x57.1, ())))) fun q58 => noS q58)))))) fun q59 => noS q59)))))))))
def h_brepkernellaw23_LexerSpaces : HT := (.seq .leaf (.seq .leaf (.seq .leaf (.seq .leaf (.seq .leaf (.seq (.seq .leaf (.one (.loop { items := [.slot 3, .slot 4, .slot 5, .slot 28, .slot 29, .box 19 2], shapes := [.lit (Go.Eng.C.box 19 0), .sl 3, .str, .int Go.IntKind.i64, .int Go.IntKind.i64, .sl 1, .int Go.IntKind.i64] } [((AEx.exit 0), { items := [.slot 4, .slot 5], shapes := [.sl 3, .str] })] .leaf))) (.seq .leaf (.seq .leaf (.seq (.seq .leaf (.one (.loop { items := [.slot 4, .slot 5, .slot 7, .slot 69, .slot 70], shapes := [.sl 3, .str, .sl 3, .int Go.IntKind.i64, .int Go.IntKind.i64] } [(AEx.ret, { items := [.slot 2], shapes := [.bool] }), ((AEx.exit 2), { items := [], shapes := [] })] .leaf))) .leaf)))))))))
theorem ok_brepkernellaw23_LexerSpaces : TabOK Try.prog [5, 6, 10] g_brepkernellaw23_LexerSpaces := (TabOK.cons ⟨_, Try.func5, by kernel_rfl, by kernel_rfl⟩ k_brepkernelmade_Light (calleeOf_nat _ _) (fun _ => (calleeOf_pure (by kernel_rfl))) (TabOK.cons ⟨_, Try.func6, by kernel_rfl, by kernel_rfl⟩ k_brepkernellaw23_sane (calleeOf_nat _ _) (fun _ => (calleeOf_pure (by kernel_rfl))) (TabOK.cons ⟨_, Try.func7, by kernel_rfl, by kernel_rfl⟩ k_brepkernelmade_Roll (calleeOf_nat _ _) (fun h => by cases h) (TabOK.cons ⟨_, Try.func8, by kernel_rfl, by kernel_rfl⟩ k___brepkernelmade_Dice__Tokens (calleeOf_nat _ _) (fun h => by cases h) (TabOK.cons ⟨_, Try.func9, by kernel_rfl, by kernel_rfl⟩ k___brepkernelmade_Dice__Next (calleeOf_nat _ _) (fun h => by cases h) (TabOK.cons ⟨_, Try.func10, by kernel_rfl, by kernel_rfl⟩ k_ref23_Text (calleeOf_nat _ _) (fun _ => (calleeOf_pure (by kernel_rfl))) (TabOK.cons ⟨_, Try.func11, by kernel_rfl, by kernel_rfl⟩ k_lexer_Tokens (calleeOf_nat _ _) (fun h => by cases h) TabOK.nil)))))))
theorem e_brepkernellaw23_LexerSpaces : ∀ t, bodyG Try.prog g_brepkernellaw23_LexerSpaces [5, 6, 10] h_brepkernellaw23_LexerSpaces Try.f3 sg_brepkernellaw23_LexerSpaces t = u_brepkernellaw23_LexerSpaces t := by
  intro t
  kernel_rfl
theorem k_brepkernellaw23_LexerSpaces : (calleeOf sg_brepkernellaw23_LexerSpaces u_brepkernellaw23_LexerSpaces).OK Try.prog 3 := calleeG_ok mixed ok_brepkernellaw23_LexerSpaces Try.func3 (by kernel_rfl) (by kernel_rfl) e_brepkernellaw23_LexerSpaces

/-! brepkernellaw23_LexerLimits -/
def sg_brepkernellaw23_LexerLimits : Sig := { ps := [.one, .one], bs := [], psh := [.int Go.IntKind.u16, .int Go.IntKind.u8], rs := [.one], rsh := [.bool] }
noncomputable def g_brepkernellaw23_LexerLimits : List (Go.FuncId × Callee) := [(12, (calleeOf sg_brepkernellaw23_same u_brepkernellaw23_same)), (6, (calleeOf sg_brepkernellaw23_sane u_brepkernellaw23_sane))]
noncomputable def u_brepkernellaw23_LexerLimits_l0 (s2 : (Int × Int × List T × Int × Int × Unit)) : Option ((Int × Int × List T × Int × Int × Unit) ⊕ ((Int × Int × List T × Unit) ⊕ Empty)) :=
  (bif (Go.Eng.ltI s2.2.2.2.2.1 s2.2.2.2.1) then (ob (Go.Eng.chkI (Go.Eng.lenL s2.2.2.1) s2.2.2.2.2.1) fun x3 => (ob (Go.Eng.idxN s2.2.2.1 x3) fun x4 => (some (Sum.inl (s2.1, (s2.2.1, ((List.set s2.2.2.1 x3 (Go.Eng.T.upd 1 x4 0 [(Go.Eng.T.v (Go.Value.int Go.IntKind.u8 (32 : Int)))])), (s2.2.2.2.1, ((Go.Eng.wr Go.IntKind.i64 (Go.Eng.addI s2.2.2.2.2.1 (1 : Int))), ()))))))))) else (some (Sum.inr (Sum.inl (s2.1, (s2.2.1, (s2.2.2.1, ())))))))
noncomputable def u_brepkernellaw23_LexerLimits_l1 (s14 : (List T × List T × Int × Int × Unit)) : Option ((List T × List T × Int × Int × Unit) ⊕ ((List T × List T × Unit) ⊕ Empty)) :=
  (bif (Go.Eng.ltI s14.2.2.2.1 s14.2.2.1) then (ob (Go.Eng.chkI (Go.Eng.lenL s14.2.1) s14.2.2.2.1) fun x15 => (ob (Go.Eng.idxN s14.2.1 x15) fun x16 => (some (Sum.inl (s14.1, ((List.set s14.2.1 x15 (Go.Eng.T.upd 1 x16 0 [(Go.Eng.T.v (Go.Value.int Go.IntKind.u8 (44 : Int)))])), (s14.2.2.1, ((Go.Eng.wr Go.IntKind.i64 (Go.Eng.addI s14.2.2.2.1 (1 : Int))), ())))))))) else (some (Sum.inr (Sum.inl (s14.1, (s14.2.1, ()))))))
noncomputable def u_brepkernellaw23_LexerLimits (t : (Int × (Int × Unit))) : Option (Bool × Unit) :=
  (ob (Go.Eng.nz (3 : Int)) fun x0 => (ob (Go.Eng.mkLen (Go.Eng.wr Go.IntKind.i64 (Go.Eng.subI (Go.Eng.wr Go.IntKind.i64 (Go.Eng.addI (65536 : Int) (Go.Eng.wr Go.IntKind.i64 (Go.Eng.modI t.2.1 x0)))) (1 : Int))) (Go.Eng.wr Go.IntKind.i64 (Go.Eng.subI (Go.Eng.wr Go.IntKind.i64 (Go.Eng.addI (65536 : Int) (Go.Eng.wr Go.IntKind.i64 (Go.Eng.modI t.2.1 x0)))) (1 : Int))) 1) fun x1 => (ob (loopU u_brepkernellaw23_LexerLimits_l0 (t.1, (t.2.1, ((Go.Eng.repL x1.1 (Go.Eng.T.v (Go.Value.int Go.IntKind.u8 (0 : Int)))), ((Go.Eng.lenL (Go.Eng.repL x1.1 (Go.Eng.T.v (Go.Value.int Go.IntKind.u8 (0 : Int))))), ((0 : Int), ())))))) fun q5 => onS q5 (fun t6 => (ob (Go.Eng.nz (65536 : Int)) fun x7 => (ob (α := ((Int × List T × Unit) ⊕ Empty)) (bif (Go.Eng.ltI (Go.Eng.modI (Go.Eng.wr Go.IntKind.i64 t6.1) x7) (Go.Eng.lenL t6.2.2.1)) then (ob (Go.Eng.chkI (Go.Eng.lenL t6.2.2.1) (Go.Eng.modI (Go.Eng.wr Go.IntKind.i64 t6.1) x7)) fun x8 => (ob (Go.Eng.idxN t6.2.2.1 x8) fun x9 => (some (Sum.inl (t6.2.1, ((List.set t6.2.2.1 x8 (Go.Eng.T.upd 1 x9 0 [(Go.Eng.T.v (Go.Value.int Go.IntKind.u8 (40 : Int)))])), ())))))) else (some (Sum.inl (t6.2.1, (t6.2.2.1, ()))))) fun q10 => onS q10 (fun t11 => (ob (Go.Eng.nz (2 : Int)) fun x12 => (ob (Go.Eng.mkLen (Go.Eng.wr Go.IntKind.i64 (Go.Eng.addI (16384 : Int) (Go.Eng.wr Go.IntKind.i64 (Go.Eng.modI t11.1 x12)))) (Go.Eng.wr Go.IntKind.i64 (Go.Eng.addI (16384 : Int) (Go.Eng.wr Go.IntKind.i64 (Go.Eng.modI t11.1 x12)))) 1) fun x13 => (ob (loopU u_brepkernellaw23_LexerLimits_l1 (t11.2.1, ((Go.Eng.repL x13.1 (Go.Eng.T.v (Go.Value.int Go.IntKind.u8 (0 : Int)))), ((Go.Eng.lenL (Go.Eng.repL x13.1 (Go.Eng.T.v (Go.Value.int Go.IntKind.u8 (0 : Int))))), ((0 : Int), ()))))) fun q17 => onS q17 (fun t18 => (ob (Go.Eng.strOf t18.1) fun x19 => (ob (Go.Eng.u_brepkernellaw23_same (x19, ())) fun x20 => (bif x20.1 then (ob (Go.Eng.strOf t18.2.1) fun x21 => (ob (Go.Eng.u_brepkernellaw23_same (x21, ())) fun x22 => (bif x22.1 then (ob (Go.Eng.u_brepkernellaw23_sane ()) fun x23 => (some (x23.1, ()))) else (some (Bool.false, ()))))) else (some (Bool.false, ())))))) fun q24 => noS q24)))) fun q25 => noS q25))) fun q26 => noS q26)))
def h_brepkernellaw23_LexerLimits : HT := (.seq .leaf (.seq .leaf (.seq (.seq .leaf (.one (.loop { items := [.slot 0, .slot 1, .slot 5, .slot 17, .slot 18], shapes := [.int Go.IntKind.u16, .int Go.IntKind.u8, .row 5 1 15, .int Go.IntKind.i64, .int Go.IntKind.i64] } [((AEx.exit 0), { items := [.slot 0, .slot 1, .slot 5], shapes := [.int Go.IntKind.u16, .int Go.IntKind.u8, .row 5 1 15] })] .leaf))) (.seq .leaf (.seq (.join [(AEx.normal, { items := [.slot 1, .slot 5], shapes := [.int Go.IntKind.u8, .row 5 1 15] })] .leaf) (.seq .leaf (.seq (.seq .leaf (.one (.loop { items := [.slot 5, .slot 8, .slot 41, .slot 42], shapes := [.row 5 1 15, .row 5 1 39, .int Go.IntKind.i64, .int Go.IntKind.i64] } [((AEx.exit 2), { items := [.slot 5, .slot 8], shapes := [.row 5 1 15, .row 5 1 39] })] .leaf))) .leaf)))))))
theorem ok_brepkernellaw23_LexerLimits : TabOK Try.prog [12, 6] g_brepkernellaw23_LexerLimits := (TabOK.cons ⟨_, Try.func12, by kernel_rfl, by kernel_rfl⟩ k_brepkernellaw23_same (calleeOf_nat _ _) (fun _ => (calleeOf_pure (by kernel_rfl))) (TabOK.cons ⟨_, Try.func6, by kernel_rfl, by kernel_rfl⟩ k_brepkernellaw23_sane (calleeOf_nat _ _) (fun _ => (calleeOf_pure (by kernel_rfl))) TabOK.nil))
theorem e_brepkernellaw23_LexerLimits : ∀ t, bodyG Try.prog g_brepkernellaw23_LexerLimits [12, 6] h_brepkernellaw23_LexerLimits Try.f4 sg_brepkernellaw23_LexerLimits t = u_brepkernellaw23_LexerLimits t := by
  intro t
  kernel_rfl
theorem k_brepkernellaw23_LexerLimits : (calleeOf sg_brepkernellaw23_LexerLimits u_brepkernellaw23_LexerLimits).OK Try.prog 4 := calleeG_ok mixed ok_brepkernellaw23_LexerLimits Try.func4 (by kernel_rfl) (by kernel_rfl) e_brepkernellaw23_LexerLimits

end Go.Eng
