/- The functions of this seat as plain functions on tuples, each proved to be what its code comes to; no conditions, but that nothing is said where the plain function gives nothing. -/
import Derived.Shelf.Strings.Builder1
import Derived.Shelf.Strings.Builder2
import Derived.Shelf.Strings.BuilderF
import Derived.Shelf.Strings.BuilderK
import Derived.Shelf.Utf8.RuneCount
import Derived.Shelf.Strings.Builder2Cap
import Derived.Shelf.Strings.Search1
import Derived.Shelf.Strings.Search2
import Derived.Shelf.Strings.Search3
import Derived.Shelf.Strings.Count
import Derived.Shelf.LaysM
import Derived.Shelf.Strings.Shaped
import Derived.Shelf.Strings.Prefix
import Derived.Shelf.Strings.Split
import Derived.Shelf.Strings.Replace
import Derived.Shelf.Strings.SplitShaped
import Derived.Shelf.Unicode.Decode
import Derived.Shelf.Strings.RuneCount
import Derived.Shelf.Unicode.DecodeSlow
import Derived.Shelf.Unicode.DecodeAny
import Derived.Shelf.Strings.BuilderCap
import Derived.Test.YtgjoeikaglmoeaaDoorProg
import Derived.Test.YtgjoeikaglmoeaaDoorEng2
set_option linter.unusedSimpArgs false
set_option linter.unusedVariables false

namespace Go.Proofs
open Go.Shelf
def Tryd.lays169_ren : Go.Shelf.Ren := ⟨fun | 169 => 21 | n => n, fun | 70 => 44 | 9 => 9 | 0 => 0 | 72 => 47 | 37 => 45 | 127 => 66 | 3 => 3 | 5 => 5 | n => n, fun | n => n⟩
theorem Tryd.lays169 : Go.Proofs.Lays.n169 Tryd.prog Tryd.lays169_ren := {
  mixed := by kernel_rfl
  f169 := Tryd.func21.trans (congrArg some (by kernel_rfl))
  t0 := Tryd.underlying0
  a0 := Tryd.isAgg0
  z0 := Tryd.sizeOf0
  v0 := Tryd.zeroValue0
  t3 := Tryd.underlying3
  a3 := Tryd.isAgg3
  z3 := Tryd.sizeOf3
  v3 := Tryd.zeroValue3
  t9 := Tryd.underlying9
  a9 := Tryd.isAgg9
  z9 := Tryd.sizeOf9
  v9 := Tryd.zeroValue9
  t37 := Tryd.underlying45
  a37 := Tryd.isAgg45
  z37 := Tryd.sizeOf45
  v37 := Tryd.zeroValue45
  t70 := Tryd.underlying44
  a70 := Tryd.isAgg44
  z70 := Tryd.sizeOf44
  v70 := Tryd.zeroValue44
  t72 := Tryd.underlying47
  a72 := Tryd.isAgg47
  z72 := Tryd.sizeOf47
  v72 := Tryd.zeroValue47
  t127 := Tryd.underlying66
  a127 := Tryd.isAgg66
  z127 := Tryd.sizeOf66
  v127 := Tryd.zeroValue66 }
theorem Tryd.Builder_Extra_169 : Builder.Extra Tryd.prog Tryd.lays169_ren := {
  sizeBuilder := by kernel_rfl
  liesBuilder := by kernel_rfl
  t5 := Tryd.underlying5
  a5 := Tryd.isAgg5
  z5 := Tryd.sizeOf5
  v5 := Tryd.zeroValue5
  infoByte := by kernel_rfl
  cellsByte := by kernel_rfl
  sizeByte := by kernel_rfl
  neB5 := by decide }
open Go.RowKit in
theorem Tryd.Builder_String (B b : Nat) (l : List UInt8) (w : World) (h : Lib.IsBuilder 47 5 B b (Lib.byteCells l) w) (h0 : l ≠ []) :
    Calls Tryd.prog 21 #[.pointer (some ⟨b, 0, none⟩)] w fun e w' => e = .returned (.string ⟨l.toArray⟩) ∧ Below B w w' := Any.Builder_String Tryd.lays169 Tryd.Builder_Extra_169 B b l w h h0
open Go.RowKit in
theorem Tryd.Builder_String_empty (B b : Nat) (w : World) (h : Lib.IsBuilder 47 5 B b [] w) (hBw : B ≤ w.heap.size) :
    Calls Tryd.prog 21 #[.pointer (some ⟨b, 0, none⟩)] w fun e w' => e = .returned (.string ⟨#[]⟩) ∧ Below B w w' := Any.Builder_String_empty Tryd.lays169 Tryd.Builder_Extra_169 B b w h hBw
open Go.RowKit in
theorem Tryd.Builder_String_any (B b : Nat) (l : List UInt8) (w : World) (h : Lib.IsBuilder 47 5 B b (Lib.byteCells l) w) (hBw : B ≤ w.heap.size) :
    Calls Tryd.prog 21 #[.pointer (some ⟨b, 0, none⟩)] w fun e w' => e = .returned (.string ⟨l.toArray⟩) ∧ Below B w w' := Any.Builder_String_any Tryd.lays169 Tryd.Builder_Extra_169 B b l w h hBw
def Tryd.lays241_ren : Go.Shelf.Ren := ⟨fun | 241 => 65 | 277 => 67 | n => n, fun | 70 => 44 | 3 => 3 | 0 => 0 | 72 => 47 | 37 => 45 | 5 => 5 | n => n, fun | n => n⟩
theorem Tryd.lays241 : Go.Proofs.Lays.n241 Tryd.prog Tryd.lays241_ren := {
  mixed := by kernel_rfl
  f241 := Tryd.func65.trans (congrArg some (by kernel_rfl))
  f277 := Tryd.func67.trans (congrArg some (by kernel_rfl))
  t0 := Tryd.underlying0
  a0 := Tryd.isAgg0
  z0 := Tryd.sizeOf0
  v0 := Tryd.zeroValue0
  t3 := Tryd.underlying3
  a3 := Tryd.isAgg3
  z3 := Tryd.sizeOf3
  v3 := Tryd.zeroValue3
  t37 := Tryd.underlying45
  a37 := Tryd.isAgg45
  z37 := Tryd.sizeOf45
  v37 := Tryd.zeroValue45
  t70 := Tryd.underlying44
  a70 := Tryd.isAgg44
  z70 := Tryd.sizeOf44
  v70 := Tryd.zeroValue44
  t72 := Tryd.underlying47
  a72 := Tryd.isAgg47
  z72 := Tryd.sizeOf47
  v72 := Tryd.zeroValue47 }
theorem Tryd.Builder_Extra_241 : Builder.Extra Tryd.prog Tryd.lays241_ren := {
  sizeBuilder := by kernel_rfl
  liesBuilder := by kernel_rfl
  t5 := Tryd.underlying5
  a5 := Tryd.isAgg5
  z5 := Tryd.sizeOf5
  v5 := Tryd.zeroValue5
  infoByte := by kernel_rfl
  cellsByte := by kernel_rfl
  sizeByte := by kernel_rfl
  neB5 := by decide }
open Go.RowKit in
theorem Tryd.Builder_grow_fresh (B b n : Nat) (w : World) (hB : B ≤ b) (hbk : w.heap[b]? = some (.cells #[.pointer (some ⟨b, 0, none⟩), .slice none 0 0] 47 (0, 0))) (hBw : B ≤ w.heap.size) (hn : n ≤ 281474976710656) :
    Calls Tryd.prog 65 #[.pointer (some ⟨b, 0, none⟩), .int .i64 n] w fun e w' => e = .returned (.tuple #[]) ∧ (Lib.BuilderAt 47 5 B b (.pointer (some ⟨b, 0, none⟩)) [] w' ∧ Below B w w') := Any.Builder_grow_fresh Tryd.lays241 Tryd.Builder_Extra_241 B b n w hB hbk hBw hn
def Tryd.lays165_ren : Go.Shelf.Ren := ⟨fun | 165 => 59 | 240 => 32 | 241 => 65 | 276 => 50 | 277 => 67 | n => n, fun | 70 => 44 | 3 => 3 | 0 => 0 | 4 => 4 | 9 => 9 | 20 => 20 | 72 => 47 | 37 => 45 | 164 => 75 | 5 => 5 | n => n, fun | n => n⟩
theorem Tryd.lays165 : Go.Proofs.Lays.n165 Tryd.prog Tryd.lays165_ren := {
  mixed := by kernel_rfl
  f165 := Tryd.func59.trans (congrArg some (by kernel_rfl))
  f240 := Tryd.func32.trans (congrArg some (by kernel_rfl))
  f241 := Tryd.func65.trans (congrArg some (by kernel_rfl))
  f276 := Tryd.func50.trans (congrArg some (by kernel_rfl))
  f277 := Tryd.func67.trans (congrArg some (by kernel_rfl))
  t0 := Tryd.underlying0
  a0 := Tryd.isAgg0
  z0 := Tryd.sizeOf0
  v0 := Tryd.zeroValue0
  t3 := Tryd.underlying3
  a3 := Tryd.isAgg3
  z3 := Tryd.sizeOf3
  v3 := Tryd.zeroValue3
  t4 := Tryd.underlying4
  a4 := Tryd.isAgg4
  z4 := Tryd.sizeOf4
  v4 := Tryd.zeroValue4
  t9 := Tryd.underlying9
  a9 := Tryd.isAgg9
  z9 := Tryd.sizeOf9
  v9 := Tryd.zeroValue9
  t20 := Tryd.underlying20
  a20 := Tryd.isAgg20
  z20 := Tryd.sizeOf20
  v20 := Tryd.zeroValue20
  t37 := Tryd.underlying45
  a37 := Tryd.isAgg45
  z37 := Tryd.sizeOf45
  v37 := Tryd.zeroValue45
  t70 := Tryd.underlying44
  a70 := Tryd.isAgg44
  z70 := Tryd.sizeOf44
  v70 := Tryd.zeroValue44
  t72 := Tryd.underlying47
  a72 := Tryd.isAgg47
  z72 := Tryd.sizeOf47
  v72 := Tryd.zeroValue47
  t164 := Tryd.underlying75
  a164 := Tryd.isAgg75
  z164 := Tryd.sizeOf75
  v164 := Tryd.zeroValue75 }
theorem Tryd.Builder_Extra_165 : Builder.Extra Tryd.prog Tryd.lays165_ren := {
  sizeBuilder := by kernel_rfl
  liesBuilder := by kernel_rfl
  t5 := Tryd.underlying5
  a5 := Tryd.isAgg5
  z5 := Tryd.sizeOf5
  v5 := Tryd.zeroValue5
  infoByte := by kernel_rfl
  cellsByte := by kernel_rfl
  sizeByte := by kernel_rfl
  neB5 := by decide }
open Go.RowKit in
theorem Tryd.Builder_Grow_fresh (B b n : Nat) (w : World) (hB : B ≤ b) (hbk : w.heap[b]? = some (.cells #[.pointer none, .slice none 0 0] 47 (0, 0))) (hBw : B ≤ w.heap.size) (hn : n ≤ 281474976710656) :
    Calls Tryd.prog 59 #[.pointer (some ⟨b, 0, none⟩), .int .i64 n] w fun e w' => e = .returned (.tuple #[]) ∧ (Lib.BuilderAt 47 5 B b (.pointer (some ⟨b, 0, none⟩)) [] w' ∧ Below B w w') := Any.Builder_Grow_fresh Tryd.lays165 Tryd.Builder_Extra_165 B b n w hB hbk hBw hn
open Go.RowKit in
theorem Tryd.Builder_String_f (B b : Nat) (l : List UInt8) (w : World) (h : Lib.IsBuilderF 47 5 B b (Lib.byteCells l) w) (h0 : l ≠ []) :
    Calls Tryd.prog 21 #[.pointer (some ⟨b, 0, none⟩)] w fun e w' => e = .returned (.string ⟨l.toArray⟩) ∧ (Lib.IsBuilderF 47 5 B b (Lib.byteCells l) w' ∧ Below B w w') := Any.Builder_String_f Tryd.lays169 Tryd.Builder_Extra_169 B b l w h h0
open Go.RowKit in
theorem Tryd.Builder_String_empty_f (B b : Nat) (w : World) (h : Lib.IsBuilderF 47 5 B b [] w) (hBw : B ≤ w.heap.size) :
    Calls Tryd.prog 21 #[.pointer (some ⟨b, 0, none⟩)] w fun e w' => e = .returned (.string ⟨#[]⟩) ∧ (Lib.IsBuilderF 47 5 B b [] w' ∧ Below B w w') := Any.Builder_String_empty_f Tryd.lays169 Tryd.Builder_Extra_169 B b w h hBw
open Go.RowKit in
theorem Tryd.Builder_String_any_f (B b : Nat) (l : List UInt8) (w : World) (h : Lib.IsBuilderF 47 5 B b (Lib.byteCells l) w) (hBw : B ≤ w.heap.size) :
    Calls Tryd.prog 21 #[.pointer (some ⟨b, 0, none⟩)] w fun e w' => e = .returned (.string ⟨l.toArray⟩) ∧ (Lib.IsBuilderF 47 5 B b (Lib.byteCells l) w' ∧ Below B w w') := Any.Builder_String_any_f Tryd.lays169 Tryd.Builder_Extra_169 B b l w h hBw
open Go.RowKit in
theorem Tryd.Builder_String_k (B b : Nat) (l : List UInt8) (w : World) (h : Lib.IsBuilderF 47 5 B b (Lib.byteCells l) w) (h0 : l ≠ []) :
    Calls Tryd.prog 21 #[.pointer (some ⟨b, 0, none⟩)] w fun e w' => e = .returned (.string ⟨l.toArray⟩) ∧ (Lib.IsBuilderF 47 5 B b (Lib.byteCells l) w' ∧ Below B w w' ∧ Lib.OthersKept 5 (some b) w w') := Any.Builder_String_k Tryd.lays169 Tryd.Builder_Extra_169 B b l w h h0
open Go.RowKit in
theorem Tryd.Builder_String_empty_k (B b : Nat) (w : World) (h : Lib.IsBuilderF 47 5 B b [] w) (hBw : B ≤ w.heap.size) :
    Calls Tryd.prog 21 #[.pointer (some ⟨b, 0, none⟩)] w fun e w' => e = .returned (.string ⟨#[]⟩) ∧ (Lib.IsBuilderF 47 5 B b [] w' ∧ Below B w w' ∧ Lib.OthersKept 5 (some b) w w') := Any.Builder_String_empty_k Tryd.lays169 Tryd.Builder_Extra_169 B b w h hBw
open Go.RowKit in
theorem Tryd.Builder_String_any_k (B b : Nat) (l : List UInt8) (w : World) (h : Lib.IsBuilderF 47 5 B b (Lib.byteCells l) w) (hBw : B ≤ w.heap.size) :
    Calls Tryd.prog 21 #[.pointer (some ⟨b, 0, none⟩)] w fun e w' => e = .returned (.string ⟨l.toArray⟩) ∧ (Lib.IsBuilderF 47 5 B b (Lib.byteCells l) w' ∧ Below B w w' ∧ Lib.OthersKept 5 (some b) w w') := Any.Builder_String_any_k Tryd.lays169 Tryd.Builder_Extra_169 B b l w h hBw
def Tryd.lays195_ren : Go.Shelf.Ren := ⟨fun | 195 => 63 | n => n, fun | 9 => 9 | 3 => 3 | 0 => 0 | 4 => 4 | n => n, fun | n => n⟩
theorem Tryd.lays195 : Go.Proofs.Lays.n195 Tryd.prog Tryd.lays195_ren := {
  mixed := by kernel_rfl
  f195 := Tryd.func63.trans (congrArg some (by kernel_rfl))
  t0 := Tryd.underlying0
  a0 := Tryd.isAgg0
  z0 := Tryd.sizeOf0
  v0 := Tryd.zeroValue0
  t3 := Tryd.underlying3
  a3 := Tryd.isAgg3
  z3 := Tryd.sizeOf3
  v3 := Tryd.zeroValue3
  t4 := Tryd.underlying4
  a4 := Tryd.isAgg4
  z4 := Tryd.sizeOf4
  v4 := Tryd.zeroValue4
  t9 := Tryd.underlying9
  a9 := Tryd.isAgg9
  z9 := Tryd.sizeOf9
  v9 := Tryd.zeroValue9 }
open Go.RowKit in
theorem Tryd.utf8_RuneCountInString (s : ByteArray) (w : World) (hs : s.size < 9223372036854775807) :
    Calls Tryd.prog 63 #[.string s] w fun e w' => e = .returned (.int .i64 (Lib.runeCount s)) ∧ ∃ pos, w' = w.iter s pos := Any.utf8_RuneCountInString Tryd.lays195 s w hs
open Go.RowKit in
theorem Tryd.Builder_grow_fresh_cap (B b n : Nat) (w : World) (hB : B ≤ b) (hbk : w.heap[b]? = some (.cells #[.pointer (some ⟨b, 0, none⟩), .slice none 0 0] 47 (0, 0))) (hBw : B ≤ w.heap.size) (hn : n ≤ 281474976710656) :
    Calls Tryd.prog 65 #[.pointer (some ⟨b, 0, none⟩), .int .i64 n] w fun e w' => e = .returned (.tuple #[]) ∧ (Lib.BuilderAt 47 5 B b (.pointer (some ⟨b, 0, none⟩)) [] w' ∧ Below B w w') ∧ ∃ p cap, w'.cell? ⟨b, 1, none⟩ = some (.slice p 0 cap) ∧ n ≤ cap := Any.Builder_grow_fresh_cap Tryd.lays241 Tryd.Builder_Extra_241 B b n w hB hbk hBw hn
open Go.RowKit in
theorem Tryd.Builder_Grow_fresh_cap (B b n : Nat) (w : World) (hB : B ≤ b) (hbk : w.heap[b]? = some (.cells #[.pointer none, .slice none 0 0] 47 (0, 0))) (hBw : B ≤ w.heap.size) (hn : n ≤ 281474976710656) :
    Calls Tryd.prog 59 #[.pointer (some ⟨b, 0, none⟩), .int .i64 n] w fun e w' => e = .returned (.tuple #[]) ∧ (Lib.BuilderAt 47 5 B b (.pointer (some ⟨b, 0, none⟩)) [] w' ∧ Below B w w') ∧ ∃ p cap, w'.cell? ⟨b, 1, none⟩ = some (.slice p 0 cap) ∧ n ≤ cap := Any.Builder_Grow_fresh_cap Tryd.lays165 Tryd.Builder_Extra_165 B b n w hB hbk hBw hn
def Tryd.lays217_ren : Go.Shelf.Ren := ⟨fun | 217 => 53 | 266 => 61 | n => n, fun | 9 => 9 | 5 => 5 | 3 => 3 | n => n, fun | n => n⟩
theorem Tryd.lays217 : Go.Proofs.Lays.n217 Tryd.prog Tryd.lays217_ren := {
  mixed := by kernel_rfl
  f217 := Tryd.func53.trans (congrArg some (by kernel_rfl))
  f266 := Tryd.func61.trans (congrArg some (by kernel_rfl))
  t3 := Tryd.underlying3
  a3 := Tryd.isAgg3
  z3 := Tryd.sizeOf3
  v3 := Tryd.zeroValue3
  t5 := Tryd.underlying5
  a5 := Tryd.isAgg5
  z5 := Tryd.sizeOf5
  v5 := Tryd.zeroValue5
  t9 := Tryd.underlying9
  a9 := Tryd.isAgg9
  z9 := Tryd.sizeOf9
  v9 := Tryd.zeroValue9 }
open Go.RowKit Go.Lib in
theorem Tryd.stringslite_IndexByte (s : ByteArray) (c : Int) (w : World) :
    Calls Tryd.prog 53 #[.string s, .int .u8 c] w fun e w' => e = .returned (.int .i64 (Lib.indexByte s.data.toList c.toNat.toUInt8)) ∧ w' = w := Any.stringslite_IndexByte Tryd.lays217 s c w
def Tryd.lays224_ren : Go.Shelf.Ren := ⟨fun | 224 => 55 | n => n, fun | 3 => 3 | n => n, fun | n => n⟩
theorem Tryd.lays224 : Go.Proofs.Lays.n224 Tryd.prog Tryd.lays224_ren := {
  mixed := by kernel_rfl
  f224 := Tryd.func55.trans (congrArg some (by kernel_rfl))
  t3 := Tryd.underlying3
  a3 := Tryd.isAgg3
  z3 := Tryd.sizeOf3
  v3 := Tryd.zeroValue3 }
open Go.RowKit Go.Lib in
theorem Tryd.bytealg_Cutover (n : Int) (h0 : 0 ≤ n) (h1 : n < 4611686018427387904) (w : World) :
    Calls Tryd.prog 55 #[.int .i64 n] w fun e w' => e = .returned (.int .i64 ((n + 16) / 8)) ∧ w' = w := Any.bytealg_Cutover Tryd.lays224 n h0 h1 w
def Tryd.lays314_ren : Go.Shelf.Ren := ⟨fun | 314 => 62 | n => n, fun | 9 => 9 | 51 => 83 | 3 => 3 | 4 => 4 | 5 => 5 | 46 => 79 | n => n, fun | n => n⟩
theorem Tryd.lays314 : Go.Proofs.Lays.n314 Tryd.prog Tryd.lays314_ren := {
  mixed := by kernel_rfl
  f314 := Tryd.func62.trans (congrArg some (by kernel_rfl))
  t3 := Tryd.underlying3
  a3 := Tryd.isAgg3
  z3 := Tryd.sizeOf3
  v3 := Tryd.zeroValue3
  t4 := Tryd.underlying4
  a4 := Tryd.isAgg4
  z4 := Tryd.sizeOf4
  v4 := Tryd.zeroValue4
  t5 := Tryd.underlying5
  a5 := Tryd.isAgg5
  z5 := Tryd.sizeOf5
  v5 := Tryd.zeroValue5
  t9 := Tryd.underlying9
  a9 := Tryd.isAgg9
  z9 := Tryd.sizeOf9
  v9 := Tryd.zeroValue9
  t46 := Tryd.underlying79
  a46 := Tryd.isAgg79
  z46 := Tryd.sizeOf79
  v46 := Tryd.zeroValue79
  t51 := Tryd.underlying83
  a51 := Tryd.isAgg83
  z51 := Tryd.sizeOf83
  v51 := Tryd.zeroValue83 }
open Go.RowKit Go.Lib in
theorem Tryd.bytealg_hashStr (sep : ByteArray) (hs : sep.size < 4294967281) (w : World) :
    Calls Tryd.prog 62 #[.string sep] w fun e w' => e = .returned (.tuple #[.int .u32 (RK.H sep.data.toList % 4294967296), .int .u32 (16777619 ^ sep.size % 4294967296)]) ∧ w' = w := Any.bytealg_hashStr Tryd.lays314 sep hs w
def Tryd.lays267_ren : Go.Shelf.Ren := ⟨fun | 267 => 56 | 314 => 62 | n => n, fun | 9 => 9 | 3 => 3 | 146 => 84 | 51 => 83 | 4 => 4 | 5 => 5 | 46 => 79 | n => n, fun | n => n⟩
theorem Tryd.lays267 : Go.Proofs.Lays.n267 Tryd.prog Tryd.lays267_ren := {
  mixed := by kernel_rfl
  f267 := Tryd.func56.trans (congrArg some (by kernel_rfl))
  f314 := Tryd.func62.trans (congrArg some (by kernel_rfl))
  t3 := Tryd.underlying3
  a3 := Tryd.isAgg3
  z3 := Tryd.sizeOf3
  v3 := Tryd.zeroValue3
  t4 := Tryd.underlying4
  a4 := Tryd.isAgg4
  z4 := Tryd.sizeOf4
  v4 := Tryd.zeroValue4
  t5 := Tryd.underlying5
  a5 := Tryd.isAgg5
  z5 := Tryd.sizeOf5
  v5 := Tryd.zeroValue5
  t9 := Tryd.underlying9
  a9 := Tryd.isAgg9
  z9 := Tryd.sizeOf9
  v9 := Tryd.zeroValue9
  t46 := Tryd.underlying79
  a46 := Tryd.isAgg79
  z46 := Tryd.sizeOf79
  v46 := Tryd.zeroValue79
  t51 := Tryd.underlying83
  a51 := Tryd.isAgg83
  z51 := Tryd.sizeOf83
  v51 := Tryd.zeroValue83
  t146 := Tryd.underlying84
  a146 := Tryd.isAgg84
  z146 := Tryd.sizeOf84
  v146 := Tryd.zeroValue84 }
open Go.RowKit Go.Lib in
theorem Tryd.bytealg_IndexRabinKarp (s sep : ByteArray) (h1 : 1 ≤ sep.size) (h2 : sep.size ≤ s.size) (hs : s.size < 4294967281) (w : World) :
    Calls Tryd.prog 56 #[.string s, .string sep] w fun e w' => e = .returned (.int .i64 (Lib.index s.data.toList sep.data.toList)) ∧ w' = w := Any.bytealg_IndexRabinKarp Tryd.lays267 s sep h1 h2 hs w
def Tryd.lays219_ren : Go.Shelf.Ren := ⟨fun | 219 => 39 | 217 => 53 | 225 => 54 | 224 => 55 | 267 => 56 | 266 => 61 | 314 => 62 | n => n, fun | 9 => 9 | 3 => 3 | 4 => 4 | 5 => 5 | 46 => 79 | 146 => 84 | 51 => 83 | n => n, fun | 1 => 0 | n => n⟩
theorem Tryd.lays219 : Go.Proofs.Lays.n219 Tryd.prog Tryd.lays219_ren := {
  mixed := by kernel_rfl
  f217 := Tryd.func53.trans (congrArg some (by kernel_rfl))
  f219 := Tryd.func39.trans (congrArg some (by kernel_rfl))
  f224 := Tryd.func55.trans (congrArg some (by kernel_rfl))
  f225 := Tryd.func54.trans (congrArg some (by kernel_rfl))
  f266 := Tryd.func61.trans (congrArg some (by kernel_rfl))
  f267 := Tryd.func56.trans (congrArg some (by kernel_rfl))
  f314 := Tryd.func62.trans (congrArg some (by kernel_rfl))
  t3 := Tryd.underlying3
  a3 := Tryd.isAgg3
  z3 := Tryd.sizeOf3
  v3 := Tryd.zeroValue3
  t4 := Tryd.underlying4
  a4 := Tryd.isAgg4
  z4 := Tryd.sizeOf4
  v4 := Tryd.zeroValue4
  t5 := Tryd.underlying5
  a5 := Tryd.isAgg5
  z5 := Tryd.sizeOf5
  v5 := Tryd.zeroValue5
  t9 := Tryd.underlying9
  a9 := Tryd.isAgg9
  z9 := Tryd.sizeOf9
  v9 := Tryd.zeroValue9
  t46 := Tryd.underlying79
  a46 := Tryd.isAgg79
  z46 := Tryd.sizeOf79
  v46 := Tryd.zeroValue79
  t51 := Tryd.underlying83
  a51 := Tryd.isAgg83
  z51 := Tryd.sizeOf83
  v51 := Tryd.zeroValue83
  t146 := Tryd.underlying84
  a146 := Tryd.isAgg84
  z146 := Tryd.sizeOf84
  v146 := Tryd.zeroValue84
  g1 := by kernel_rfl }
open Go.RowKit Go.Lib in
theorem Tryd.stringslite_Index_one (s : ByteArray) (c : UInt8) (w : World) :
    Calls Tryd.prog 39 #[.string s, .string ⟨#[c]⟩] w fun e w' => e = .returned (.int .i64 (Lib.indexByte s.data.toList c)) ∧ w' = w := Any.stringslite_Index_one Tryd.lays219 s c w
open Go.RowKit Go.Lib in
theorem Tryd.stringslite_Index (s sub : ByteArray) (m : Int) (w : World) (hs : s.size < 4294967281) (hm : w.cell? ⟨0, 0, none⟩ = some (.int .i64 m)) :
    Calls Tryd.prog 39 #[.string s, .string sub] w fun e w' => e = .returned (.int .i64 (Lib.index s.data.toList sub.data.toList)) ∧ w' = w := Any.stringslite_Index Tryd.lays219 s sub m w hs hm
def Tryd.lays143_ren : Go.Shelf.Ren := ⟨fun | 143 => 26 | 219 => 39 | 217 => 53 | 225 => 54 | 224 => 55 | 267 => 56 | 266 => 61 | 314 => 62 | n => n, fun | 9 => 9 | 3 => 3 | 4 => 4 | 5 => 5 | 46 => 79 | 146 => 84 | 51 => 83 | n => n, fun | 1 => 0 | n => n⟩
theorem Tryd.lays143 : Go.Proofs.Lays.n143 Tryd.prog Tryd.lays143_ren := {
  mixed := by kernel_rfl
  f143 := Tryd.func26.trans (congrArg some (by kernel_rfl))
  f217 := Tryd.func53.trans (congrArg some (by kernel_rfl))
  f219 := Tryd.func39.trans (congrArg some (by kernel_rfl))
  f224 := Tryd.func55.trans (congrArg some (by kernel_rfl))
  f225 := Tryd.func54.trans (congrArg some (by kernel_rfl))
  f266 := Tryd.func61.trans (congrArg some (by kernel_rfl))
  f267 := Tryd.func56.trans (congrArg some (by kernel_rfl))
  f314 := Tryd.func62.trans (congrArg some (by kernel_rfl))
  t3 := Tryd.underlying3
  a3 := Tryd.isAgg3
  z3 := Tryd.sizeOf3
  v3 := Tryd.zeroValue3
  t4 := Tryd.underlying4
  a4 := Tryd.isAgg4
  z4 := Tryd.sizeOf4
  v4 := Tryd.zeroValue4
  t5 := Tryd.underlying5
  a5 := Tryd.isAgg5
  z5 := Tryd.sizeOf5
  v5 := Tryd.zeroValue5
  t9 := Tryd.underlying9
  a9 := Tryd.isAgg9
  z9 := Tryd.sizeOf9
  v9 := Tryd.zeroValue9
  t46 := Tryd.underlying79
  a46 := Tryd.isAgg79
  z46 := Tryd.sizeOf79
  v46 := Tryd.zeroValue79
  t51 := Tryd.underlying83
  a51 := Tryd.isAgg83
  z51 := Tryd.sizeOf83
  v51 := Tryd.zeroValue83
  t146 := Tryd.underlying84
  a146 := Tryd.isAgg84
  z146 := Tryd.sizeOf84
  v146 := Tryd.zeroValue84
  g1 := by kernel_rfl }
open Go.RowKit Go.Lib in
theorem Tryd.strings_Index_one (s : ByteArray) (c : UInt8) (w : World) :
    Calls Tryd.prog 26 #[.string s, .string ⟨#[c]⟩] w fun e w' => e = .returned (.int .i64 (Lib.indexByte s.data.toList c)) ∧ w' = w := Any.strings_Index_one Tryd.lays143 s c w
open Go.RowKit Go.Lib in
theorem Tryd.strings_Index (s sub : ByteArray) (m : Int) (w : World) (hs : s.size < 4294967281) (hm : w.cell? ⟨0, 0, none⟩ = some (.int .i64 m)) :
    Calls Tryd.prog 26 #[.string s, .string sub] w fun e w' => e = .returned (.int .i64 (Lib.index s.data.toList sub.data.toList)) ∧ w' = w := Any.strings_Index Tryd.lays143 s sub m w hs hm
def Tryd.lays138_ren : Go.Shelf.Ren := ⟨fun | 138 => 58 | 195 => 63 | 218 => 64 | 143 => 26 | 219 => 39 | 217 => 53 | 225 => 54 | 224 => 55 | 267 => 56 | 266 => 61 | 314 => 62 | n => n, fun | 9 => 9 | 3 => 3 | 4 => 4 | 5 => 5 | 0 => 0 | 46 => 79 | 146 => 84 | 51 => 83 | n => n, fun | 1 => 0 | n => n⟩
theorem Tryd.lays138 : Go.Proofs.Lays.n138 Tryd.prog Tryd.lays138_ren := {
  mixed := by kernel_rfl
  f138 := Tryd.func58.trans (congrArg some (by kernel_rfl))
  f143 := Tryd.func26.trans (congrArg some (by kernel_rfl))
  f195 := Tryd.func63.trans (congrArg some (by kernel_rfl))
  f217 := Tryd.func53.trans (congrArg some (by kernel_rfl))
  f218 := Tryd.func64.trans (congrArg some (by kernel_rfl))
  f219 := Tryd.func39.trans (congrArg some (by kernel_rfl))
  f224 := Tryd.func55.trans (congrArg some (by kernel_rfl))
  f225 := Tryd.func54.trans (congrArg some (by kernel_rfl))
  f266 := Tryd.func61.trans (congrArg some (by kernel_rfl))
  f267 := Tryd.func56.trans (congrArg some (by kernel_rfl))
  f314 := Tryd.func62.trans (congrArg some (by kernel_rfl))
  t0 := Tryd.underlying0
  a0 := Tryd.isAgg0
  z0 := Tryd.sizeOf0
  v0 := Tryd.zeroValue0
  t3 := Tryd.underlying3
  a3 := Tryd.isAgg3
  z3 := Tryd.sizeOf3
  v3 := Tryd.zeroValue3
  t4 := Tryd.underlying4
  a4 := Tryd.isAgg4
  z4 := Tryd.sizeOf4
  v4 := Tryd.zeroValue4
  t5 := Tryd.underlying5
  a5 := Tryd.isAgg5
  z5 := Tryd.sizeOf5
  v5 := Tryd.zeroValue5
  t9 := Tryd.underlying9
  a9 := Tryd.isAgg9
  z9 := Tryd.sizeOf9
  v9 := Tryd.zeroValue9
  t46 := Tryd.underlying79
  a46 := Tryd.isAgg79
  z46 := Tryd.sizeOf79
  v46 := Tryd.zeroValue79
  t51 := Tryd.underlying83
  a51 := Tryd.isAgg83
  z51 := Tryd.sizeOf83
  v51 := Tryd.zeroValue83
  t146 := Tryd.underlying84
  a146 := Tryd.isAgg84
  z146 := Tryd.sizeOf84
  v146 := Tryd.zeroValue84
  g1 := by kernel_rfl }
open Go.RowKit Go.Lib in
theorem Tryd.strings_Count_one (s : ByteArray) (c : UInt8) (w : World) :
    Calls Tryd.prog 58 #[.string s, .string ⟨#[c]⟩] w fun e w' => e = .returned (.int .i64 (Lib.countByte s.data.toList c)) ∧ w' = w := Any.strings_Count_one Tryd.lays138 s c w
open Go.RowKit Go.Lib in
theorem Tryd.strings_Count (s sub : ByteArray) (m : Int) (w : World) (hs : s.size < 4294967281) (hm : w.cell? ⟨0, 0, none⟩ = some (.int .i64 m)) (h2 : 2 ≤ sub.size) :
    Calls Tryd.prog 58 #[.string s, .string sub] w fun e w' => e = .returned (.int .i64 (Lib.countB s sub)) ∧ w' = w := Any.strings_Count Tryd.lays138 s sub m w hs hm h2
def Tryd.laysM219_ren : Go.Shelf.Ren := ⟨fun | 219 => 39 | 217 => 53 | 225 => 54 | 224 => 55 | 267 => 56 | 266 => 61 | 314 => 62 | n => n, fun | 9 => 9 | 3 => 3 | 4 => 4 | 5 => 5 | 46 => 79 | 146 => 84 | 51 => 83 | n => n, fun | 1 => 0 | n => n⟩
theorem Tryd.laysM219 : Go.Proofs.LaysM.n219 Tryd.prog Tryd.laysM219_ren := {
  mixed := by kernel_rfl
  f217 := Tryd.func53.trans (congrArg some (by kernel_rfl))
  f219 := Tryd.func39.trans (congrArg some (by kernel_rfl))
  f224 := Tryd.func55.trans (congrArg some (by kernel_rfl))
  f225 := Tryd.func54.trans (congrArg some (by kernel_rfl))
  f266 := Tryd.func61.trans (congrArg some (by kernel_rfl))
  f267 := Tryd.func56.trans (congrArg some (by kernel_rfl))
  f314 := Tryd.func62.trans (congrArg some (by kernel_rfl))
  t3 := Tryd.underlying3
  a3 := Tryd.isAgg3
  z3 := Tryd.sizeOf3
  v3 := Tryd.zeroValue3
  t4 := Tryd.underlying4
  a4 := Tryd.isAgg4
  z4 := Tryd.sizeOf4
  v4 := Tryd.zeroValue4
  t5 := Tryd.underlying5
  a5 := Tryd.isAgg5
  z5 := Tryd.sizeOf5
  v5 := Tryd.zeroValue5
  t9 := Tryd.underlying9
  a9 := Tryd.isAgg9
  z9 := Tryd.sizeOf9
  v9 := Tryd.zeroValue9
  t46 := Tryd.underlying79
  a46 := Tryd.isAgg79
  z46 := Tryd.sizeOf79
  v46 := Tryd.zeroValue79
  t51 := Tryd.underlying83
  a51 := Tryd.isAgg83
  z51 := Tryd.sizeOf83
  v51 := Tryd.zeroValue83
  t146 := Tryd.underlying84
  a146 := Tryd.isAgg84
  z146 := Tryd.sizeOf84
  v146 := Tryd.zeroValue84
  g1 := by kernel_rfl
  i3 := by kernel_rfl
  i4 := by kernel_rfl
  i5 := by kernel_rfl
  i9 := by kernel_rfl
  i46 := by kernel_rfl
  i51 := by kernel_rfl
  i146 := by kernel_rfl
  m1 := by kernel_rfl
  s1_3 := fun w h => Go.Proofs.cell_of_shapedOpen_int (zero := #[.int .i64 0]) (t := 3) h (of_decide_eq_true (by kernel_rfl)) (by kernel_rfl) rfl (by kernel_rfl) (by kernel_rfl) Tryd.underlying3 }
open Go.RowKit Go.Lib in
theorem Tryd.stringslite_Index_shaped (s sub : ByteArray) (w : World) (h : w.ShapedOpen Tryd.prog) (hs : s.size < 4294967281) :
    Calls Tryd.prog 39 #[.string s, .string sub] w fun e w' => e = .returned (.int .i64 (Lib.index s.data.toList sub.data.toList)) ∧ w' = w := Any.stringslite_Index_shaped Tryd.laysM219 s sub w h hs
def Tryd.laysM143_ren : Go.Shelf.Ren := ⟨fun | 143 => 26 | 219 => 39 | 217 => 53 | 225 => 54 | 224 => 55 | 267 => 56 | 266 => 61 | 314 => 62 | n => n, fun | 9 => 9 | 3 => 3 | 4 => 4 | 5 => 5 | 46 => 79 | 146 => 84 | 51 => 83 | n => n, fun | 1 => 0 | n => n⟩
theorem Tryd.laysM143 : Go.Proofs.LaysM.n143 Tryd.prog Tryd.laysM143_ren := {
  mixed := by kernel_rfl
  f143 := Tryd.func26.trans (congrArg some (by kernel_rfl))
  f217 := Tryd.func53.trans (congrArg some (by kernel_rfl))
  f219 := Tryd.func39.trans (congrArg some (by kernel_rfl))
  f224 := Tryd.func55.trans (congrArg some (by kernel_rfl))
  f225 := Tryd.func54.trans (congrArg some (by kernel_rfl))
  f266 := Tryd.func61.trans (congrArg some (by kernel_rfl))
  f267 := Tryd.func56.trans (congrArg some (by kernel_rfl))
  f314 := Tryd.func62.trans (congrArg some (by kernel_rfl))
  t3 := Tryd.underlying3
  a3 := Tryd.isAgg3
  z3 := Tryd.sizeOf3
  v3 := Tryd.zeroValue3
  t4 := Tryd.underlying4
  a4 := Tryd.isAgg4
  z4 := Tryd.sizeOf4
  v4 := Tryd.zeroValue4
  t5 := Tryd.underlying5
  a5 := Tryd.isAgg5
  z5 := Tryd.sizeOf5
  v5 := Tryd.zeroValue5
  t9 := Tryd.underlying9
  a9 := Tryd.isAgg9
  z9 := Tryd.sizeOf9
  v9 := Tryd.zeroValue9
  t46 := Tryd.underlying79
  a46 := Tryd.isAgg79
  z46 := Tryd.sizeOf79
  v46 := Tryd.zeroValue79
  t51 := Tryd.underlying83
  a51 := Tryd.isAgg83
  z51 := Tryd.sizeOf83
  v51 := Tryd.zeroValue83
  t146 := Tryd.underlying84
  a146 := Tryd.isAgg84
  z146 := Tryd.sizeOf84
  v146 := Tryd.zeroValue84
  g1 := by kernel_rfl
  i3 := by kernel_rfl
  i4 := by kernel_rfl
  i5 := by kernel_rfl
  i9 := by kernel_rfl
  i46 := by kernel_rfl
  i51 := by kernel_rfl
  i146 := by kernel_rfl
  m1 := by kernel_rfl
  s1_3 := fun w h => Go.Proofs.cell_of_shapedOpen_int (zero := #[.int .i64 0]) (t := 3) h (of_decide_eq_true (by kernel_rfl)) (by kernel_rfl) rfl (by kernel_rfl) (by kernel_rfl) Tryd.underlying3 }
open Go.RowKit Go.Lib in
theorem Tryd.strings_Index_shaped (s sub : ByteArray) (w : World) (h : w.ShapedOpen Tryd.prog) (hs : s.size < 4294967281) :
    Calls Tryd.prog 26 #[.string s, .string sub] w fun e w' => e = .returned (.int .i64 (Lib.index s.data.toList sub.data.toList)) ∧ w' = w := Any.strings_Index_shaped Tryd.laysM143 s sub w h hs
def Tryd.laysM138_ren : Go.Shelf.Ren := ⟨fun | 138 => 58 | 195 => 63 | 218 => 64 | 143 => 26 | 219 => 39 | 217 => 53 | 225 => 54 | 224 => 55 | 267 => 56 | 266 => 61 | 314 => 62 | n => n, fun | 9 => 9 | 3 => 3 | 4 => 4 | 5 => 5 | 0 => 0 | 46 => 79 | 146 => 84 | 51 => 83 | n => n, fun | 1 => 0 | n => n⟩
theorem Tryd.laysM138 : Go.Proofs.LaysM.n138 Tryd.prog Tryd.laysM138_ren := {
  mixed := by kernel_rfl
  f138 := Tryd.func58.trans (congrArg some (by kernel_rfl))
  f143 := Tryd.func26.trans (congrArg some (by kernel_rfl))
  f195 := Tryd.func63.trans (congrArg some (by kernel_rfl))
  f217 := Tryd.func53.trans (congrArg some (by kernel_rfl))
  f218 := Tryd.func64.trans (congrArg some (by kernel_rfl))
  f219 := Tryd.func39.trans (congrArg some (by kernel_rfl))
  f224 := Tryd.func55.trans (congrArg some (by kernel_rfl))
  f225 := Tryd.func54.trans (congrArg some (by kernel_rfl))
  f266 := Tryd.func61.trans (congrArg some (by kernel_rfl))
  f267 := Tryd.func56.trans (congrArg some (by kernel_rfl))
  f314 := Tryd.func62.trans (congrArg some (by kernel_rfl))
  t0 := Tryd.underlying0
  a0 := Tryd.isAgg0
  z0 := Tryd.sizeOf0
  v0 := Tryd.zeroValue0
  t3 := Tryd.underlying3
  a3 := Tryd.isAgg3
  z3 := Tryd.sizeOf3
  v3 := Tryd.zeroValue3
  t4 := Tryd.underlying4
  a4 := Tryd.isAgg4
  z4 := Tryd.sizeOf4
  v4 := Tryd.zeroValue4
  t5 := Tryd.underlying5
  a5 := Tryd.isAgg5
  z5 := Tryd.sizeOf5
  v5 := Tryd.zeroValue5
  t9 := Tryd.underlying9
  a9 := Tryd.isAgg9
  z9 := Tryd.sizeOf9
  v9 := Tryd.zeroValue9
  t46 := Tryd.underlying79
  a46 := Tryd.isAgg79
  z46 := Tryd.sizeOf79
  v46 := Tryd.zeroValue79
  t51 := Tryd.underlying83
  a51 := Tryd.isAgg83
  z51 := Tryd.sizeOf83
  v51 := Tryd.zeroValue83
  t146 := Tryd.underlying84
  a146 := Tryd.isAgg84
  z146 := Tryd.sizeOf84
  v146 := Tryd.zeroValue84
  g1 := by kernel_rfl
  i0 := by kernel_rfl
  i3 := by kernel_rfl
  i4 := by kernel_rfl
  i5 := by kernel_rfl
  i9 := by kernel_rfl
  i46 := by kernel_rfl
  i51 := by kernel_rfl
  i146 := by kernel_rfl
  m1 := by kernel_rfl
  s1_3 := fun w h => Go.Proofs.cell_of_shapedOpen_int (zero := #[.int .i64 0]) (t := 3) h (of_decide_eq_true (by kernel_rfl)) (by kernel_rfl) rfl (by kernel_rfl) (by kernel_rfl) Tryd.underlying3 }
open Go.RowKit Go.Lib in
theorem Tryd.strings_Count_shaped (s sub : ByteArray) (w : World) (h : w.ShapedOpen Tryd.prog) (hs : s.size < 4294967281) (h2 : 2 ≤ sub.size) :
    Calls Tryd.prog 58 #[.string s, .string sub] w fun e w' => e = .returned (.int .i64 (Lib.countB s sub)) ∧ w' = w := Any.strings_Count_shaped Tryd.laysM138 s sub w h hs h2
def Tryd.lays206_ren : Go.Shelf.Ren := ⟨fun | 206 => 52 | n => n, fun | 9 => 9 | 4 => 4 | 3 => 3 | n => n, fun | n => n⟩
theorem Tryd.lays206 : Go.Proofs.Lays.n206 Tryd.prog Tryd.lays206_ren := {
  mixed := by kernel_rfl
  f206 := Tryd.func52.trans (congrArg some (by kernel_rfl))
  t3 := Tryd.underlying3
  a3 := Tryd.isAgg3
  z3 := Tryd.sizeOf3
  v3 := Tryd.zeroValue3
  t4 := Tryd.underlying4
  a4 := Tryd.isAgg4
  z4 := Tryd.sizeOf4
  v4 := Tryd.zeroValue4
  t9 := Tryd.underlying9
  a9 := Tryd.isAgg9
  z9 := Tryd.sizeOf9
  v9 := Tryd.zeroValue9 }
open Go.RowKit Go.Lib in
theorem Tryd.stringslite_HasPrefix (s p : ByteArray) (w : World) :
    Calls Tryd.prog 52 #[.string s, .string p] w fun e w' => e = .returned (.bool (Lib.hasPrefix s.data.toList p.data.toList)) ∧ w' = w := Any.stringslite_HasPrefix Tryd.lays206 s p w
def Tryd.lays99_ren : Go.Shelf.Ren := ⟨fun | 99 => 38 | 206 => 52 | n => n, fun | 9 => 9 | 4 => 4 | 3 => 3 | n => n, fun | n => n⟩
theorem Tryd.lays99 : Go.Proofs.Lays.n99 Tryd.prog Tryd.lays99_ren := {
  mixed := by kernel_rfl
  f99 := Tryd.func38.trans (congrArg some (by kernel_rfl))
  f206 := Tryd.func52.trans (congrArg some (by kernel_rfl))
  t3 := Tryd.underlying3
  a3 := Tryd.isAgg3
  z3 := Tryd.sizeOf3
  v3 := Tryd.zeroValue3
  t4 := Tryd.underlying4
  a4 := Tryd.isAgg4
  z4 := Tryd.sizeOf4
  v4 := Tryd.zeroValue4
  t9 := Tryd.underlying9
  a9 := Tryd.isAgg9
  z9 := Tryd.sizeOf9
  v9 := Tryd.zeroValue9 }
open Go.RowKit Go.Lib in
theorem Tryd.strings_HasPrefix (s p : ByteArray) (w : World) :
    Calls Tryd.prog 38 #[.string s, .string p] w fun e w' => e = .returned (.bool (Lib.hasPrefix s.data.toList p.data.toList)) ∧ w' = w := Any.strings_HasPrefix Tryd.lays99 s p w
open Go.RowKit Go.Lib in
theorem Tryd.strings_Count_any (s sep : ByteArray) (m : Int) (w : World) (hs : s.size < 4294967281) (hm : w.cell? ⟨0, 0, none⟩ = some (.int .i64 m)) (h1 : 1 ≤ sep.size) :
    Calls Tryd.prog 58 #[.string s, .string sep] w fun e w' => e = .returned (.int .i64 (Lib.countB s sep)) ∧ w' = w := Any.strings_Count_any Tryd.lays138 s sep m w hs hm h1
def Tryd.lays154_ren : Go.Shelf.Ren := ⟨fun | 154 => 51 | 138 => 58 | 165 => 59 | 143 => 26 | 166 => 19 | 197 => 60 | 169 => 21 | 195 => 63 | 218 => 64 | 240 => 32 | 241 => 65 | 219 => 39 | 260 => 66 | 276 => 50 | 277 => 67 | 217 => 53 | 225 => 54 | 224 => 55 | 267 => 56 | 266 => 61 | 314 => 62 | n => n, fun | 9 => 9 | 3 => 3 | 4 => 4 | 72 => 47 | 0 => 0 | 76 => 52 | 105 => 81 | 21 => 21 | 5 => 5 | 70 => 44 | 20 => 20 | 37 => 45 | 75 => 50 | 127 => 66 | 164 => 75 | 46 => 79 | 119 => 87 | 139 => 90 | 138 => 89 | 146 => 84 | 51 => 83 | 80 => 55 | n => n, fun | 1 => 0 | 3 => 1 | 4 => 2 | n => n⟩
theorem Tryd.lays154 : Go.Proofs.Lays.n154 Tryd.prog Tryd.lays154_ren := {
  mixed := by kernel_rfl
  f138 := Tryd.func58.trans (congrArg some (by kernel_rfl))
  f143 := Tryd.func26.trans (congrArg some (by kernel_rfl))
  f154 := Tryd.func51.trans (congrArg some (by kernel_rfl))
  f165 := Tryd.func59.trans (congrArg some (by kernel_rfl))
  f166 := Tryd.func19.trans (congrArg some (by kernel_rfl))
  f169 := Tryd.func21.trans (congrArg some (by kernel_rfl))
  f195 := Tryd.func63.trans (congrArg some (by kernel_rfl))
  f197 := Tryd.func60.trans (congrArg some (by kernel_rfl))
  f217 := Tryd.func53.trans (congrArg some (by kernel_rfl))
  f218 := Tryd.func64.trans (congrArg some (by kernel_rfl))
  f219 := Tryd.func39.trans (congrArg some (by kernel_rfl))
  f224 := Tryd.func55.trans (congrArg some (by kernel_rfl))
  f225 := Tryd.func54.trans (congrArg some (by kernel_rfl))
  f240 := Tryd.func32.trans (congrArg some (by kernel_rfl))
  f241 := Tryd.func65.trans (congrArg some (by kernel_rfl))
  f260 := Tryd.func66.trans (congrArg some (by kernel_rfl))
  f266 := Tryd.func61.trans (congrArg some (by kernel_rfl))
  f267 := Tryd.func56.trans (congrArg some (by kernel_rfl))
  f276 := Tryd.func50.trans (congrArg some (by kernel_rfl))
  f277 := Tryd.func67.trans (congrArg some (by kernel_rfl))
  f314 := Tryd.func62.trans (congrArg some (by kernel_rfl))
  t0 := Tryd.underlying0
  a0 := Tryd.isAgg0
  z0 := Tryd.sizeOf0
  v0 := Tryd.zeroValue0
  t3 := Tryd.underlying3
  a3 := Tryd.isAgg3
  z3 := Tryd.sizeOf3
  v3 := Tryd.zeroValue3
  t4 := Tryd.underlying4
  a4 := Tryd.isAgg4
  z4 := Tryd.sizeOf4
  v4 := Tryd.zeroValue4
  t5 := Tryd.underlying5
  a5 := Tryd.isAgg5
  z5 := Tryd.sizeOf5
  v5 := Tryd.zeroValue5
  t9 := Tryd.underlying9
  a9 := Tryd.isAgg9
  z9 := Tryd.sizeOf9
  v9 := Tryd.zeroValue9
  t20 := Tryd.underlying20
  a20 := Tryd.isAgg20
  z20 := Tryd.sizeOf20
  v20 := Tryd.zeroValue20
  t21 := Tryd.underlying21
  a21 := Tryd.isAgg21
  z21 := Tryd.sizeOf21
  v21 := Tryd.zeroValue21
  t37 := Tryd.underlying45
  a37 := Tryd.isAgg45
  z37 := Tryd.sizeOf45
  v37 := Tryd.zeroValue45
  t46 := Tryd.underlying79
  a46 := Tryd.isAgg79
  z46 := Tryd.sizeOf79
  v46 := Tryd.zeroValue79
  t51 := Tryd.underlying83
  a51 := Tryd.isAgg83
  z51 := Tryd.sizeOf83
  v51 := Tryd.zeroValue83
  t70 := Tryd.underlying44
  a70 := Tryd.isAgg44
  z70 := Tryd.sizeOf44
  v70 := Tryd.zeroValue44
  t72 := Tryd.underlying47
  a72 := Tryd.isAgg47
  z72 := Tryd.sizeOf47
  v72 := Tryd.zeroValue47
  t75 := Tryd.underlying50
  a75 := Tryd.isAgg50
  z75 := Tryd.sizeOf50
  v75 := Tryd.zeroValue50
  t76 := Tryd.underlying52
  a76 := Tryd.isAgg52
  z76 := Tryd.sizeOf52
  v76 := Tryd.zeroValue52
  t105 := Tryd.underlying81
  a105 := Tryd.isAgg81
  z105 := Tryd.sizeOf81
  v105 := Tryd.zeroValue81
  t119 := Tryd.underlying87
  a119 := Tryd.isAgg87
  z119 := Tryd.sizeOf87
  t127 := Tryd.underlying66
  a127 := Tryd.isAgg66
  z127 := Tryd.sizeOf66
  v127 := Tryd.zeroValue66
  t138 := Tryd.underlying89
  a138 := Tryd.isAgg89
  z138 := Tryd.sizeOf89
  v138 := Tryd.zeroValue89
  t139 := Tryd.underlying90
  a139 := Tryd.isAgg90
  z139 := Tryd.sizeOf90
  v139 := Tryd.zeroValue90
  t146 := Tryd.underlying84
  a146 := Tryd.isAgg84
  z146 := Tryd.sizeOf84
  v146 := Tryd.zeroValue84
  t164 := Tryd.underlying75
  a164 := Tryd.isAgg75
  z164 := Tryd.sizeOf75
  v164 := Tryd.zeroValue75
  g1 := by kernel_rfl
  g3 := by kernel_rfl
  g4 := by kernel_rfl }
theorem Tryd.Builder_Extra_154 : Builder.Extra Tryd.prog Tryd.lays154_ren := {
  sizeBuilder := by kernel_rfl
  liesBuilder := by kernel_rfl
  t5 := Tryd.underlying5
  a5 := Tryd.isAgg5
  z5 := Tryd.sizeOf5
  v5 := Tryd.zeroValue5
  infoByte := by kernel_rfl
  cellsByte := by kernel_rfl
  sizeByte := by kernel_rfl
  neB5 := by decide }
open Go.RowKit Go.Lib in
theorem Tryd.strings_Replace_some (s old new : ByteArray) (n : Int) (m : Int) (w : World) (hs : s.size < 4294967281) (hm : w.cell? ⟨0, 0, none⟩ = some (.int .i64 m)) (h1 : 1 ≤ old.size) (hne : old ≠ new) (hn0 : n ≠ 0) (hc0 : Lib.countB s old ≠ 0) (hlen : s.size + Lib.countB s old * new.size ≤ 140737488355328) :
    Calls Tryd.prog 51 #[.string s, .string old, .string new, .int .i64 n] w fun e w' =>
      e = .returned (.string ⟨(Lib.replaceK old.data.toList new.data.toList (Lib.replaceNum s.data.toList old.data.toList n) s.data.toList).toArray⟩) ∧ Below w.heap.size w w' := Any.strings_Replace_some Tryd.lays154 Tryd.Builder_Extra_154 s old new n m w hs hm h1 hne hn0 hc0 hlen
open Go.RowKit Go.Lib in
theorem Tryd.strings_Replace_none (s old new : ByteArray) (n : Int) (w : World) (h : old = new ∨ n = 0) :
    Calls Tryd.prog 51 #[.string s, .string old, .string new, .int .i64 n] w fun e w' => e = .returned (.string s) ∧ w' = w := Any.strings_Replace_none Tryd.lays154 s old new n w h
open Go.RowKit Go.Lib in
theorem Tryd.strings_Replace_absent (s old new : ByteArray) (n : Int) (m : Int) (w : World) (hs : s.size < 4294967281) (hm : w.cell? ⟨0, 0, none⟩ = some (.int .i64 m)) (h1 : 1 ≤ old.size) (hne : old ≠ new) (hn0 : n ≠ 0) (hc0 : Lib.countB s old = 0) :
    Calls Tryd.prog 51 #[.string s, .string old, .string new, .int .i64 n] w fun e w' => e = .returned (.string s) ∧ w' = w := Any.strings_Replace_absent Tryd.lays154 s old new n m w hs hm h1 hne hn0 hc0
open Go.RowKit Go.Lib in
theorem Tryd.strings_Replace (s old new : ByteArray) (n : Int) (m : Int) (w : World) (hs : s.size < 4294967281) (hm : w.cell? ⟨0, 0, none⟩ = some (.int .i64 m)) (h1 : 1 ≤ old.size) (hlen : s.size + Lib.countB s old * new.size ≤ 140737488355328) :
    Calls Tryd.prog 51 #[.string s, .string old, .string new, .int .i64 n] w fun e w' =>
      e = .returned (.string ⟨(Lib.replace s.data.toList old.data.toList new.data.toList n).toArray⟩) ∧ Below w.heap.size w w' := Any.strings_Replace Tryd.lays154 Tryd.Builder_Extra_154 s old new n m w hs hm h1 hlen
def Tryd.lays155_ren : Go.Shelf.Ren := ⟨fun | 155 => 33 | 154 => 51 | 138 => 58 | 165 => 59 | 143 => 26 | 166 => 19 | 197 => 60 | 169 => 21 | 195 => 63 | 218 => 64 | 240 => 32 | 241 => 65 | 219 => 39 | 260 => 66 | 276 => 50 | 277 => 67 | 217 => 53 | 225 => 54 | 224 => 55 | 267 => 56 | 266 => 61 | 314 => 62 | n => n, fun | 9 => 9 | 3 => 3 | 4 => 4 | 72 => 47 | 0 => 0 | 76 => 52 | 105 => 81 | 21 => 21 | 5 => 5 | 70 => 44 | 20 => 20 | 37 => 45 | 75 => 50 | 127 => 66 | 164 => 75 | 46 => 79 | 119 => 87 | 139 => 90 | 138 => 89 | 146 => 84 | 51 => 83 | 80 => 55 | n => n, fun | 1 => 0 | 3 => 1 | 4 => 2 | n => n⟩
theorem Tryd.lays155 : Go.Proofs.Lays.n155 Tryd.prog Tryd.lays155_ren := {
  mixed := by kernel_rfl
  f138 := Tryd.func58.trans (congrArg some (by kernel_rfl))
  f143 := Tryd.func26.trans (congrArg some (by kernel_rfl))
  f154 := Tryd.func51.trans (congrArg some (by kernel_rfl))
  f155 := Tryd.func33.trans (congrArg some (by kernel_rfl))
  f165 := Tryd.func59.trans (congrArg some (by kernel_rfl))
  f166 := Tryd.func19.trans (congrArg some (by kernel_rfl))
  f169 := Tryd.func21.trans (congrArg some (by kernel_rfl))
  f195 := Tryd.func63.trans (congrArg some (by kernel_rfl))
  f197 := Tryd.func60.trans (congrArg some (by kernel_rfl))
  f217 := Tryd.func53.trans (congrArg some (by kernel_rfl))
  f218 := Tryd.func64.trans (congrArg some (by kernel_rfl))
  f219 := Tryd.func39.trans (congrArg some (by kernel_rfl))
  f224 := Tryd.func55.trans (congrArg some (by kernel_rfl))
  f225 := Tryd.func54.trans (congrArg some (by kernel_rfl))
  f240 := Tryd.func32.trans (congrArg some (by kernel_rfl))
  f241 := Tryd.func65.trans (congrArg some (by kernel_rfl))
  f260 := Tryd.func66.trans (congrArg some (by kernel_rfl))
  f266 := Tryd.func61.trans (congrArg some (by kernel_rfl))
  f267 := Tryd.func56.trans (congrArg some (by kernel_rfl))
  f276 := Tryd.func50.trans (congrArg some (by kernel_rfl))
  f277 := Tryd.func67.trans (congrArg some (by kernel_rfl))
  f314 := Tryd.func62.trans (congrArg some (by kernel_rfl))
  t0 := Tryd.underlying0
  a0 := Tryd.isAgg0
  z0 := Tryd.sizeOf0
  v0 := Tryd.zeroValue0
  t3 := Tryd.underlying3
  a3 := Tryd.isAgg3
  z3 := Tryd.sizeOf3
  v3 := Tryd.zeroValue3
  t4 := Tryd.underlying4
  a4 := Tryd.isAgg4
  z4 := Tryd.sizeOf4
  v4 := Tryd.zeroValue4
  t5 := Tryd.underlying5
  a5 := Tryd.isAgg5
  z5 := Tryd.sizeOf5
  v5 := Tryd.zeroValue5
  t9 := Tryd.underlying9
  a9 := Tryd.isAgg9
  z9 := Tryd.sizeOf9
  v9 := Tryd.zeroValue9
  t20 := Tryd.underlying20
  a20 := Tryd.isAgg20
  z20 := Tryd.sizeOf20
  v20 := Tryd.zeroValue20
  t21 := Tryd.underlying21
  a21 := Tryd.isAgg21
  z21 := Tryd.sizeOf21
  v21 := Tryd.zeroValue21
  t37 := Tryd.underlying45
  a37 := Tryd.isAgg45
  z37 := Tryd.sizeOf45
  v37 := Tryd.zeroValue45
  t46 := Tryd.underlying79
  a46 := Tryd.isAgg79
  z46 := Tryd.sizeOf79
  v46 := Tryd.zeroValue79
  t51 := Tryd.underlying83
  a51 := Tryd.isAgg83
  z51 := Tryd.sizeOf83
  v51 := Tryd.zeroValue83
  t70 := Tryd.underlying44
  a70 := Tryd.isAgg44
  z70 := Tryd.sizeOf44
  v70 := Tryd.zeroValue44
  t72 := Tryd.underlying47
  a72 := Tryd.isAgg47
  z72 := Tryd.sizeOf47
  v72 := Tryd.zeroValue47
  t75 := Tryd.underlying50
  a75 := Tryd.isAgg50
  z75 := Tryd.sizeOf50
  v75 := Tryd.zeroValue50
  t76 := Tryd.underlying52
  a76 := Tryd.isAgg52
  z76 := Tryd.sizeOf52
  v76 := Tryd.zeroValue52
  t105 := Tryd.underlying81
  a105 := Tryd.isAgg81
  z105 := Tryd.sizeOf81
  v105 := Tryd.zeroValue81
  t119 := Tryd.underlying87
  a119 := Tryd.isAgg87
  z119 := Tryd.sizeOf87
  t127 := Tryd.underlying66
  a127 := Tryd.isAgg66
  z127 := Tryd.sizeOf66
  v127 := Tryd.zeroValue66
  t138 := Tryd.underlying89
  a138 := Tryd.isAgg89
  z138 := Tryd.sizeOf89
  v138 := Tryd.zeroValue89
  t139 := Tryd.underlying90
  a139 := Tryd.isAgg90
  z139 := Tryd.sizeOf90
  v139 := Tryd.zeroValue90
  t146 := Tryd.underlying84
  a146 := Tryd.isAgg84
  z146 := Tryd.sizeOf84
  v146 := Tryd.zeroValue84
  t164 := Tryd.underlying75
  a164 := Tryd.isAgg75
  z164 := Tryd.sizeOf75
  v164 := Tryd.zeroValue75
  g1 := by kernel_rfl
  g3 := by kernel_rfl
  g4 := by kernel_rfl }
theorem Tryd.Builder_Extra_155 : Builder.Extra Tryd.prog Tryd.lays155_ren := {
  sizeBuilder := by kernel_rfl
  liesBuilder := by kernel_rfl
  t5 := Tryd.underlying5
  a5 := Tryd.isAgg5
  z5 := Tryd.sizeOf5
  v5 := Tryd.zeroValue5
  infoByte := by kernel_rfl
  cellsByte := by kernel_rfl
  sizeByte := by kernel_rfl
  neB5 := by decide }
open Go.RowKit Go.Lib in
theorem Tryd.strings_ReplaceAll (s old new : ByteArray) (m : Int) (w : World) (hs : s.size < 4294967281) (hm : w.cell? ⟨0, 0, none⟩ = some (.int .i64 m)) (h1 : 1 ≤ old.size) (hlen : s.size + Lib.countB s old * new.size ≤ 140737488355328) :
    Calls Tryd.prog 33 #[.string s, .string old, .string new] w fun e w' =>
      e = .returned (.string ⟨(Lib.replaceAll s.data.toList old.data.toList new.data.toList).toArray⟩) ∧ Below w.heap.size w w' := Any.strings_ReplaceAll Tryd.lays155 Tryd.Builder_Extra_155 s old new m w hs hm h1 hlen
def Tryd.laysM154_ren : Go.Shelf.Ren := ⟨fun | 154 => 51 | 138 => 58 | 165 => 59 | 143 => 26 | 166 => 19 | 197 => 60 | 169 => 21 | 195 => 63 | 218 => 64 | 240 => 32 | 241 => 65 | 219 => 39 | 260 => 66 | 276 => 50 | 277 => 67 | 217 => 53 | 225 => 54 | 224 => 55 | 267 => 56 | 266 => 61 | 314 => 62 | n => n, fun | 9 => 9 | 3 => 3 | 4 => 4 | 72 => 47 | 0 => 0 | 76 => 52 | 105 => 81 | 21 => 21 | 5 => 5 | 70 => 44 | 20 => 20 | 37 => 45 | 75 => 50 | 127 => 66 | 164 => 75 | 46 => 79 | 119 => 87 | 139 => 90 | 138 => 89 | 146 => 84 | 51 => 83 | 80 => 55 | n => n, fun | 1 => 0 | 3 => 1 | 4 => 2 | n => n⟩
theorem Tryd.laysM154 : Go.Proofs.LaysM.n154 Tryd.prog Tryd.laysM154_ren := {
  mixed := by kernel_rfl
  f138 := Tryd.func58.trans (congrArg some (by kernel_rfl))
  f143 := Tryd.func26.trans (congrArg some (by kernel_rfl))
  f154 := Tryd.func51.trans (congrArg some (by kernel_rfl))
  f165 := Tryd.func59.trans (congrArg some (by kernel_rfl))
  f166 := Tryd.func19.trans (congrArg some (by kernel_rfl))
  f169 := Tryd.func21.trans (congrArg some (by kernel_rfl))
  f195 := Tryd.func63.trans (congrArg some (by kernel_rfl))
  f197 := Tryd.func60.trans (congrArg some (by kernel_rfl))
  f217 := Tryd.func53.trans (congrArg some (by kernel_rfl))
  f218 := Tryd.func64.trans (congrArg some (by kernel_rfl))
  f219 := Tryd.func39.trans (congrArg some (by kernel_rfl))
  f224 := Tryd.func55.trans (congrArg some (by kernel_rfl))
  f225 := Tryd.func54.trans (congrArg some (by kernel_rfl))
  f240 := Tryd.func32.trans (congrArg some (by kernel_rfl))
  f241 := Tryd.func65.trans (congrArg some (by kernel_rfl))
  f260 := Tryd.func66.trans (congrArg some (by kernel_rfl))
  f266 := Tryd.func61.trans (congrArg some (by kernel_rfl))
  f267 := Tryd.func56.trans (congrArg some (by kernel_rfl))
  f276 := Tryd.func50.trans (congrArg some (by kernel_rfl))
  f277 := Tryd.func67.trans (congrArg some (by kernel_rfl))
  f314 := Tryd.func62.trans (congrArg some (by kernel_rfl))
  t0 := Tryd.underlying0
  a0 := Tryd.isAgg0
  z0 := Tryd.sizeOf0
  v0 := Tryd.zeroValue0
  t3 := Tryd.underlying3
  a3 := Tryd.isAgg3
  z3 := Tryd.sizeOf3
  v3 := Tryd.zeroValue3
  t4 := Tryd.underlying4
  a4 := Tryd.isAgg4
  z4 := Tryd.sizeOf4
  v4 := Tryd.zeroValue4
  t5 := Tryd.underlying5
  a5 := Tryd.isAgg5
  z5 := Tryd.sizeOf5
  v5 := Tryd.zeroValue5
  t9 := Tryd.underlying9
  a9 := Tryd.isAgg9
  z9 := Tryd.sizeOf9
  v9 := Tryd.zeroValue9
  t20 := Tryd.underlying20
  a20 := Tryd.isAgg20
  z20 := Tryd.sizeOf20
  v20 := Tryd.zeroValue20
  t21 := Tryd.underlying21
  a21 := Tryd.isAgg21
  z21 := Tryd.sizeOf21
  v21 := Tryd.zeroValue21
  t37 := Tryd.underlying45
  a37 := Tryd.isAgg45
  z37 := Tryd.sizeOf45
  v37 := Tryd.zeroValue45
  t46 := Tryd.underlying79
  a46 := Tryd.isAgg79
  z46 := Tryd.sizeOf79
  v46 := Tryd.zeroValue79
  t51 := Tryd.underlying83
  a51 := Tryd.isAgg83
  z51 := Tryd.sizeOf83
  v51 := Tryd.zeroValue83
  t70 := Tryd.underlying44
  a70 := Tryd.isAgg44
  z70 := Tryd.sizeOf44
  v70 := Tryd.zeroValue44
  t72 := Tryd.underlying47
  a72 := Tryd.isAgg47
  z72 := Tryd.sizeOf47
  v72 := Tryd.zeroValue47
  t75 := Tryd.underlying50
  a75 := Tryd.isAgg50
  z75 := Tryd.sizeOf50
  v75 := Tryd.zeroValue50
  t76 := Tryd.underlying52
  a76 := Tryd.isAgg52
  z76 := Tryd.sizeOf52
  v76 := Tryd.zeroValue52
  t105 := Tryd.underlying81
  a105 := Tryd.isAgg81
  z105 := Tryd.sizeOf81
  v105 := Tryd.zeroValue81
  t119 := Tryd.underlying87
  a119 := Tryd.isAgg87
  z119 := Tryd.sizeOf87
  t127 := Tryd.underlying66
  a127 := Tryd.isAgg66
  z127 := Tryd.sizeOf66
  v127 := Tryd.zeroValue66
  t138 := Tryd.underlying89
  a138 := Tryd.isAgg89
  z138 := Tryd.sizeOf89
  v138 := Tryd.zeroValue89
  t139 := Tryd.underlying90
  a139 := Tryd.isAgg90
  z139 := Tryd.sizeOf90
  v139 := Tryd.zeroValue90
  t146 := Tryd.underlying84
  a146 := Tryd.isAgg84
  z146 := Tryd.sizeOf84
  v146 := Tryd.zeroValue84
  t164 := Tryd.underlying75
  a164 := Tryd.isAgg75
  z164 := Tryd.sizeOf75
  v164 := Tryd.zeroValue75
  g1 := by kernel_rfl
  g3 := by kernel_rfl
  g4 := by kernel_rfl
  t80 := Tryd.underlying55
  a80 := Tryd.isAgg55
  z80 := Tryd.sizeOf55
  v80 := Tryd.zeroValue55
  i0 := by kernel_rfl
  i3 := by kernel_rfl
  i4 := by kernel_rfl
  i5 := by kernel_rfl
  i9 := by kernel_rfl
  i20 := by kernel_rfl
  i21 := by kernel_rfl
  i37 := by kernel_rfl
  i46 := by kernel_rfl
  i51 := by kernel_rfl
  i70 := by kernel_rfl
  i72 := by kernel_rfl
  i75 := by kernel_rfl
  i76 := by kernel_rfl
  i80 := by kernel_rfl
  i105 := by kernel_rfl
  i127 := by kernel_rfl
  i138 := by kernel_rfl
  i139 := by kernel_rfl
  i146 := by kernel_rfl
  i164 := by kernel_rfl
  m1 := by kernel_rfl
  s1_3 := fun w h => Go.Proofs.cell_of_shapedOpen_int (zero := #[.int .i64 0]) (t := 3) h (of_decide_eq_true (by kernel_rfl)) (by kernel_rfl) rfl (by kernel_rfl) (by kernel_rfl) Tryd.underlying3
  m3 := by kernel_rfl
  m4 := by kernel_rfl }
theorem Tryd.Builder_Extra_M154 : Builder.Extra Tryd.prog Tryd.laysM154_ren := {
  sizeBuilder := by kernel_rfl
  liesBuilder := by kernel_rfl
  t5 := Tryd.underlying5
  a5 := Tryd.isAgg5
  z5 := Tryd.sizeOf5
  v5 := Tryd.zeroValue5
  infoByte := by kernel_rfl
  cellsByte := by kernel_rfl
  sizeByte := by kernel_rfl
  neB5 := by decide }
open Go.RowKit Go.Lib in
theorem Tryd.strings_Replace_shaped (s old new : ByteArray) (n : Int) (w : World) (h : w.ShapedOpen Tryd.prog) (hs : s.size < 4294967281) (h1 : 1 ≤ old.size) (hlen : s.size + Lib.countB s old * new.size ≤ 140737488355328) :
    Calls Tryd.prog 51 #[.string s, .string old, .string new, .int .i64 n] w fun e w' =>
      e = .returned (.string ⟨(Lib.replace s.data.toList old.data.toList new.data.toList n).toArray⟩) ∧ Below w.heap.size w w' := Any.strings_Replace_shaped Tryd.laysM154 Tryd.Builder_Extra_M154 s old new n w h hs h1 hlen
def Tryd.laysM155_ren : Go.Shelf.Ren := ⟨fun | 155 => 33 | 154 => 51 | 138 => 58 | 165 => 59 | 143 => 26 | 166 => 19 | 197 => 60 | 169 => 21 | 195 => 63 | 218 => 64 | 240 => 32 | 241 => 65 | 219 => 39 | 260 => 66 | 276 => 50 | 277 => 67 | 217 => 53 | 225 => 54 | 224 => 55 | 267 => 56 | 266 => 61 | 314 => 62 | n => n, fun | 9 => 9 | 3 => 3 | 4 => 4 | 72 => 47 | 0 => 0 | 76 => 52 | 105 => 81 | 21 => 21 | 5 => 5 | 70 => 44 | 20 => 20 | 37 => 45 | 75 => 50 | 127 => 66 | 164 => 75 | 46 => 79 | 119 => 87 | 139 => 90 | 138 => 89 | 146 => 84 | 51 => 83 | 80 => 55 | n => n, fun | 1 => 0 | 3 => 1 | 4 => 2 | n => n⟩
theorem Tryd.laysM155 : Go.Proofs.LaysM.n155 Tryd.prog Tryd.laysM155_ren := {
  mixed := by kernel_rfl
  f138 := Tryd.func58.trans (congrArg some (by kernel_rfl))
  f143 := Tryd.func26.trans (congrArg some (by kernel_rfl))
  f154 := Tryd.func51.trans (congrArg some (by kernel_rfl))
  f155 := Tryd.func33.trans (congrArg some (by kernel_rfl))
  f165 := Tryd.func59.trans (congrArg some (by kernel_rfl))
  f166 := Tryd.func19.trans (congrArg some (by kernel_rfl))
  f169 := Tryd.func21.trans (congrArg some (by kernel_rfl))
  f195 := Tryd.func63.trans (congrArg some (by kernel_rfl))
  f197 := Tryd.func60.trans (congrArg some (by kernel_rfl))
  f217 := Tryd.func53.trans (congrArg some (by kernel_rfl))
  f218 := Tryd.func64.trans (congrArg some (by kernel_rfl))
  f219 := Tryd.func39.trans (congrArg some (by kernel_rfl))
  f224 := Tryd.func55.trans (congrArg some (by kernel_rfl))
  f225 := Tryd.func54.trans (congrArg some (by kernel_rfl))
  f240 := Tryd.func32.trans (congrArg some (by kernel_rfl))
  f241 := Tryd.func65.trans (congrArg some (by kernel_rfl))
  f260 := Tryd.func66.trans (congrArg some (by kernel_rfl))
  f266 := Tryd.func61.trans (congrArg some (by kernel_rfl))
  f267 := Tryd.func56.trans (congrArg some (by kernel_rfl))
  f276 := Tryd.func50.trans (congrArg some (by kernel_rfl))
  f277 := Tryd.func67.trans (congrArg some (by kernel_rfl))
  f314 := Tryd.func62.trans (congrArg some (by kernel_rfl))
  t0 := Tryd.underlying0
  a0 := Tryd.isAgg0
  z0 := Tryd.sizeOf0
  v0 := Tryd.zeroValue0
  t3 := Tryd.underlying3
  a3 := Tryd.isAgg3
  z3 := Tryd.sizeOf3
  v3 := Tryd.zeroValue3
  t4 := Tryd.underlying4
  a4 := Tryd.isAgg4
  z4 := Tryd.sizeOf4
  v4 := Tryd.zeroValue4
  t5 := Tryd.underlying5
  a5 := Tryd.isAgg5
  z5 := Tryd.sizeOf5
  v5 := Tryd.zeroValue5
  t9 := Tryd.underlying9
  a9 := Tryd.isAgg9
  z9 := Tryd.sizeOf9
  v9 := Tryd.zeroValue9
  t20 := Tryd.underlying20
  a20 := Tryd.isAgg20
  z20 := Tryd.sizeOf20
  v20 := Tryd.zeroValue20
  t21 := Tryd.underlying21
  a21 := Tryd.isAgg21
  z21 := Tryd.sizeOf21
  v21 := Tryd.zeroValue21
  t37 := Tryd.underlying45
  a37 := Tryd.isAgg45
  z37 := Tryd.sizeOf45
  v37 := Tryd.zeroValue45
  t46 := Tryd.underlying79
  a46 := Tryd.isAgg79
  z46 := Tryd.sizeOf79
  v46 := Tryd.zeroValue79
  t51 := Tryd.underlying83
  a51 := Tryd.isAgg83
  z51 := Tryd.sizeOf83
  v51 := Tryd.zeroValue83
  t70 := Tryd.underlying44
  a70 := Tryd.isAgg44
  z70 := Tryd.sizeOf44
  v70 := Tryd.zeroValue44
  t72 := Tryd.underlying47
  a72 := Tryd.isAgg47
  z72 := Tryd.sizeOf47
  v72 := Tryd.zeroValue47
  t75 := Tryd.underlying50
  a75 := Tryd.isAgg50
  z75 := Tryd.sizeOf50
  v75 := Tryd.zeroValue50
  t76 := Tryd.underlying52
  a76 := Tryd.isAgg52
  z76 := Tryd.sizeOf52
  v76 := Tryd.zeroValue52
  t105 := Tryd.underlying81
  a105 := Tryd.isAgg81
  z105 := Tryd.sizeOf81
  v105 := Tryd.zeroValue81
  t119 := Tryd.underlying87
  a119 := Tryd.isAgg87
  z119 := Tryd.sizeOf87
  t127 := Tryd.underlying66
  a127 := Tryd.isAgg66
  z127 := Tryd.sizeOf66
  v127 := Tryd.zeroValue66
  t138 := Tryd.underlying89
  a138 := Tryd.isAgg89
  z138 := Tryd.sizeOf89
  v138 := Tryd.zeroValue89
  t139 := Tryd.underlying90
  a139 := Tryd.isAgg90
  z139 := Tryd.sizeOf90
  v139 := Tryd.zeroValue90
  t146 := Tryd.underlying84
  a146 := Tryd.isAgg84
  z146 := Tryd.sizeOf84
  v146 := Tryd.zeroValue84
  t164 := Tryd.underlying75
  a164 := Tryd.isAgg75
  z164 := Tryd.sizeOf75
  v164 := Tryd.zeroValue75
  g1 := by kernel_rfl
  g3 := by kernel_rfl
  g4 := by kernel_rfl
  t80 := Tryd.underlying55
  a80 := Tryd.isAgg55
  z80 := Tryd.sizeOf55
  v80 := Tryd.zeroValue55
  i0 := by kernel_rfl
  i3 := by kernel_rfl
  i4 := by kernel_rfl
  i5 := by kernel_rfl
  i9 := by kernel_rfl
  i20 := by kernel_rfl
  i21 := by kernel_rfl
  i37 := by kernel_rfl
  i46 := by kernel_rfl
  i51 := by kernel_rfl
  i70 := by kernel_rfl
  i72 := by kernel_rfl
  i75 := by kernel_rfl
  i76 := by kernel_rfl
  i80 := by kernel_rfl
  i105 := by kernel_rfl
  i127 := by kernel_rfl
  i138 := by kernel_rfl
  i139 := by kernel_rfl
  i146 := by kernel_rfl
  i164 := by kernel_rfl
  m1 := by kernel_rfl
  s1_3 := fun w h => Go.Proofs.cell_of_shapedOpen_int (zero := #[.int .i64 0]) (t := 3) h (of_decide_eq_true (by kernel_rfl)) (by kernel_rfl) rfl (by kernel_rfl) (by kernel_rfl) Tryd.underlying3
  m3 := by kernel_rfl
  m4 := by kernel_rfl }
theorem Tryd.Builder_Extra_M155 : Builder.Extra Tryd.prog Tryd.laysM155_ren := {
  sizeBuilder := by kernel_rfl
  liesBuilder := by kernel_rfl
  t5 := Tryd.underlying5
  a5 := Tryd.isAgg5
  z5 := Tryd.sizeOf5
  v5 := Tryd.zeroValue5
  infoByte := by kernel_rfl
  cellsByte := by kernel_rfl
  sizeByte := by kernel_rfl
  neB5 := by decide }
open Go.RowKit Go.Lib in
theorem Tryd.strings_ReplaceAll_shaped (s old new : ByteArray) (w : World) (h : w.ShapedOpen Tryd.prog) (hs : s.size < 4294967281) (h1 : 1 ≤ old.size) (hlen : s.size + Lib.countB s old * new.size ≤ 140737488355328) :
    Calls Tryd.prog 33 #[.string s, .string old, .string new] w fun e w' =>
      e = .returned (.string ⟨(Lib.replaceAll s.data.toList old.data.toList new.data.toList).toArray⟩) ∧ Below w.heap.size w w' := Any.strings_ReplaceAll_shaped Tryd.laysM155 Tryd.Builder_Extra_M155 s old new w h hs h1 hlen
def Tryd.lays197_ren : Go.Shelf.Ren := ⟨fun | 197 => 60 | 260 => 66 | n => n, fun | 9 => 9 | 21 => 21 | 3 => 3 | 4 => 4 | 5 => 5 | 105 => 81 | 119 => 87 | 0 => 0 | 46 => 79 | 139 => 90 | 138 => 89 | n => n, fun | 3 => 1 | 4 => 2 | n => n⟩
theorem Tryd.lays197 : Go.Proofs.Lays.n197 Tryd.prog Tryd.lays197_ren := {
  mixed := by kernel_rfl
  f197 := Tryd.func60.trans (congrArg some (by kernel_rfl))
  f260 := Tryd.func66.trans (congrArg some (by kernel_rfl))
  t0 := Tryd.underlying0
  a0 := Tryd.isAgg0
  z0 := Tryd.sizeOf0
  v0 := Tryd.zeroValue0
  t3 := Tryd.underlying3
  a3 := Tryd.isAgg3
  z3 := Tryd.sizeOf3
  v3 := Tryd.zeroValue3
  t4 := Tryd.underlying4
  a4 := Tryd.isAgg4
  z4 := Tryd.sizeOf4
  v4 := Tryd.zeroValue4
  t5 := Tryd.underlying5
  a5 := Tryd.isAgg5
  z5 := Tryd.sizeOf5
  v5 := Tryd.zeroValue5
  t9 := Tryd.underlying9
  a9 := Tryd.isAgg9
  z9 := Tryd.sizeOf9
  v9 := Tryd.zeroValue9
  t21 := Tryd.underlying21
  a21 := Tryd.isAgg21
  z21 := Tryd.sizeOf21
  v21 := Tryd.zeroValue21
  t46 := Tryd.underlying79
  a46 := Tryd.isAgg79
  z46 := Tryd.sizeOf79
  v46 := Tryd.zeroValue79
  t105 := Tryd.underlying81
  a105 := Tryd.isAgg81
  z105 := Tryd.sizeOf81
  v105 := Tryd.zeroValue81
  t119 := Tryd.underlying87
  a119 := Tryd.isAgg87
  z119 := Tryd.sizeOf87
  t138 := Tryd.underlying89
  a138 := Tryd.isAgg89
  z138 := Tryd.sizeOf89
  v138 := Tryd.zeroValue89
  t139 := Tryd.underlying90
  a139 := Tryd.isAgg90
  z139 := Tryd.sizeOf90
  v139 := Tryd.zeroValue90
  g3 := by kernel_rfl
  g4 := by kernel_rfl }
open Go.RowKit Go.Lib in
theorem Tryd.utf8_DecodeRuneInString_ascii (s : ByteArray) (x : UInt8) (w : World) (h0 : s.data.toList[0]? = some x) (hx : x.toNat < 128) :
    Calls Tryd.prog 60 #[.string s] w fun e w' => e = .returned (.tuple #[.int .i32 x.toNat, .int .i64 1]) ∧ w' = w := Any.utf8_DecodeRuneInString_ascii Tryd.lays197 s x w h0 hx
open Go.RowKit Go.Lib in
theorem Tryd.utf8_RuneCountInString_ascii (s : ByteArray) (w : World) (hs : s.size < 4294967281) (hascii : ∀ (j : Nat) b, s.data.toList[j]? = some b → b.toNat < 128) :
    Calls Tryd.prog 63 #[.string s] w fun e w' => e = .returned (.int .i64 s.size) ∧ w' = w.iter s s.size := Any.utf8_RuneCountInString_ascii Tryd.lays195 s w hs hascii
def Tryd.lays260_ren : Go.Shelf.Ren := ⟨fun | 260 => 66 | n => n, fun | 9 => 9 | 21 => 21 | 3 => 3 | 4 => 4 | 5 => 5 | 119 => 87 | 0 => 0 | 46 => 79 | 139 => 90 | 138 => 89 | n => n, fun | 3 => 1 | 4 => 2 | n => n⟩
theorem Tryd.lays260 : Go.Proofs.Lays.n260 Tryd.prog Tryd.lays260_ren := {
  mixed := by kernel_rfl
  f260 := Tryd.func66.trans (congrArg some (by kernel_rfl))
  t0 := Tryd.underlying0
  a0 := Tryd.isAgg0
  z0 := Tryd.sizeOf0
  v0 := Tryd.zeroValue0
  t3 := Tryd.underlying3
  a3 := Tryd.isAgg3
  z3 := Tryd.sizeOf3
  v3 := Tryd.zeroValue3
  t4 := Tryd.underlying4
  a4 := Tryd.isAgg4
  z4 := Tryd.sizeOf4
  v4 := Tryd.zeroValue4
  t5 := Tryd.underlying5
  a5 := Tryd.isAgg5
  z5 := Tryd.sizeOf5
  v5 := Tryd.zeroValue5
  t9 := Tryd.underlying9
  a9 := Tryd.isAgg9
  z9 := Tryd.sizeOf9
  v9 := Tryd.zeroValue9
  t21 := Tryd.underlying21
  a21 := Tryd.isAgg21
  z21 := Tryd.sizeOf21
  v21 := Tryd.zeroValue21
  t46 := Tryd.underlying79
  a46 := Tryd.isAgg79
  z46 := Tryd.sizeOf79
  v46 := Tryd.zeroValue79
  t119 := Tryd.underlying87
  a119 := Tryd.isAgg87
  z119 := Tryd.sizeOf87
  t138 := Tryd.underlying89
  a138 := Tryd.isAgg89
  z138 := Tryd.sizeOf89
  v138 := Tryd.zeroValue89
  t139 := Tryd.underlying90
  a139 := Tryd.isAgg90
  z139 := Tryd.sizeOf90
  v139 := Tryd.zeroValue90
  g3 := by kernel_rfl
  g4 := by kernel_rfl }
open Go.RowKit Go.Lib in
theorem Tryd.utf8_decodeRuneInStringSlow (s : ByteArray) (w : World) (hT : Lib.Utf8Tabs 1 2 w) :
    Calls Tryd.prog 66 #[.string s] w fun e w' => e = .returned (.tuple #[.int .i32 (Lib.decodeGo s).1, .int .i64 (Lib.decodeGo s).2]) ∧ Below w.heap.size w w' := Any.utf8_decodeRuneInStringSlow Tryd.lays260 s w hT
open Go.RowKit Go.Lib in
theorem Tryd.utf8_DecodeRuneInString (s : ByteArray) (w : World) (hT : Lib.Utf8Tabs 1 2 w) :
    Calls Tryd.prog 60 #[.string s] w fun e w' => e = .returned (.tuple #[.int .i32 (Lib.decodeGo s).1, .int .i64 (Lib.decodeGo s).2]) ∧ Below w.heap.size w w' := Any.utf8_DecodeRuneInString Tryd.lays197 s w hT
end Go.Proofs

/- strings.Builder: copyCheck, WriteByte, WriteString at this program (after the kit's walks of the same functions). -/
set_option linter.unusedVariables false
namespace Go.Proofs.Ld
open Go.Shelf Go.RowKit

theorem X72 : Go.Proofs.Builder.X72 Tryd.prog ⟨id, fun | 72 => 47 | 70 => 44 | 9 => 9 | 4 => 4 | 164 => 75 | n => n, id⟩ where
  sizeBuilder := by kernel_rfl
  liesBuilder := by kernel_rfl
set_option maxHeartbeats 1000000 in
set_option maxRecDepth 100000 in
theorem copyCheck_used (b : Nat) (w : World) (h0 : w.cell? ⟨b, 0, none⟩ = some (.pointer (some ⟨b, 0, none⟩))) :
    Calls Tryd.prog 32 #[.pointer (some ⟨b, 0, none⟩)] w fun e w' => e = .returned (.tuple #[]) ∧ w' = w := by
  obtain ⟨j, hj, _⟩ := Option.map_eq_some_iff.1 X72.sizeBuilder
  go_enter Tryd.func32, Tryd.ntmps32
  go_wp2
  rw [Lib.run_neq_ptr_same w _ Tryd.underlying44 hj]
  go_wp2
  go_end0
  exact ⟨rfl, rfl⟩

theorem XB : Go.Proofs.Builder.Extra Tryd.prog ⟨id, fun | 72 => 47 | 70 => 44 | 9 => 9 | 4 => 4 | 164 => 75 | n => n, id⟩ where
  sizeBuilder := by kernel_rfl
  liesBuilder := by kernel_rfl
  t5 := Tryd.underlying5
  a5 := Tryd.isAgg5
  z5 := Tryd.sizeOf5
  v5 := Tryd.zeroValue5
  infoByte := by kernel_rfl
  cellsByte := by kernel_rfl
  sizeByte := by kernel_rfl
  neB5 := by decide
set_option maxHeartbeats 1000000 in
set_option maxRecDepth 100000 in
theorem copyCheck_fresh (b : Nat) (w : World) (h0 : w.cell? ⟨b, 0, none⟩ = some (.pointer none)) (hsh : w.shape? b = some (47, 2)) (hfz : w.frozen? ⟨b, 0, none⟩ = false) :
    Calls Tryd.prog 32 #[.pointer (some ⟨b, 0, none⟩)] w fun e w' => e = .returned (.tuple #[]) ∧ w' = w.setCell ⟨b, 0, none⟩ (.pointer (some ⟨b, 0, none⟩)) := by
  obtain ⟨j, hj, hjs⟩ := Option.map_eq_some_iff.1 X72.sizeBuilder
  have hj' : Tryd.prog.info? 47 = some j := hj
  go_enter Tryd.func32, Tryd.ntmps32
  go_wp2
  rw [Lib.run_to_unsafe w ⟨b, 0, none⟩ Tryd.underlying44 Tryd.underlying75 hj' (by rw [hjs]; decide) hsh (Nat.zero_lt_succ 1)]
  simp only [Result.andThen]
  rw [Oper.upon_value]
  go_wp2
  rw [run_callFunc_extern Tryd.func50 (by kernel_rfl) (by kernel_rfl) (by kernel_rfl) (e := Extern.AbiNoEscape.same) (by kernel_rfl)]
  rw [Lib.run_noEscape]
  simp only [Result.andThen]
  rw [Oper.upon_value]
  go_wp2
  rw [Lib.run_from_unsafe w ⟨b, 0, none⟩ Tryd.underlying75 Tryd.underlying44 hj' hsh X72.liesBuilder]
  simp only [Result.andThen]
  rw [Oper.upon_value]
  go_wp2
  go_end0
  exact ⟨rfl, rfl⟩
theorem copyCheck (B b : Nat) (bs : List Value) (w : World) (h : Lib.IsBuilder 47 5 B b bs w) :
    Calls Tryd.prog 32 #[.pointer (some ⟨b, 0, none⟩)] w fun e w' => e = .returned (.tuple #[]) ∧ (Lib.BuilderAt 47 5 B b (.pointer (some ⟨b, 0, none⟩)) bs w' ∧ Below B w w') := by
  rcases h with h | h
  · refine (copyCheck_fresh b w h.cell0 h.shape h.frozen0).mono ?_
    rintro e w' ⟨rfl, rfl⟩
    exact ⟨rfl, h.used _, (Below.refl B w).setCell (p := ⟨b, 0, none⟩) h.1 _⟩
  · refine (copyCheck_used b w h.cell0).mono ?_
    rintro e w' ⟨rfl, rfl⟩
    exact ⟨rfl, h, Below.refl B _⟩
theorem heap_lt {w : World} {b : Nat} {o : Obj} (h : w.heap[b]? = some o) : b < w.heap.size := (Array.getElem?_eq_some_iff.1 h).1
theorem one_cell (w1 : World) (c : Int) (t : TypeId) : ∀ (j : Nat) u, [Value.int .u8 c][j]? = some u → (w1.alloc (.cells #[.int .u8 c] t)).cell? ((⟨w1.heap.size, 0, none⟩ : Addr).add j) = some u := by
  intro j u hj
  match j, hj with
  | 0, hj => simp at hj; subst hj; simp [Addr.add]
theorem one_u8 (c : Int) : ∀ u ∈ [Value.int .u8 c], u.oneCell' = true := by intro u hu; simp at hu; subst hu; rfl
set_option maxHeartbeats 2000000 in
set_option maxRecDepth 100000 in
theorem writeByte (B b : Nat) (bs : List Value) (c : Int) (w : World) (h : Lib.IsBuilder 47 5 B b bs w) (hlen : bs.length + 1 ≤ 140737488355328) (hBw : B ≤ w.heap.size) :
    Calls Tryd.prog 18 #[.pointer (some ⟨b, 0, none⟩), .int .u8 c] w fun e w' => e = .returned .nilIface ∧ (Lib.BuilderAt 47 5 B b (.pointer (some ⟨b, 0, none⟩)) (bs ++ [.int .u8 c]) w' ∧ Below B w w') := by
  obtain ⟨i0, hi, hz0, hz1, hz2⟩ := info_parts XB.infoByte
  have mixed : Tryd.prog.follows .mixedOrders = true := by kernel_rfl
  go_enter Tryd.func18, Tryd.ntmps18
  go_wp2_with (first
    | (go_at_call 32; refine (copyCheck B b bs _ h).mono ?_; rintro e w1 ⟨rfl, ⟨hB, v, hbk, hown, hne⟩, hb1⟩; have c0 : w1.cell? ⟨b, 0, none⟩ = some (.pointer (some ⟨b, 0, none⟩)) := (by rw [Lib.cell_of_heap hbk]; rfl); have c1 : w1.cell? ⟨b, 1, none⟩ = some v := (by rw [Lib.cell_of_heap hbk]; rfl))
    | (at_builtin; refine wpList_append_own _ rfl _ _ 45 rfl B 5 i0 (.int .u8 0) 1 1 Tryd.underlying45 hi hz0 hz1 hz2 rfl (by decide) _ _ _ rfl (hown.alloc _) ⟨w1.heap.size, 0, none⟩ 1 1 [.int .u8 c] rfl rfl (one_cell _ _ _) (one_u8 c) (by unfold maxLen; simp; omega) (by simp; omega) (by have := hb1.size; simp; omega) ?_
       intro v' w2 hown' hgrow _
       have hlt : b < w1.heap.size := heap_lt hbk
       have hb2 : w2.heap[b]? = some (.cells #[.pointer (some ⟨b, 0, none⟩), v] 47 (0, 0)) := (by
         rw [hgrow.block b (by simp; omega) (fun e => hne e.symm), Lib.alloc_old w1 _ b hlt]
         exact hbk)
       have d0 : w2.cell? ⟨b, 0, none⟩ = some (.pointer (some ⟨b, 0, none⟩)) := (by rw [Lib.cell_of_heap hb2]; rfl)
       have d1 : w2.cell? ⟨b, 1, none⟩ = some v := (by rw [Lib.cell_of_heap hb2]; rfl)
       have f1 : w2.frozen? ⟨b, 1, none⟩ = false := Lib.frozen_of_heap hb2 1
       have hf1 : Lib.BuilderAt 47 5 B b (.pointer (some ⟨b, 0, none⟩)) (bs ++ [.int .u8 c]) (w2.setCell ⟨b, 1, none⟩ v') := Lib.BuilderAt.put (T := 47) (e := 5) hB hb2 (bs' := bs ++ [.int .u8 c]) (by simpa using hown') XB.neB5
       have hf2 : Below B w (w2.setCell ⟨b, 1, none⟩ v') := ((hb1.alloc (by have := hb1.size; omega) _).grown hgrow (by have := hb1.size; simp; omega) (fun k hk => (hown.lt k hk).1)).setCell (p := ⟨b, 1, none⟩) hB _
       obtain ⟨g, cap, rfl⟩ : ∃ g cap, v' = .slice (some ⟨g, 0, none⟩) (bs.length + 1) cap := (by
         rcases hown'.2 with ⟨_, h0⟩ | ⟨g, cap, cur, hv, _⟩
         · simp at h0
         · exact ⟨g, cap, by simpa using hv⟩)))
  go_ret
  exact ⟨rfl, by assumption, by assumption⟩
set_option maxHeartbeats 2000000 in
set_option maxRecDepth 100000 in
theorem writeString (B b : Nat) (bs : List Value) (s : ByteArray) (w : World) (h : Lib.IsBuilder 47 5 B b bs w) (hlen : bs.length + s.size ≤ 140737488355328) (hBw : B ≤ w.heap.size) :
    Calls Tryd.prog 19 #[.pointer (some ⟨b, 0, none⟩), .string s] w fun e w' => e = .returned (.tuple #[.int .i64 s.size, .nilIface]) ∧ (Lib.BuilderAt 47 5 B b (.pointer (some ⟨b, 0, none⟩)) (bs ++ Lib.strCells s) w' ∧ Below B w w') := by
  obtain ⟨i0, hi, hz0, hz1, hz2⟩ := info_parts XB.infoByte
  have mixed : Tryd.prog.follows .mixedOrders = true := by kernel_rfl
  go_enter Tryd.func19, Tryd.ntmps19
  go_wp2_with (first
    | (go_at_call 32; refine (copyCheck B b bs _ h).mono ?_; rintro e w1 ⟨rfl, ⟨hB, v, hbk, hown, hne⟩, hb1⟩; have c0 : w1.cell? ⟨b, 0, none⟩ = some (.pointer (some ⟨b, 0, none⟩)) := (by rw [Lib.cell_of_heap hbk]; rfl); have c1 : w1.cell? ⟨b, 1, none⟩ = some v := (by rw [Lib.cell_of_heap hbk]; rfl))
    | (at_builtin; refine Lib.wpList_append_own_string _ rfl _ _ 45 9 rfl B 5 i0 Tryd.underlying45 Tryd.underlying9 hi hz0 hz1 hz2 _ _ _ rfl hown s rfl (by unfold maxLen; omega) (by omega) (by have := hb1.size; omega) ?_
       intro v' w2 hown' hgrow _
       have hlt : b < w1.heap.size := heap_lt hbk
       have hb2 : w2.heap[b]? = some (.cells #[.pointer (some ⟨b, 0, none⟩), v] 47 (0, 0)) := (by
         rw [hgrow.block b hlt (fun e => hne e.symm)]
         exact hbk)
       have d0 : w2.cell? ⟨b, 0, none⟩ = some (.pointer (some ⟨b, 0, none⟩)) := (by rw [Lib.cell_of_heap hb2]; rfl)
       have d1 : w2.cell? ⟨b, 1, none⟩ = some v := (by rw [Lib.cell_of_heap hb2]; rfl)
       have f1 : w2.frozen? ⟨b, 1, none⟩ = false := Lib.frozen_of_heap hb2 1
       have hf1 : Lib.BuilderAt 47 5 B b (.pointer (some ⟨b, 0, none⟩)) (bs ++ Lib.strCells s) (w2.setCell ⟨b, 1, none⟩ v') := Lib.BuilderAt.put (T := 47) (e := 5) hB hb2 (bs' := bs ++ Lib.strCells s) (by simpa [Lib.strCells_length] using hown') XB.neB5
       have hf2 : Below B w (w2.setCell ⟨b, 1, none⟩ v') := (hb1.grown hgrow (by have := hb1.size; omega) (fun k hk => (hown.lt k hk).1)).setCell (p := ⟨b, 1, none⟩) hB _
       obtain ⟨ao, n', cap, rfl⟩ : ∃ ao n' cap, v' = .slice ao n' cap := (by
         rcases hown'.2 with ⟨hv, _⟩ | ⟨g, cap, cur, hv, _⟩
         · exact ⟨_, _, _, hv⟩
         · exact ⟨_, _, _, hv⟩)))
  go_ret2
  exact ⟨rfl, by assumption, by assumption⟩
end Go.Proofs.Ld

/- strings.Builder as callees of the engine: copyCheck and String, walked by hand. -/
set_option linter.unusedVariables false
namespace Go.Eng
open Go.RowKit Go.Proofs Go.Shelf

def sg_copyCheck : Sig := { na := 1, np := 2, hin := { items := [.slot 0, .box 0 2], shapes := [.lit (.box 0 0), .lit (.self 47), .row 5 1 1] }, nres := 0, kept := [], nnew := 0, hout := { items := [.box 0 2], shapes := [.lit (.self 47), .row 5 1 1] }, nob := 0 }
noncomputable def u_copyCheck (t : Unit × Unit × List T × Unit) : Option (Unit × List T × Unit) := some ((), t.2.2.1, ())

/-- What a builder is, by the engine's words. -/
theorem bld_in {w : World} {F Xc : Nat → Prop} {ρ0 ρ : Rho} {vals : List Value} {l : List T} (h : Rel w F Xc ρ0 ρ { np := 2, env := [.s (.c (.box 0 0))], objs := [.box [.self 47, .row 1], .row false 5 1 l] } { tmps := vals.toArray, defers := [] } w) :
    ∃ (g : Nat) (p v : Value) (xs : List Value), vals = [.pointer (some ⟨g, 0, none⟩)] ∧ ρ 0 = some (.pointer (some ⟨g, 0, none⟩)) ∧ ρ 1 = some v ∧ w.heap[g]? = some (.cells #[p, v] 47 (0, 0)) ∧ (p = .pointer none ∨ p = .pointer (some ⟨g, 0, none⟩)) ∧
      w.ownsRow 0 5 1 v l.length xs ∧ Uni 1 l ∧ RdT w (XB [.box [.self 47, .row 1], .row false 5 1 l] ρ Xc) (flat l) xs ∧ blk v ≠ some g := by
  obtain ⟨hv, e1, g, ys, ty, e2, e3, e4, e5⟩ := h.objs 0 _ rfl
  obtain ⟨v, f1, f2, f3, ⟨xs, f4, f5⟩, f6⟩ := h.objs 1 _ rfl
  obtain ⟨rfl, p, e6, e7⟩ := e4 47 rfl
  subst e2
  have hys : ys = #[p, v] := by
    have hlen : ys.toList.length = 2 := e5.1
    match hy : ys.toList, hlen with
    | [a, b], _ =>
      have h0 : ys = #[a, b] := by rw [← Array.toArray_toList (xs := ys), hy]
      subst h0
      simp at e6
      subst e6
      rcases e5.2 1 (.row 1) b rfl rfl with hb | ⟨hb, _⟩
      · cases hb
      · have hb' : ρ 1 = some b := hb
        rw [f1] at hb'
        cases hb'
        rfl
  subst hys
  have hlen := h.len
  simp only [List.size_toArray, List.length_cons, List.length_nil] at hlen
  match vals, hlen with
  | [y], _ =>
    have hy := h.env 0 _ y rfl rfl
    rcases hy with hy | ⟨⟨hh, g1, a, g2, g3⟩, _⟩
    · cases hy
    · rw [e1] at g1
      cases g1
      simp only [baseA, Option.some.injEq] at g2
      subst g2
      refine ⟨g, p, v, xs, by rw [g3]; rfl, e1, f1, e3, e7, f4, f3, f5, fun hb => ?_⟩
      have := h.sep 0 1 g ⟨_, _, rfl, rfl, e1, rfl⟩ ⟨_, _, rfl, rfl, f1, hb⟩
      cases this

theorem own_noptr {w : World} {base e n m : Nat} {v : Value} {xs : List Value} (h : w.ownsRow base e n v m xs) : v.ownBlock = blk v := by
  rcases h.2 with ⟨rfl, _⟩ | ⟨g, cap, cur, rfl, _⟩ <;> rfl
/-- The cells of a row of bytes. -/
theorem is_bld {w : World} {g : Nat} {p v : Value} {m : Nat} {xs : List Value} (hb : w.heap[g]? = some (.cells #[p, v] 47 (0, 0))) (ho : w.ownsRow 0 5 1 v m xs) (hn : blk v ≠ some g) : Lib.BuilderAt 47 5 0 g p xs w :=
  ⟨Nat.zero_le _, v, hb, by have : xs.length = m := by have := ho.1; omega
                            rw [this]; exact ho, by rw [own_noptr ho]; exact hn⟩

theorem k_copyCheck : (calleeOf sg_copyCheck u_copyCheck).OK Tryd.prog 32 := by
  refine objCallee fun t q hq w Xc F ρ0 ρ vals hG hR rs hrs => ?_
  have hrs' : (some [] : Option (List S1)) = some rs := hrs
  cases hrs'
  cases hq
  obtain ⟨g, p, v, xs, rfl, r0, r1, hb, hp, ho, hu, hx, hn⟩ := bld_in (l := t.2.2.1) hR
  have hB := is_bld hb ho hn
  have hlt : g < w.heap.size := Ld.heap_lt hb
  have key : ∀ w', w'.heap[g]? = some (.cells #[.pointer (some ⟨g, 0, none⟩), v] 47 (0, 0)) → Stp (fun x => x = g) w w' →
      ∃ y ρ', (Ending.returned (Value.tuple #[])) = .returned y ∧ Stp (mutB [.box [.self 47, .row 1], .row false 5 1 t.2.2.1] ρ) w w' ∧ (∀ k, k < 2 → ρ' k = ρ k) ∧
        (∀ (k : Nat) o, [O.box [.self 47, .row 1], .row false 5 1 t.2.2.1][k]? = some o → okK w' (XB [.box [.self 47, .row 1], .row false 5 1 t.2.2.1] ρ' Xc) ρ' k o) ∧
        Sep [.box [.self 47, .row 1], .row false 5 1 t.2.2.1] ρ' ∧
        (∀ k b, Has [.box [.self 47, .row 1], .row false 5 1 t.2.2.1] ρ' k b → (∃ k', Has [.box [.self 47, .row 1], .row false 5 1 t.2.2.1] ρ k' b) ∨ w.heap.size ≤ b) ∧
        RdRes w' (XB [.box [.self 47, .row 1], .row false 5 1 t.2.2.1] ρ' Xc) ρ' [] y := fun w' h1 h2 => by
    have hmg : mutB [.box [.self 47, .row 1], .row false 5 1 t.2.2.1] ρ g := ⟨0, _, _, rfl, rfl, r0, rfl⟩
    refine ⟨_, ρ, rfl, h2.mono fun x hx _ => hx ▸ hmg, fun _ _ => rfl, fun k o hk => ?_, hR.sep, fun k b hb => .inl ⟨k, hb⟩, #[], rfl, rfl, fun i s y h => by simp at h⟩
    match k, hk with
    | 0, hk =>
      cases hk
      refine ⟨_, r0, g, _, 47, rfl, h1, fun u hu => by cases hu; exact ⟨rfl, _, rfl, .inr rfl⟩, rfl, fun i c y e1 e2 => ?_⟩
      match i, e1, e2 with
      | 0, e1, e2 => cases e1; cases e2; exact .inr ⟨trivial, rfl⟩
      | 1, e1, e2 => cases e1; cases e2; exact .inr ⟨r1, by rcases ho.2 with ⟨rfl, _⟩ | ⟨g', cap, cur, rfl, _⟩ <;> rfl⟩
      | i + 2, e1, e2 => simp at e1
    | 1, hk =>
      cases hk
      obtain ⟨v', f1, f2⟩ := hR.objs 1 _ rfl
      have : v' = v := by have := f1.symm.trans r1; cases this; rfl
      subst this
      exact ⟨v', r1, f2.step h2 (fun b hb => hb ▸ .inl hmg) (fun b hb => .inl hb) (.refl _) (fun b hb e => hn (e ▸ hb))⟩
    | k + 2, hk => simp at hk
  rcases hp with rfl | rfl
  · refine (Ld.copyCheck_fresh g w hB.cell0 (by simp [World.shape?, hb]) hB.frozen0).mono ?_
    rintro e w' ⟨rfl, rfl⟩
    exact key _ (by simp [World.setCell, Array.getElem?_modify, hb]) (Stp.setCell _ _ _ _ rfl)
  · refine (Ld.copyCheck_used g w hB.cell0).mono ?_
    rintro e w' ⟨rfl, rfl⟩
    exact key _ hb (.refl _ _)

theorem freeze_stp (w : World) (p : Addr) (n : Nat) : Stp (fun x => x = p.block) w (w.freeze p n) := by
  unfold World.freeze
  split
  · exact .refl _ _
  · exact ⟨rfl, rfl, rfl, by simp, fun k _ hk => by
      simp only [Array.getElem?_modify]
      rw [if_neg (fun e => hk e.symm)]⟩
set_option maxHeartbeats 2000000 in
set_option maxRecDepth 100000 in
theorem string_some (b : Nat) (p v : Value) (l : List UInt8) (w : World) (hbk : w.heap[b]? = some (.cells #[p, v] 47 (0, 0))) (hown : w.ownsRow 0 5 1 v l.length (Lib.byteCells l)) (h0 : l ≠ []) :
    Calls Tryd.prog 21 #[.pointer (some ⟨b, 0, none⟩)] w fun e w' => e = .returned (.string ⟨l.toArray⟩) ∧ Stp (fun x => blk v = some x) w w' := by
  have hl0 : l.length ≠ 0 := by simpa using h0
  obtain ⟨g, cap, cur, rfl, hbg, hg, hnc, hcm, hcs, htake⟩ : ∃ g cap cur, v = .slice (some ⟨g, 0, none⟩) l.length cap ∧ 0 ≤ g ∧ w.heap[g]? = some (.cells cur 5 (0, 0)) ∧ l.length ≤ cap ∧ cap ≤ maxLen ∧ cur.size = cap * 1 ∧ cur.toList.take (l.length * 1) = Lib.byteCells l := by
    rcases hown.2 with ⟨_, hz⟩ | ⟨g, cap, cur, hv, r⟩
    · exact absurd hz hl0
    · exact ⟨g, cap, cur, hv, r⟩
  have c1 : w.drew.cell? ⟨b, 1, none⟩ = some (.slice (some ⟨g, 0, none⟩) l.length cap) := by
    have : w.drew.heap[b]? = some (.cells #[p, .slice (some ⟨g, 0, none⟩) l.length cap] 47 (0, 0)) := hbk
    rw [Lib.cell_of_heap this]; rfl
  have L := Tryd.lays169
  have X := Tryd.Builder_Extra_169
  have hSD : (Builtin.unsafeSliceData_ #[45] 66 #[.slice (some ⟨g, 0, none⟩) l.length cap]).run Tryd.prog w.drew = .ok (.pointer (some ⟨g, 0, none⟩)) w.drew :=
    Lib.run_unsafeSliceData_row _ _ _ _ _ _ (by omega)
  have hUS : (Builtin.unsafeString_ #[66, 3] 9 #[.pointer (some ⟨g, 0, none⟩), .int .i64 l.length]).run Tryd.prog w.drew = .ok (.string ⟨l.toArray⟩) (w.drew.freeze ⟨g, 0, none⟩ l.length) := by
    refine Lib.run_unsafeString_row w.drew 66 3 9 5 L.t127 X.cellsByte g cur.size (by have hg' : w.drew.heap[g]? = some (.cells cur 5 (0, 0)) := hg; simp [World.shape?, hg']) l h0 (by omega) (by unfold maxLen at hcm; omega) ?_
    intro j x hx
    exact hown.cells (g := g) rfl j (.int .u8 x.toNat) (by simp [Lib.byteCells, hx])
  have mixed : Tryd.prog.follows .mixedOrders = true := by kernel_rfl
  go_enter Tryd.func21, Tryd.ntmps21
  go_wp2
  go_region_o
  all_goals (go_wp2; go_ret; exact ⟨rfl, (Stp.drew _ w).trans ((freeze_stp _ ⟨g, 0, none⟩ _).mono fun x hx _ => by subst hx; rfl)⟩)
theorem string_any (b : Nat) (p v : Value) (l : List UInt8) (w : World) (hbk : w.heap[b]? = some (.cells #[p, v] 47 (0, 0))) (hown : w.ownsRow 0 5 1 v l.length (Lib.byteCells l)) :
    Calls Tryd.prog 21 #[.pointer (some ⟨b, 0, none⟩)] w fun e w' => e = .returned (.string ⟨l.toArray⟩) ∧ Stp (fun x => blk v = some x) w w' := by
  have hbelow : ∀ w', Below w.heap.size w w' → Stp (fun x => blk v = some x) w w' := fun w' h => ⟨h.os, h.tape, h.output, h.size, fun b hb _ => h.block b hb⟩
  cases l with
  | cons x r => exact string_some b p v (x :: r) w hbk hown (by simp)
  | nil =>
    rcases hown.2 with ⟨rfl, _⟩ | ⟨g, cap, cur, rfl, _, hg, _, _, _, _⟩
    · exact (Any.Builder_String_nil Tryd.lays169 Tryd.Builder_Extra_169 w.heap.size b p w hbk).mono fun e w' h => ⟨h.1, hbelow w' h.2⟩
    · by_cases hc0 : cap = 0
      · subst hc0
        exact (Any.Builder_String_noroom Tryd.lays169 Tryd.Builder_Extra_169 w.heap.size b g p cur w (Nat.le_refl _) hbk hg).mono fun e w' h => ⟨h.1, hbelow w' h.2⟩
      · exact (Any.Builder_String_room Tryd.lays169 Tryd.Builder_Extra_169 w.heap.size b g cap p w hc0 hbk).mono fun e w' h => ⟨h.1, hbelow w' h.2⟩

def sg_strings_Builder__String : Sig := { na := 1, np := 2, hin := { items := [.slot 0, .box 0 2], shapes := [.lit (.box 0 0), .lit (.self 47), .row 5 1 1] }, nres := 1, kept := [], nnew := 0, hout := { items := [.slot 0], shapes := [.str] }, nob := 0 }
open Classical in
noncomputable def strOf' (l : List T) : Option ByteArray := ob (strOf l) fun s => if l = s.data.toList.map (fun b => T.v (.int .u8 b.toNat)) then some s else none
noncomputable def u_strings_Builder__String (t : Unit × Unit × List T × Unit) : Option (ByteArray × Unit) := ob (strOf' t.2.2.1) fun s => some (s, ())
theorem k_strings_Builder__String : (calleeOf sg_strings_Builder__String u_strings_Builder__String).OK Tryd.prog 21 := by
  refine objCallee fun t q hq w Xc F ρ0 ρ vals hG hR rs hrs => ?_
  unfold u_strings_Builder__String strOf' at hq
  obtain ⟨s, hs, hq⟩ := ob_some hq
  obtain ⟨s', hs', hs⟩ := ob_some hs
  split at hs
  case isFalse => cases hs
  rename_i hl
  cases hs
  cases hq
  have hrs' : (some [.c (.t (.v (.string s)))] : Option (List S1)) = some rs := hrs
  cases hrs'
  obtain ⟨g, p, v, xs, rfl, r0, r1, hb, hp, ho, hu, hx, hn⟩ := bld_in (l := t.2.2.1) hR
  have hxs : xs = Lib.byteCells s.data.toList := by
    have hfl : flat t.2.2.1 = t.2.2.1 := flat_one fun u hu => by
      rw [hl] at hu
      obtain ⟨b, _, rfl⟩ := List.mem_map.1 hu
      rfl
    rw [hfl, hl] at hx
    apply List.ext_getElem?
    intro i
    unfold Lib.byteCells
    rw [List.getElem?_map]
    have hlen := hx.1
    rw [List.length_map] at hlen
    cases hi : s.data.toList[i]? with
    | none =>
      have : s.data.toList.length ≤ i := List.getElem?_eq_none_iff.1 hi
      rw [List.getElem?_eq_none (by omega)]; rfl
    | some b =>
      have hlt : i < xs.length := by rw [hlen]; exact (List.getElem?_eq_some_iff.1 hi).1
      obtain ⟨h1, _⟩ := hx.2 i (.v (.int .u8 b.toNat)) xs[i] (by rw [List.getElem?_map, hi]; rfl) (List.getElem?_eq_getElem hlt)
      rw [List.getElem?_eq_getElem hlt, h1.inv_v]
      rfl
  have hlen : t.2.2.1.length = s.data.toList.length := by rw [hl, List.length_map]
  rw [hxs, hlen] at ho
  refine (string_any g p v s.data.toList w hb ho).mono ?_
  rintro e w' ⟨rfl, h2⟩
  have hmv : ∀ x, blk v = some x → mutB [.box [.self 47, .row 1], .row false 5 1 t.2.2.1] ρ x := fun x hx => ⟨1, _, v, rfl, rfl, r1, hx⟩
  have hd : ∀ (k : Nat) o, [O.dead, O.dead][k]? = some o → o = .dead := fun k o h => by
    match k, h with
    | 0, h => cases h; rfl
    | 1, h => cases h; rfl
    | k + 2, h => simp at h
  have hno : ∀ ρ' k b, Has [.dead, .dead] ρ' k b → False := fun ρ' k b ⟨o, v, h1, h2, _⟩ => by rw [hd k o h1] at h2; cases h2
  refine ⟨_, ρ, rfl, h2.mono fun x hx _ => hmv x hx, fun _ _ => rfl, fun k o h => by rw [hd k o h]; trivial, fun k k' b h => (hno _ k b h).elim, fun k b h => (hno _ k b h).elim, ?_⟩
  exact .inr ⟨.v _, rfl⟩
end Go.Eng

/- strings.Index, strings.ReplaceAll as callees. -/
namespace Go.Eng
open Go.RowKit Go.Proofs
theorem RdS.val {w : World} {X : Nat → Prop} {ρ : Rho} {v y : Value} (h : RdS w X ρ (.c (.t (.v v))) y) : y = v := by
  rcases h with h | ⟨h, _⟩
  · cases h
  · exact Rd.inv_v h
theorem vals_two {v1 v2 : Value} {vals : List Value} (hl : vals.length = 2) (h1 : ∀ y, vals[0]? = some y → y = v1) (h2 : ∀ y, vals[1]? = some y → y = v2) : vals = [v1, v2] := by
  match vals, hl with
  | [a, b], _ => rw [h1 a rfl, h2 b rfl]
theorem vals_three {v1 v2 v3 : Value} {vals : List Value} (hl : vals.length = 3) (h1 : ∀ y, vals[0]? = some y → y = v1) (h2 : ∀ y, vals[1]? = some y → y = v2) (h3 : ∀ y, vals[2]? = some y → y = v3) : vals = [v1, v2, v3] := by
  match vals, hl with
  | [a, b, c], _ => rw [h1 a rfl, h2 b rfl, h3 c rfl]
theorem global0 : IntGlobal Tryd.prog 0 .i64 := by
  refine ⟨3, #[.int .i64 0], of_decide_eq_true (by kernel_rfl), by kernel_rfl, by kernel_rfl, by kernel_rfl, by kernel_rfl, by kernel_rfl⟩
def sg_strings_Index : Sig := { na := 2, np := 0, hin := { items := [.slot 0, .slot 1], shapes := [.str, .str] }, nres := 1, kept := [], nnew := 0, hout := { items := [.slot 0], shapes := [.int .i64] }, nob := 0 }
noncomputable def u_strings_Index (t : ByteArray × ByteArray × Unit) : Option (Int × Unit) := if t.1.size < 4294967281 then some (Lib.index t.1.data.toList t.2.1.data.toList, ()) else none
theorem k_strings_Index : (calleeOf sg_strings_Index u_strings_Index).OK Tryd.prog 26 := by
  refine libCallee rfl rfl fun t q hq w X F ρ vals hG _ hl hv rs hrs => ?_
  unfold u_strings_Index at hq
  split at hq
  case isFalse => cases hq
  rename_i hs
  cases hq
  have hrs' : (some [.c (.t (.v (.int .i64 (Lib.index t.1.data.toList t.2.1.data.toList))))] : Option (List S1)) = some rs := hrs
  cases hrs'
  have hvals : vals = [.string t.1, .string t.2.1] := vals_two hl (fun y hy => RdS.val (hv 0 _ y rfl hy)) (fun y hy => RdS.val (hv 1 _ y rfl hy))
  subst hvals
  obtain ⟨_, m, hm⟩ := hG 0 .i64 global0
  refine (Tryd.strings_Index t.1 t.2.1 m w hs hm).mono ?_
  rintro e w' ⟨rfl, rfl⟩
  exact ⟨_, rfl, .refl _ _, .inr ⟨.v _, rfl⟩⟩
def sg_strings_ReplaceAll : Sig := { na := 3, np := 0, hin := { items := [.slot 0, .slot 1, .slot 2], shapes := [.str, .str, .str] }, nres := 1, kept := [], nnew := 0, hout := { items := [.slot 0], shapes := [.str] }, nob := 0 }
noncomputable def u_strings_ReplaceAll (t : ByteArray × ByteArray × ByteArray × Unit) : Option (ByteArray × Unit) :=
  if t.1.size < 4294967281 ∧ 1 ≤ t.2.1.size ∧ t.1.size + Lib.countB t.1 t.2.1 * t.2.2.1.size ≤ 140737488355328 then some (⟨(Lib.replaceAll t.1.data.toList t.2.1.data.toList t.2.2.1.data.toList).toArray⟩, ()) else none
theorem k_strings_ReplaceAll : (calleeOf sg_strings_ReplaceAll u_strings_ReplaceAll).OK Tryd.prog 33 := by
  refine libCallee rfl rfl fun t q hq w X F ρ vals hG hX hl hv rs hrs => ?_
  unfold u_strings_ReplaceAll at hq
  split at hq
  case isFalse => cases hq
  rename_i hs
  cases hq
  have hrs' : (some [.c (.t (.v (.string ⟨(Lib.replaceAll t.1.data.toList t.2.1.data.toList t.2.2.1.data.toList).toArray⟩)))] : Option (List S1)) = some rs := hrs
  cases hrs'
  have hvals : vals = [.string t.1, .string t.2.1, .string t.2.2.1] := vals_three hl (fun y hy => RdS.val (hv 0 _ y rfl hy)) (fun y hy => RdS.val (hv 1 _ y rfl hy)) (fun y hy => RdS.val (hv 2 _ y rfl hy))
  subst hvals
  obtain ⟨_, m, hm⟩ := hG 0 .i64 global0
  refine (Tryd.strings_ReplaceAll t.1 t.2.1 t.2.2.1 m w hs.1 hm hs.2.1 hs.2.2).mono ?_
  rintro e w' ⟨rfl, hb⟩
  exact ⟨_, rfl, ⟨hb.os, hb.tape, hb.output, hb.size, fun b hlt _ => hb.block b hlt⟩, .inr ⟨.v _, rfl⟩⟩
end Go.Eng

namespace Go.Eng
open Go.Proofs
theorem mixed : Tryd.prog.follows .mixedOrders = true := by kernel_rfl

/-! lexer_digit -/
def sg_lexer_digit : Sig := { na := 1, np := 0, hin := { items := [.slot 0], shapes := [.int Go.IntKind.u8] }, nres := 1, kept := [], nnew := 0, hout := { items := [.slot 0], shapes := [.bool] }, nob := 18 }
noncomputable def g_lexer_digit : List (Go.FuncId × Callee) := []
noncomputable def u_lexer_digit (t : (Int × Unit)) : Option (Bool × Unit) :=
  (bif (Go.Eng.leI (48 : Int) t.1) then (some ((Go.Eng.leI t.1 (57 : Int)), ())) else (some (Bool.false, ())))
def h_lexer_digit : HT := .leaf
theorem ok_lexer_digit : TabOK Tryd.prog [] g_lexer_digit := TabOK.nil
theorem e_lexer_digit : ∀ t, bodyG Tryd.prog g_lexer_digit [] h_lexer_digit Tryd.f42 sg_lexer_digit t = u_lexer_digit t := by
  intro t
  kernel_rfl
theorem k_lexer_digit : (calleeOf sg_lexer_digit u_lexer_digit).OK Tryd.prog 42 := calleeG_ok mixed ok_lexer_digit Tryd.func42 (by kernel_rfl) (by kernel_rfl) e_lexer_digit

/-! lexer_blank_1 -/
def sg_lexer_blank_1 : Sig := { na := 1, np := 0, hin := { items := [.slot 0], shapes := [.int Go.IntKind.u8] }, nres := 1, kept := [], nnew := 0, hout := { items := [.slot 0], shapes := [.bool] }, nob := 34 }
noncomputable def g_lexer_blank_1 : List (Go.FuncId × Callee) := []
noncomputable def u_lexer_blank_1 (t : (Int × Unit)) : Option (Bool × Unit) :=
  (bif (Go.Eng.eqI t.1 (9 : Int)) then (some (Bool.true, ())) else (bif (Go.Eng.eqI t.1 (10 : Int)) then (some (Bool.true, ())) else (bif (Go.Eng.eqI t.1 (13 : Int)) then (some (Bool.true, ())) else (some ((Go.Eng.eqI t.1 (32 : Int)), ())))))
def h_lexer_blank_1 : HT := .leaf
theorem ok_lexer_blank_1 : TabOK Tryd.prog [] g_lexer_blank_1 := TabOK.nil
theorem e_lexer_blank_1 : ∀ t, bodyG Tryd.prog g_lexer_blank_1 [] h_lexer_blank_1 Tryd.f37 sg_lexer_blank_1 t = u_lexer_blank_1 t := by
  intro t
  kernel_rfl
theorem k_lexer_blank_1 : (calleeOf sg_lexer_blank_1 u_lexer_blank_1).OK Tryd.prog 37 := calleeG_ok mixed ok_lexer_blank_1 Tryd.func37 (by kernel_rfl) (by kernel_rfl) e_lexer_blank_1

/-! lexer_upper -/
def sg_lexer_upper : Sig := { na := 1, np := 0, hin := { items := [.slot 0], shapes := [.int Go.IntKind.u8] }, nres := 1, kept := [], nnew := 0, hout := { items := [.slot 0], shapes := [.bool] }, nob := 18 }
noncomputable def g_lexer_upper : List (Go.FuncId × Callee) := []
noncomputable def u_lexer_upper (t : (Int × Unit)) : Option (Bool × Unit) :=
  (bif (Go.Eng.leI (65 : Int) t.1) then (some ((Go.Eng.leI t.1 (90 : Int)), ())) else (some (Bool.false, ())))
def h_lexer_upper : HT := .leaf
theorem ok_lexer_upper : TabOK Tryd.prog [] g_lexer_upper := TabOK.nil
theorem e_lexer_upper : ∀ t, bodyG Tryd.prog g_lexer_upper [] h_lexer_upper Tryd.f40 sg_lexer_upper t = u_lexer_upper t := by
  intro t
  kernel_rfl
theorem k_lexer_upper : (calleeOf sg_lexer_upper u_lexer_upper).OK Tryd.prog 40 := calleeG_ok mixed ok_lexer_upper Tryd.func40 (by kernel_rfl) (by kernel_rfl) e_lexer_upper

/-! lexer_word -/
def sg_lexer_word : Sig := { na := 1, np := 0, hin := { items := [.slot 0], shapes := [.int Go.IntKind.u8] }, nres := 1, kept := [], nnew := 0, hout := { items := [.slot 0], shapes := [.bool] }, nob := 34 }
noncomputable def g_lexer_word : List (Go.FuncId × Callee) := [(40, (calleeOf sg_lexer_upper u_lexer_upper)), (42, (calleeOf sg_lexer_digit u_lexer_digit))]
noncomputable def u_lexer_word (t : (Int × Unit)) : Option (Bool × Unit) :=
  (ob (Go.Eng.u_lexer_upper (t.1, ())) fun x0 => (bif x0.1 then (some (Bool.true, ())) else (ob (Go.Eng.u_lexer_digit (t.1, ())) fun x1 => (bif x1.1 then (some (Bool.true, ())) else (bif (Go.Eng.eqI t.1 (95 : Int)) then (some (Bool.true, ())) else (some ((Go.Eng.eqI t.1 (45 : Int)), ())))))))
def h_lexer_word : HT := .leaf
theorem ok_lexer_word : TabOK Tryd.prog [40, 42] g_lexer_word := (TabOK.cons ⟨_, Tryd.func40, by kernel_rfl, by kernel_rfl⟩ k_lexer_upper (calleeOf_nat _ _) (fun _ => (calleeOf_pure (by kernel_rfl))) (TabOK.cons ⟨_, Tryd.func42, by kernel_rfl, by kernel_rfl⟩ k_lexer_digit (calleeOf_nat _ _) (fun _ => (calleeOf_pure (by kernel_rfl))) TabOK.nil))
theorem e_lexer_word : ∀ t, bodyG Tryd.prog g_lexer_word [40, 42] h_lexer_word Tryd.f41 sg_lexer_word t = u_lexer_word t := by
  intro t
  kernel_rfl
theorem k_lexer_word : (calleeOf sg_lexer_word u_lexer_word).OK Tryd.prog 41 := calleeG_ok mixed ok_lexer_word Tryd.func41 (by kernel_rfl) (by kernel_rfl) e_lexer_word

/-! lexer_inner -/
def sg_lexer_inner : Sig := { na := 1, np := 0, hin := { items := [.slot 0], shapes := [.int Go.IntKind.u8] }, nres := 1, kept := [], nnew := 0, hout := { items := [.slot 0], shapes := [.bool] }, nob := 26 }
noncomputable def g_lexer_inner : List (Go.FuncId × Callee) := [(40, (calleeOf sg_lexer_upper u_lexer_upper)), (42, (calleeOf sg_lexer_digit u_lexer_digit))]
noncomputable def u_lexer_inner (t : (Int × Unit)) : Option (Bool × Unit) :=
  (ob (Go.Eng.u_lexer_upper (t.1, ())) fun x0 => (bif x0.1 then (some (Bool.true, ())) else (ob (Go.Eng.u_lexer_digit (t.1, ())) fun x1 => (bif x1.1 then (some (Bool.true, ())) else (some ((Go.Eng.eqI t.1 (95 : Int)), ()))))))
def h_lexer_inner : HT := .leaf
theorem ok_lexer_inner : TabOK Tryd.prog [40, 42] g_lexer_inner := (TabOK.cons ⟨_, Tryd.func40, by kernel_rfl, by kernel_rfl⟩ k_lexer_upper (calleeOf_nat _ _) (fun _ => (calleeOf_pure (by kernel_rfl))) (TabOK.cons ⟨_, Tryd.func42, by kernel_rfl, by kernel_rfl⟩ k_lexer_digit (calleeOf_nat _ _) (fun _ => (calleeOf_pure (by kernel_rfl))) TabOK.nil))
theorem e_lexer_inner : ∀ t, bodyG Tryd.prog g_lexer_inner [40, 42] h_lexer_inner Tryd.f45 sg_lexer_inner t = u_lexer_inner t := by
  intro t
  kernel_rfl
theorem k_lexer_inner : (calleeOf sg_lexer_inner u_lexer_inner).OK Tryd.prog 45 := calleeG_ok mixed ok_lexer_inner Tryd.func45 (by kernel_rfl) (by kernel_rfl) e_lexer_inner

/-! lexer_run_blank -/
def sg_lexer_run_blank : Sig := { na := 3, np := 0, hin := { items := [.slot 0, .slot 1, .slot 2], shapes := [.str, .int Go.IntKind.i64, .lit (.t (.v (.func (.func 37) #[] #[])))] }, nres := 1, kept := [], nnew := 0, hout := { items := [.slot 0], shapes := [.int Go.IntKind.i64] }, nob := 42 }
noncomputable def g_lexer_run_blank : List (Go.FuncId × Callee) := [(37, (calleeOf sg_lexer_blank_1 u_lexer_blank_1))]
noncomputable def u_lexer_run_blank_l0 (s0 : (ByteArray × Int × Unit × Unit)) : Option ((ByteArray × Int × Unit × Unit) ⊕ ((Int × Unit) ⊕ Empty)) :=
  (bif (Go.Eng.ltI s0.2.1 (Go.Eng.lenS s0.1)) then (ob (Go.Eng.idxS s0.1 s0.2.1) fun x1 => (ob (Go.Eng.u_lexer_blank_1 (x1, ())) fun x2 => (bif x2.1 then (some (Sum.inl (s0.1, ((Go.Eng.wr Go.IntKind.i64 (Go.Eng.addI s0.2.1 (1 : Int))), ((), ()))))) else (some (Sum.inr (Sum.inl (s0.2.1, ()))))))) else (some (Sum.inr (Sum.inl (s0.2.1, ())))))
noncomputable def u_lexer_run_blank (t : (ByteArray × (Int × (Unit × Unit)))) : Option (Int × Unit) :=
  (ob (loopU u_lexer_run_blank_l0 (t.1, (t.2.1, ((), ())))) fun q3 => onS q3 (fun t4 => (some (t4.1, ()))) fun q5 => noS q5)
def h_lexer_run_blank : HT := (.seq .leaf (.seq (.one (.loop { items := [.slot 0, .slot 1, .slot 2], shapes := [.str, .int Go.IntKind.i64, .lit (Go.Eng.C.t (Go.Eng.T.v (Go.Value.func (Go.Fn.func 37) #[] #[])))] } [((AEx.exit 0), { items := [.slot 1], shapes := [.int Go.IntKind.i64] })] .leaf)) .leaf))
theorem ok_lexer_run_blank : TabOK Tryd.prog [37] g_lexer_run_blank := (TabOK.cons ⟨_, Tryd.func37, by kernel_rfl, by kernel_rfl⟩ k_lexer_blank_1 (calleeOf_nat _ _) (fun _ => (calleeOf_pure (by kernel_rfl))) TabOK.nil)
theorem e_lexer_run_blank : ∀ t, bodyG Tryd.prog g_lexer_run_blank [37] h_lexer_run_blank Tryd.f36 sg_lexer_run_blank t = u_lexer_run_blank t := by
  intro t
  kernel_rfl
theorem k_lexer_run_blank : (calleeOf sg_lexer_run_blank u_lexer_run_blank).OK Tryd.prog 36 := calleeG_ok mixed ok_lexer_run_blank Tryd.func36 (by kernel_rfl) (by kernel_rfl) e_lexer_run_blank

/-! lexer_run_digit -/
def sg_lexer_run_digit : Sig := { na := 3, np := 0, hin := { items := [.slot 0, .slot 1, .slot 2], shapes := [.str, .int Go.IntKind.i64, .lit (.t (.v (.func (.func 42) #[] #[])))] }, nres := 1, kept := [], nnew := 0, hout := { items := [.slot 0], shapes := [.int Go.IntKind.i64] }, nob := 42 }
noncomputable def g_lexer_run_digit : List (Go.FuncId × Callee) := [(42, (calleeOf sg_lexer_digit u_lexer_digit))]
noncomputable def u_lexer_run_digit_l0 (s0 : (ByteArray × Int × Unit × Unit)) : Option ((ByteArray × Int × Unit × Unit) ⊕ ((Int × Unit) ⊕ Empty)) :=
  (bif (Go.Eng.ltI s0.2.1 (Go.Eng.lenS s0.1)) then (ob (Go.Eng.idxS s0.1 s0.2.1) fun x1 => (ob (Go.Eng.u_lexer_digit (x1, ())) fun x2 => (bif x2.1 then (some (Sum.inl (s0.1, ((Go.Eng.wr Go.IntKind.i64 (Go.Eng.addI s0.2.1 (1 : Int))), ((), ()))))) else (some (Sum.inr (Sum.inl (s0.2.1, ()))))))) else (some (Sum.inr (Sum.inl (s0.2.1, ())))))
noncomputable def u_lexer_run_digit (t : (ByteArray × (Int × (Unit × Unit)))) : Option (Int × Unit) :=
  (ob (loopU u_lexer_run_digit_l0 (t.1, (t.2.1, ((), ())))) fun q3 => onS q3 (fun t4 => (some (t4.1, ()))) fun q5 => noS q5)
def h_lexer_run_digit : HT := (.seq .leaf (.seq (.one (.loop { items := [.slot 0, .slot 1, .slot 2], shapes := [.str, .int Go.IntKind.i64, .lit (Go.Eng.C.t (Go.Eng.T.v (Go.Value.func (Go.Fn.func 42) #[] #[])))] } [((AEx.exit 0), { items := [.slot 1], shapes := [.int Go.IntKind.i64] })] .leaf)) .leaf))
theorem ok_lexer_run_digit : TabOK Tryd.prog [42] g_lexer_run_digit := (TabOK.cons ⟨_, Tryd.func42, by kernel_rfl, by kernel_rfl⟩ k_lexer_digit (calleeOf_nat _ _) (fun _ => (calleeOf_pure (by kernel_rfl))) TabOK.nil)
theorem e_lexer_run_digit : ∀ t, bodyG Tryd.prog g_lexer_run_digit [42] h_lexer_run_digit Tryd.f36 sg_lexer_run_digit t = u_lexer_run_digit t := by
  intro t
  kernel_rfl
theorem k_lexer_run_digit : (calleeOf sg_lexer_run_digit u_lexer_run_digit).OK Tryd.prog 36 := calleeG_ok mixed ok_lexer_run_digit Tryd.func36 (by kernel_rfl) (by kernel_rfl) e_lexer_run_digit

/-! lexer_run_word -/
def sg_lexer_run_word : Sig := { na := 3, np := 0, hin := { items := [.slot 0, .slot 1, .slot 2], shapes := [.str, .int Go.IntKind.i64, .lit (.t (.v (.func (.func 41) #[] #[])))] }, nres := 1, kept := [], nnew := 0, hout := { items := [.slot 0], shapes := [.int Go.IntKind.i64] }, nob := 42 }
noncomputable def g_lexer_run_word : List (Go.FuncId × Callee) := [(41, (calleeOf sg_lexer_word u_lexer_word))]
noncomputable def u_lexer_run_word_l0 (s0 : (ByteArray × Int × Unit × Unit)) : Option ((ByteArray × Int × Unit × Unit) ⊕ ((Int × Unit) ⊕ Empty)) :=
  (bif (Go.Eng.ltI s0.2.1 (Go.Eng.lenS s0.1)) then (ob (Go.Eng.idxS s0.1 s0.2.1) fun x1 => (ob (Go.Eng.u_lexer_word (x1, ())) fun x2 => (bif x2.1 then (some (Sum.inl (s0.1, ((Go.Eng.wr Go.IntKind.i64 (Go.Eng.addI s0.2.1 (1 : Int))), ((), ()))))) else (some (Sum.inr (Sum.inl (s0.2.1, ()))))))) else (some (Sum.inr (Sum.inl (s0.2.1, ())))))
noncomputable def u_lexer_run_word (t : (ByteArray × (Int × (Unit × Unit)))) : Option (Int × Unit) :=
  (ob (loopU u_lexer_run_word_l0 (t.1, (t.2.1, ((), ())))) fun q3 => onS q3 (fun t4 => (some (t4.1, ()))) fun q5 => noS q5)
def h_lexer_run_word : HT := (.seq .leaf (.seq (.one (.loop { items := [.slot 0, .slot 1, .slot 2], shapes := [.str, .int Go.IntKind.i64, .lit (Go.Eng.C.t (Go.Eng.T.v (Go.Value.func (Go.Fn.func 41) #[] #[])))] } [((AEx.exit 0), { items := [.slot 1], shapes := [.int Go.IntKind.i64] })] .leaf)) .leaf))
theorem ok_lexer_run_word : TabOK Tryd.prog [41] g_lexer_run_word := (TabOK.cons ⟨_, Tryd.func41, by kernel_rfl, by kernel_rfl⟩ k_lexer_word (calleeOf_nat _ _) (fun _ => (calleeOf_pure (by kernel_rfl))) TabOK.nil)
theorem e_lexer_run_word : ∀ t, bodyG Tryd.prog g_lexer_run_word [41] h_lexer_run_word Tryd.f36 sg_lexer_run_word t = u_lexer_run_word t := by
  intro t
  kernel_rfl
theorem k_lexer_run_word : (calleeOf sg_lexer_run_word u_lexer_run_word).OK Tryd.prog 36 := calleeG_ok mixed ok_lexer_run_word Tryd.func36 (by kernel_rfl) (by kernel_rfl) e_lexer_run_word

/-! lexer_run_inner -/
def sg_lexer_run_inner : Sig := { na := 3, np := 0, hin := { items := [.slot 0, .slot 1, .slot 2], shapes := [.str, .int Go.IntKind.i64, .lit (.t (.v (.func (.func 45) #[] #[])))] }, nres := 1, kept := [], nnew := 0, hout := { items := [.slot 0], shapes := [.int Go.IntKind.i64] }, nob := 42 }
noncomputable def g_lexer_run_inner : List (Go.FuncId × Callee) := [(45, (calleeOf sg_lexer_inner u_lexer_inner))]
noncomputable def u_lexer_run_inner_l0 (s0 : (ByteArray × Int × Unit × Unit)) : Option ((ByteArray × Int × Unit × Unit) ⊕ ((Int × Unit) ⊕ Empty)) :=
  (bif (Go.Eng.ltI s0.2.1 (Go.Eng.lenS s0.1)) then (ob (Go.Eng.idxS s0.1 s0.2.1) fun x1 => (ob (Go.Eng.u_lexer_inner (x1, ())) fun x2 => (bif x2.1 then (some (Sum.inl (s0.1, ((Go.Eng.wr Go.IntKind.i64 (Go.Eng.addI s0.2.1 (1 : Int))), ((), ()))))) else (some (Sum.inr (Sum.inl (s0.2.1, ()))))))) else (some (Sum.inr (Sum.inl (s0.2.1, ())))))
noncomputable def u_lexer_run_inner (t : (ByteArray × (Int × (Unit × Unit)))) : Option (Int × Unit) :=
  (ob (loopU u_lexer_run_inner_l0 (t.1, (t.2.1, ((), ())))) fun q3 => onS q3 (fun t4 => (some (t4.1, ()))) fun q5 => noS q5)
def h_lexer_run_inner : HT := (.seq .leaf (.seq (.one (.loop { items := [.slot 0, .slot 1, .slot 2], shapes := [.str, .int Go.IntKind.i64, .lit (Go.Eng.C.t (Go.Eng.T.v (Go.Value.func (Go.Fn.func 45) #[] #[])))] } [((AEx.exit 0), { items := [.slot 1], shapes := [.int Go.IntKind.i64] })] .leaf)) .leaf))
theorem ok_lexer_run_inner : TabOK Tryd.prog [45] g_lexer_run_inner := (TabOK.cons ⟨_, Tryd.func45, by kernel_rfl, by kernel_rfl⟩ k_lexer_inner (calleeOf_nat _ _) (fun _ => (calleeOf_pure (by kernel_rfl))) TabOK.nil)
theorem e_lexer_run_inner : ∀ t, bodyG Tryd.prog g_lexer_run_inner [45] h_lexer_run_inner Tryd.f36 sg_lexer_run_inner t = u_lexer_run_inner t := by
  intro t
  kernel_rfl
theorem k_lexer_run_inner : (calleeOf sg_lexer_run_inner u_lexer_run_inner).OK Tryd.prog 36 := calleeG_ok mixed ok_lexer_run_inner Tryd.func36 (by kernel_rfl) (by kernel_rfl) e_lexer_run_inner

/-! lexer_at -/
def sg_lexer_at : Sig := { na := 2, np := 0, hin := { items := [.slot 0, .slot 1], shapes := [.str, .int Go.IntKind.i64] }, nres := 1, kept := [], nnew := 0, hout := { items := [.slot 0], shapes := [.int Go.IntKind.u8] }, nob := 24 }
noncomputable def g_lexer_at : List (Go.FuncId × Callee) := []
noncomputable def u_lexer_at (t : (ByteArray × (Int × Unit))) : Option (Int × Unit) :=
  (bif (Go.Eng.ltI t.2.1 (Go.Eng.lenS t.1)) then (ob (Go.Eng.idxS t.1 t.2.1) fun x0 => (some (x0, ()))) else (some ((0 : Int), ())))
def h_lexer_at : HT := .leaf
theorem ok_lexer_at : TabOK Tryd.prog [] g_lexer_at := TabOK.nil
theorem e_lexer_at : ∀ t, bodyG Tryd.prog g_lexer_at [] h_lexer_at Tryd.f46 sg_lexer_at t = u_lexer_at t := by
  intro t
  kernel_rfl
theorem k_lexer_at : (calleeOf sg_lexer_at u_lexer_at).OK Tryd.prog 46 := calleeG_ok mixed ok_lexer_at Tryd.func46 (by kernel_rfl) (by kernel_rfl) e_lexer_at

/-! lexer_single -/
def sg_lexer_single : Sig := { na := 1, np := 0, hin := { items := [.slot 0], shapes := [.int Go.IntKind.u8] }, nres := 1, kept := [], nnew := 0, hout := { items := [.slot 0], shapes := [.int Go.IntKind.i64] }, nob := 36 }
noncomputable def g_lexer_single : List (Go.FuncId × Callee) := []
noncomputable def u_lexer_single (t : (Int × Unit)) : Option (Int × Unit) :=
  (bif (Go.Eng.eqI t.1 (40 : Int)) then (some ((6 : Int), ())) else (bif (Go.Eng.eqI t.1 (41 : Int)) then (some ((7 : Int), ())) else (bif (Go.Eng.eqI t.1 (44 : Int)) then (some ((8 : Int), ())) else (bif (Go.Eng.eqI t.1 (59 : Int)) then (some ((9 : Int), ())) else (bif (Go.Eng.eqI t.1 (61 : Int)) then (some ((10 : Int), ())) else (bif (Go.Eng.eqI t.1 (36 : Int)) then (some ((11 : Int), ())) else (bif (Go.Eng.eqI t.1 (42 : Int)) then (some ((12 : Int), ())) else (some ((0 : Int), ())))))))))
def h_lexer_single : HT := .leaf
theorem ok_lexer_single : TabOK Tryd.prog [] g_lexer_single := TabOK.nil
theorem e_lexer_single : ∀ t, bodyG Tryd.prog g_lexer_single [] h_lexer_single Tryd.f34 sg_lexer_single t = u_lexer_single t := by
  intro t
  kernel_rfl
theorem k_lexer_single : (calleeOf sg_lexer_single u_lexer_single).OK Tryd.prog 34 := calleeG_ok mixed ok_lexer_single Tryd.func34 (by kernel_rfl) (by kernel_rfl) e_lexer_single

/-! lexer_sign -/
def sg_lexer_sign : Sig := { na := 2, np := 0, hin := { items := [.slot 0, .slot 1], shapes := [.str, .int Go.IntKind.i64] }, nres := 1, kept := [], nnew := 0, hout := { items := [.slot 0], shapes := [.int Go.IntKind.i64] }, nob := 36 }
noncomputable def g_lexer_sign : List (Go.FuncId × Callee) := [(46, (calleeOf sg_lexer_at u_lexer_at))]
noncomputable def u_lexer_sign (t : (ByteArray × (Int × Unit))) : Option (Int × Unit) :=
  (ob (Go.Eng.u_lexer_at (t.1, (t.2.1, ()))) fun x0 => (bif (Go.Eng.eqI x0.1 (43 : Int)) then (some ((Go.Eng.wr Go.IntKind.i64 (Go.Eng.addI t.2.1 (1 : Int))), ())) else (bif (Go.Eng.eqI x0.1 (45 : Int)) then (some ((Go.Eng.wr Go.IntKind.i64 (Go.Eng.addI t.2.1 (1 : Int))), ())) else (some (t.2.1, ())))))
def h_lexer_sign : HT := .leaf
theorem ok_lexer_sign : TabOK Tryd.prog [46] g_lexer_sign := (TabOK.cons ⟨_, Tryd.func46, by kernel_rfl, by kernel_rfl⟩ k_lexer_at (calleeOf_nat _ _) (fun _ => (calleeOf_pure (by kernel_rfl))) TabOK.nil)
theorem e_lexer_sign : ∀ t, bodyG Tryd.prog g_lexer_sign [46] h_lexer_sign Tryd.f57 sg_lexer_sign t = u_lexer_sign t := by
  intro t
  kernel_rfl
theorem k_lexer_sign : (calleeOf sg_lexer_sign u_lexer_sign).OK Tryd.prog 57 := calleeG_ok mixed ok_lexer_sign Tryd.func57 (by kernel_rfl) (by kernel_rfl) e_lexer_sign

/-! lexer_number -/
def sg_lexer_number : Sig := { na := 2, np := 0, hin := { items := [.slot 0, .slot 1], shapes := [.str, .int Go.IntKind.i64] }, nres := 1, kept := [], nnew := 0, hout := { items := [.slot 0], shapes := [.int Go.IntKind.i64] }, nob := 88 }
noncomputable def g_lexer_number : List (Go.FuncId × Callee) := [(57, (calleeOf sg_lexer_sign u_lexer_sign)), (36, (orC (isLit 2 37) (calleeOf sg_lexer_run_blank u_lexer_run_blank) (orC (isLit 2 42) (calleeOf sg_lexer_run_digit u_lexer_run_digit) (orC (isLit 2 41) (calleeOf sg_lexer_run_word u_lexer_run_word) (calleeOf sg_lexer_run_inner u_lexer_run_inner))))), (42, (calleeOf sg_lexer_digit u_lexer_digit)), (46, (calleeOf sg_lexer_at u_lexer_at))]
noncomputable def u_lexer_number (t : (ByteArray × (Int × Unit))) : Option (Int × Unit) :=
  (ob (Go.Eng.u_lexer_sign (t.1, (t.2.1, ()))) fun x0 => (ob (Go.Eng.u_lexer_run_digit (t.1, (x0.1, ((), ())))) fun x1 => (bif (Go.Eng.eqI x1.1 x0.1) then (some (t.2.1, ())) else (ob (Go.Eng.u_lexer_at (t.1, (x1.1, ()))) fun x2 => (bif (Bool.not (Go.Eng.eqI x2.1 (46 : Int))) then (some (x1.1, ())) else (ob (Go.Eng.u_lexer_run_digit (t.1, ((Go.Eng.wr Go.IntKind.i64 (Go.Eng.addI x1.1 (1 : Int))), ((), ())))) fun x3 => (ob (Go.Eng.u_lexer_at (t.1, (x3.1, ()))) fun x4 => (bif (Bool.not (Go.Eng.eqI x4.1 (69 : Int))) then (some (x3.1, ())) else (ob (Go.Eng.u_lexer_sign (t.1, ((Go.Eng.wr Go.IntKind.i64 (Go.Eng.addI x3.1 (1 : Int))), ()))) fun x5 => (ob (Go.Eng.u_lexer_run_digit (t.1, (x5.1, ((), ())))) fun x6 => (bif (Go.Eng.ltI x5.1 x6.1) then (some (x6.1, ())) else (some (x3.1, ())))))))))))))
def h_lexer_number : HT := .leaf
theorem ok_lexer_number : TabOK Tryd.prog [57, 36, 42, 46] g_lexer_number := (TabOK.cons ⟨_, Tryd.func57, by kernel_rfl, by kernel_rfl⟩ k_lexer_sign (calleeOf_nat _ _) (fun _ => (calleeOf_pure (by kernel_rfl))) (TabOK.cons ⟨_, Tryd.func36, by kernel_rfl, by kernel_rfl⟩ (orC_ok k_lexer_run_blank (orC_ok k_lexer_run_digit (orC_ok k_lexer_run_word k_lexer_run_inner))) (orC_nat (calleeOf_nat _ _) (orC_nat (calleeOf_nat _ _) (orC_nat (calleeOf_nat _ _) (calleeOf_nat _ _)))) (fun _ => (orC_pure (calleeOf_pure (by kernel_rfl)) (orC_pure (calleeOf_pure (by kernel_rfl)) (orC_pure (calleeOf_pure (by kernel_rfl)) (calleeOf_pure (by kernel_rfl)))))) (TabOK.cons ⟨_, Tryd.func42, by kernel_rfl, by kernel_rfl⟩ k_lexer_digit (calleeOf_nat _ _) (fun _ => (calleeOf_pure (by kernel_rfl))) (TabOK.cons ⟨_, Tryd.func46, by kernel_rfl, by kernel_rfl⟩ k_lexer_at (calleeOf_nat _ _) (fun _ => (calleeOf_pure (by kernel_rfl))) TabOK.nil))))
theorem e_lexer_number : ∀ t, bodyG Tryd.prog g_lexer_number [57, 36, 42, 46] h_lexer_number Tryd.f43 sg_lexer_number t = u_lexer_number t := by
  intro t
  kernel_rfl
theorem k_lexer_number : (calleeOf sg_lexer_number u_lexer_number).OK Tryd.prog 43 := calleeG_ok mixed ok_lexer_number Tryd.func43 (by kernel_rfl) (by kernel_rfl) e_lexer_number

/-! lexer_quoted -/
def sg_lexer_quoted : Sig := { na := 2, np := 0, hin := { items := [.slot 0, .slot 1], shapes := [.str, .int Go.IntKind.i64] }, nres := 2, kept := [], nnew := 0, hout := { items := [.slot 0, .slot 1], shapes := [.int Go.IntKind.i64, .str] }, nob := 104 }
noncomputable def g_lexer_quoted : List (Go.FuncId × Callee) := [(46, (calleeOf sg_lexer_at u_lexer_at))]
noncomputable def u_lexer_quoted_l0 (s0 : (ByteArray × Int × List T × Int × Unit)) : Option ((ByteArray × Int × List T × Int × Unit) ⊕ ((Int × ByteArray × Unit) ⊕ ((Int × Unit) ⊕ Empty))) :=
  (bif (Go.Eng.ltI s0.2.2.2.1 (Go.Eng.lenS s0.1)) then (ob (Go.Eng.idxS s0.1 s0.2.2.2.1) fun x1 => (ob (α := ((Int × ByteArray × Unit) ⊕ ((ByteArray × Int × List T × Int × Int × Unit) ⊕ Empty))) (bif (Go.Eng.ltI x1 (32 : Int)) then (some (Sum.inl (s0.2.1, ((ByteArray.mk #[]), ())))) else (bif (Go.Eng.ltI (126 : Int) x1) then (some (Sum.inl (s0.2.1, ((ByteArray.mk #[]), ())))) else (bif (Go.Eng.eqI x1 (39 : Int)) then (ob (Go.Eng.u_lexer_at (s0.1, ((Go.Eng.wr Go.IntKind.i64 (Go.Eng.addI s0.2.2.2.1 (1 : Int))), ()))) fun x2 => (bif (Bool.not (Go.Eng.eqI x2.1 (39 : Int))) then (ob (Go.Eng.strOf s0.2.2.1) fun x3 => (some (Sum.inl ((Go.Eng.wr Go.IntKind.i64 (Go.Eng.addI s0.2.2.2.1 (1 : Int))), (x3, ()))))) else (bif (Go.Eng.eqI x1 (39 : Int)) then (some (Sum.inr (Sum.inl (s0.1, (s0.2.1, (s0.2.2.1, ((Go.Eng.wr Go.IntKind.i64 (Go.Eng.addI s0.2.2.2.1 (1 : Int))), (x1, ())))))))) else (some (Sum.inr (Sum.inl (s0.1, (s0.2.1, (s0.2.2.1, (s0.2.2.2.1, (x1, ()))))))))))) else (bif (Go.Eng.eqI x1 (39 : Int)) then (some (Sum.inr (Sum.inl (s0.1, (s0.2.1, (s0.2.2.1, ((Go.Eng.wr Go.IntKind.i64 (Go.Eng.addI s0.2.2.2.1 (1 : Int))), (x1, ())))))))) else (some (Sum.inr (Sum.inl (s0.1, (s0.2.1, (s0.2.2.1, (s0.2.2.2.1, (x1, ())))))))))))) fun q4 => onS q4 (fun t5 => (some (Sum.inr (Sum.inl (t5.1, (t5.2.1, ())))))) fun q6 => onS q6 (fun t7 => (ob (Go.Eng.room t7.2.2.1 [(Go.Eng.T.v (Go.Value.int Go.IntKind.u8 t7.2.2.2.2.1))] 1) fun x8 => (some (Sum.inl (t7.1, (t7.2.1, (x8, ((Go.Eng.wr Go.IntKind.i64 (Go.Eng.addI t7.2.2.2.1 (1 : Int))), ())))))))) fun q9 => noS q9)) else (some (Sum.inr (Sum.inr (Sum.inl (s0.2.1, ()))))))
noncomputable def u_lexer_quoted (t : (ByteArray × (Int × Unit))) : Option (Int × (ByteArray × Unit)) :=
  (ob (loopU u_lexer_quoted_l0 (t.1, (t.2.1, ([], ((Go.Eng.wr Go.IntKind.i64 (Go.Eng.addI t.2.1 (1 : Int))), ()))))) fun q10 => onS q10 (fun t11 => (some (t11.1, (t11.2.1, ())))) fun q12 => onS q12 (fun t13 => (some (t13.1, ((ByteArray.mk #[]), ())))) fun q14 => noS q14)
def h_lexer_quoted : HT := (.seq .leaf (.seq .leaf (.seq (.seq .leaf (.one (.loop { items := [.slot 0, .slot 1, .slot 6, .slot 7], shapes := [.str, .int Go.IntKind.i64, .row 5 1 50, .int Go.IntKind.i64] } [(AEx.ret, { items := [.slot 4, .slot 5], shapes := [.int Go.IntKind.i64, .str] }), ((AEx.exit 0), { items := [.slot 1], shapes := [.int Go.IntKind.i64] })] (.seq .leaf (.seq (.one (.seq .leaf (.seq (.join [(AEx.ret, { items := [.slot 4, .slot 5], shapes := [.int Go.IntKind.i64, .str] }), (AEx.normal, { items := [.slot 0, .slot 1, .slot 6, .slot 7, .slot 8], shapes := [.str, .int Go.IntKind.i64, .row 5 1 50, .int Go.IntKind.i64, .int Go.IntKind.u8] })] .leaf) .leaf))) .leaf))))) .leaf)))
theorem ok_lexer_quoted : TabOK Tryd.prog [46] g_lexer_quoted := (TabOK.cons ⟨_, Tryd.func46, by kernel_rfl, by kernel_rfl⟩ k_lexer_at (calleeOf_nat _ _) (fun _ => (calleeOf_pure (by kernel_rfl))) TabOK.nil)
theorem e_lexer_quoted : ∀ t, bodyG Tryd.prog g_lexer_quoted [46] h_lexer_quoted Tryd.f44 sg_lexer_quoted t = u_lexer_quoted t := by
  intro t
  kernel_rfl
theorem k_lexer_quoted : (calleeOf sg_lexer_quoted u_lexer_quoted).OK Tryd.prog 44 := calleeG_ok mixed ok_lexer_quoted Tryd.func44 (by kernel_rfl) (by kernel_rfl) e_lexer_quoted

/-! internal_stringslite_HasPrefix -/
def sg_internal_stringslite_HasPrefix : Sig := { na := 2, np := 0, hin := { items := [.slot 0, .slot 1], shapes := [.str, .str] }, nres := 1, kept := [], nnew := 0, hout := { items := [.slot 0], shapes := [.bool] }, nob := 36 }
noncomputable def g_internal_stringslite_HasPrefix : List (Go.FuncId × Callee) := []
noncomputable def u_internal_stringslite_HasPrefix (t : (ByteArray × (ByteArray × Unit))) : Option (Bool × Unit) :=
  (bif (Go.Eng.leI (Go.Eng.lenS t.2.1) (Go.Eng.lenS t.1)) then (ob (Go.Eng.subS t.1 (0 : Int) (Go.Eng.lenS t.2.1)) fun x0 => (some ((Go.Eng.eqS x0 t.2.1), ()))) else (some (Bool.false, ())))
def h_internal_stringslite_HasPrefix : HT := .leaf
theorem ok_internal_stringslite_HasPrefix : TabOK Tryd.prog [] g_internal_stringslite_HasPrefix := TabOK.nil
theorem e_internal_stringslite_HasPrefix : ∀ t, bodyG Tryd.prog g_internal_stringslite_HasPrefix [] h_internal_stringslite_HasPrefix Tryd.f52 sg_internal_stringslite_HasPrefix t = u_internal_stringslite_HasPrefix t := by
  intro t
  kernel_rfl
theorem k_internal_stringslite_HasPrefix : (calleeOf sg_internal_stringslite_HasPrefix u_internal_stringslite_HasPrefix).OK Tryd.prog 52 := calleeG_ok mixed ok_internal_stringslite_HasPrefix Tryd.func52 (by kernel_rfl) (by kernel_rfl) e_internal_stringslite_HasPrefix

/-! strings_HasPrefix -/
def sg_strings_HasPrefix : Sig := { na := 2, np := 0, hin := { items := [.slot 0, .slot 1], shapes := [.str, .str] }, nres := 1, kept := [], nnew := 0, hout := { items := [.slot 0], shapes := [.bool] }, nob := 16 }
noncomputable def g_strings_HasPrefix : List (Go.FuncId × Callee) := [(52, (calleeOf sg_internal_stringslite_HasPrefix u_internal_stringslite_HasPrefix))]
noncomputable def u_strings_HasPrefix (t : (ByteArray × (ByteArray × Unit))) : Option (Bool × Unit) :=
  (ob (Go.Eng.u_internal_stringslite_HasPrefix (t.1, (t.2.1, ()))) fun x0 => (some (x0.1, ())))
def h_strings_HasPrefix : HT := .leaf
theorem ok_strings_HasPrefix : TabOK Tryd.prog [52] g_strings_HasPrefix := (TabOK.cons ⟨_, Tryd.func52, by kernel_rfl, by kernel_rfl⟩ k_internal_stringslite_HasPrefix (calleeOf_nat _ _) (fun _ => (calleeOf_pure (by kernel_rfl))) TabOK.nil)
theorem e_strings_HasPrefix : ∀ t, bodyG Tryd.prog g_strings_HasPrefix [52] h_strings_HasPrefix Tryd.f38 sg_strings_HasPrefix t = u_strings_HasPrefix t := by
  intro t
  kernel_rfl
theorem k_strings_HasPrefix : (calleeOf sg_strings_HasPrefix u_strings_HasPrefix).OK Tryd.prog 38 := calleeG_ok mixed ok_strings_HasPrefix Tryd.func38 (by kernel_rfl) (by kernel_rfl) e_strings_HasPrefix

/-! lexer_token -/
def sg_lexer_token : Sig := { na := 2, np := 0, hin := { items := [.slot 0, .slot 1], shapes := [.str, .int Go.IntKind.i64] }, nres := 2, kept := [], nnew := 0, hout := { items := [.aggs 0 3, .slot 1], shapes := [.int Go.IntKind.i64, .str, .int Go.IntKind.i64, .int Go.IntKind.i64] }, nob := 238 }
noncomputable def g_lexer_token : List (Go.FuncId × Callee) := [(40, (calleeOf sg_lexer_upper u_lexer_upper)), (36, (orC (isLit 2 37) (calleeOf sg_lexer_run_blank u_lexer_run_blank) (orC (isLit 2 42) (calleeOf sg_lexer_run_digit u_lexer_run_digit) (orC (isLit 2 41) (calleeOf sg_lexer_run_word u_lexer_run_word) (calleeOf sg_lexer_run_inner u_lexer_run_inner))))), (41, (calleeOf sg_lexer_word u_lexer_word)), (42, (calleeOf sg_lexer_digit u_lexer_digit)), (43, (calleeOf sg_lexer_number u_lexer_number)), (44, (calleeOf sg_lexer_quoted u_lexer_quoted)), (45, (calleeOf sg_lexer_inner u_lexer_inner)), (46, (calleeOf sg_lexer_at u_lexer_at)), (34, (calleeOf sg_lexer_single u_lexer_single))]
noncomputable def u_lexer_token (t : (ByteArray × (Int × Unit))) : Option (Int × (ByteArray × (Int × (Int × Unit)))) :=
  (ob (Go.Eng.idxS t.1 t.2.1) fun x0 => (ob (α := ((Unit × Unit × Int × Int × ByteArray × Int × Int × ByteArray × Int × Unit) ⊕ ((Unit × Int × Int × ByteArray × Int × Unit) ⊕ Empty))) (ob (Go.Eng.u_lexer_upper (x0, ())) fun x1 => (bif x1.1 then (ob (Go.Eng.u_lexer_run_word (t.1, (t.2.1, ((), ())))) fun x2 => (ob (Go.Eng.subS t.1 t.2.1 x2.1) fun x3 => (some (Sum.inl ((), ((), (x2.1, ((0 : Int), ((ByteArray.mk #[]), ((0 : Int), ((1 : Int), (x3, (t.2.1, ()))))))))))))) else (ob (Go.Eng.u_lexer_digit (x0, ())) fun x4 => (bif x4.1 then (ob (Go.Eng.u_lexer_number (t.1, (t.2.1, ()))) fun x5 => (ob (Go.Eng.subS t.1 t.2.1 x5.1) fun x6 => (some (Sum.inl ((), ((), (x5.1, ((0 : Int), ((ByteArray.mk #[]), ((0 : Int), ((2 : Int), (x6, (t.2.1, ()))))))))))))) else (bif (Go.Eng.eqI x0 (43 : Int)) then (ob (Go.Eng.u_lexer_number (t.1, (t.2.1, ()))) fun x7 => (ob (Go.Eng.subS t.1 t.2.1 x7.1) fun x8 => (some (Sum.inl ((), ((), (x7.1, ((0 : Int), ((ByteArray.mk #[]), ((0 : Int), ((2 : Int), (x8, (t.2.1, ()))))))))))))) else (bif (Go.Eng.eqI x0 (45 : Int)) then (ob (Go.Eng.u_lexer_number (t.1, (t.2.1, ()))) fun x9 => (ob (Go.Eng.subS t.1 t.2.1 x9.1) fun x10 => (some (Sum.inl ((), ((), (x9.1, ((0 : Int), ((ByteArray.mk #[]), ((0 : Int), ((2 : Int), (x10, (t.2.1, ()))))))))))))) else (bif (Go.Eng.eqI x0 (39 : Int)) then (ob (Go.Eng.u_lexer_quoted (t.1, (t.2.1, ()))) fun x11 => (some (Sum.inl ((), ((), (x11.1, ((0 : Int), ((ByteArray.mk #[]), ((0 : Int), ((3 : Int), (x11.2.1, (t.2.1, ())))))))))))) else (bif (Go.Eng.eqI x0 (46 : Int)) then (ob (Go.Eng.u_lexer_run_inner (t.1, ((Go.Eng.wr Go.IntKind.i64 (Go.Eng.addI t.2.1 (1 : Int))), ((), ())))) fun x12 => (ob (Go.Eng.u_lexer_at (t.1, ((Go.Eng.wr Go.IntKind.i64 (Go.Eng.addI t.2.1 (1 : Int))), ()))) fun x13 => (ob (Go.Eng.u_lexer_upper (x13.1, ())) fun x14 => (bif (Bool.not x14.1) then (some (Sum.inr (Sum.inl ((), (t.2.1, ((0 : Int), ((ByteArray.mk #[]), (t.2.1, ())))))))) else (ob (Go.Eng.u_lexer_at (t.1, (x12.1, ()))) fun x15 => (bif (Bool.not (Go.Eng.eqI x15.1 (46 : Int))) then (some (Sum.inr (Sum.inl ((), (t.2.1, ((0 : Int), ((ByteArray.mk #[]), (t.2.1, ())))))))) else (ob (Go.Eng.subS t.1 (Go.Eng.wr Go.IntKind.i64 (Go.Eng.addI t.2.1 (1 : Int))) x12.1) fun x16 => (some (Sum.inl ((), ((), ((Go.Eng.wr Go.IntKind.i64 (Go.Eng.addI x12.1 (1 : Int))), ((0 : Int), ((ByteArray.mk #[]), ((0 : Int), ((4 : Int), (x16, (t.2.1, ())))))))))))))))))) else (bif (Go.Eng.eqI x0 (35 : Int)) then (ob (Go.Eng.u_lexer_run_digit (t.1, ((Go.Eng.wr Go.IntKind.i64 (Go.Eng.addI t.2.1 (1 : Int))), ((), ())))) fun x17 => (bif (Go.Eng.eqI x17.1 (Go.Eng.wr Go.IntKind.i64 (Go.Eng.addI t.2.1 (1 : Int)))) then (some (Sum.inr (Sum.inl ((), (t.2.1, ((0 : Int), ((ByteArray.mk #[]), (t.2.1, ())))))))) else (ob (Go.Eng.subS t.1 (Go.Eng.wr Go.IntKind.i64 (Go.Eng.addI t.2.1 (1 : Int))) x17.1) fun x18 => (some (Sum.inl ((), ((), (x17.1, ((0 : Int), ((ByteArray.mk #[]), ((0 : Int), ((5 : Int), (x18, (t.2.1, ())))))))))))))) else (ob (Go.Eng.u_lexer_single (x0, ())) fun x19 => (bif (Bool.not (Go.Eng.eqI x19.1 (0 : Int))) then (ob (Go.Eng.u_lexer_single (x0, ())) fun x20 => (some (Sum.inl ((), ((), ((Go.Eng.wr Go.IntKind.i64 (Go.Eng.addI t.2.1 (1 : Int))), ((0 : Int), ((ByteArray.mk #[]), ((0 : Int), (x20.1, ((ByteArray.mk #[]), (t.2.1, ())))))))))))) else (some (Sum.inl ((), ((), (t.2.1, ((0 : Int), ((ByteArray.mk #[]), ((0 : Int), ((0 : Int), ((ByteArray.mk #[]), (t.2.1, ())))))))))))))))))))))) fun q21 => onS q21 (fun t22 => (some (t22.2.2.2.2.2.2.1, (t22.2.2.2.2.2.2.2.1, (t22.2.2.2.2.2.2.2.2.1, (t22.2.2.1, ())))))) fun q23 => onS q23 (fun t24 => (some (t24.2.2.1, (t24.2.2.2.1, (t24.2.2.2.2.1, (t24.2.1, ())))))) fun q25 => noS q25))
def h_lexer_token : HT := (.seq .leaf (.seq .leaf (.seq .leaf (.seq .leaf (.seq (.join [(AEx.normal, { items := [.slot 4, .slot 6, .slot 8, .box 4 3, .box 6 3], shapes := [.lit (Go.Eng.C.box 4 0), .lit (Go.Eng.C.box 6 0), .int Go.IntKind.i64, .int Go.IntKind.i64, .str, .int Go.IntKind.i64, .int Go.IntKind.i64, .str, .int Go.IntKind.i64] }), (AEx.ret, { items := [.slot 4, .slot 5, .box 4 3], shapes := [.lit (Go.Eng.C.box 4 0), .int Go.IntKind.i64, .int Go.IntKind.i64, .str, .int Go.IntKind.i64] })] .leaf) .leaf)))))
theorem ok_lexer_token : TabOK Tryd.prog [40, 36, 41, 42, 43, 44, 45, 46, 34] g_lexer_token := (TabOK.cons ⟨_, Tryd.func40, by kernel_rfl, by kernel_rfl⟩ k_lexer_upper (calleeOf_nat _ _) (fun _ => (calleeOf_pure (by kernel_rfl))) (TabOK.cons ⟨_, Tryd.func36, by kernel_rfl, by kernel_rfl⟩ (orC_ok k_lexer_run_blank (orC_ok k_lexer_run_digit (orC_ok k_lexer_run_word k_lexer_run_inner))) (orC_nat (calleeOf_nat _ _) (orC_nat (calleeOf_nat _ _) (orC_nat (calleeOf_nat _ _) (calleeOf_nat _ _)))) (fun _ => (orC_pure (calleeOf_pure (by kernel_rfl)) (orC_pure (calleeOf_pure (by kernel_rfl)) (orC_pure (calleeOf_pure (by kernel_rfl)) (calleeOf_pure (by kernel_rfl)))))) (TabOK.cons ⟨_, Tryd.func41, by kernel_rfl, by kernel_rfl⟩ k_lexer_word (calleeOf_nat _ _) (fun _ => (calleeOf_pure (by kernel_rfl))) (TabOK.cons ⟨_, Tryd.func42, by kernel_rfl, by kernel_rfl⟩ k_lexer_digit (calleeOf_nat _ _) (fun _ => (calleeOf_pure (by kernel_rfl))) (TabOK.cons ⟨_, Tryd.func43, by kernel_rfl, by kernel_rfl⟩ k_lexer_number (calleeOf_nat _ _) (fun _ => (calleeOf_pure (by kernel_rfl))) (TabOK.cons ⟨_, Tryd.func44, by kernel_rfl, by kernel_rfl⟩ k_lexer_quoted (calleeOf_nat _ _) (fun _ => (calleeOf_pure (by kernel_rfl))) (TabOK.cons ⟨_, Tryd.func45, by kernel_rfl, by kernel_rfl⟩ k_lexer_inner (calleeOf_nat _ _) (fun _ => (calleeOf_pure (by kernel_rfl))) (TabOK.cons ⟨_, Tryd.func46, by kernel_rfl, by kernel_rfl⟩ k_lexer_at (calleeOf_nat _ _) (fun _ => (calleeOf_pure (by kernel_rfl))) (TabOK.cons ⟨_, Tryd.func34, by kernel_rfl, by kernel_rfl⟩ k_lexer_single (calleeOf_nat _ _) (fun _ => (calleeOf_pure (by kernel_rfl))) TabOK.nil)))))))))
theorem e_lexer_token : ∀ t, bodyG Tryd.prog g_lexer_token [40, 36, 41, 42, 43, 44, 45, 46, 34] h_lexer_token Tryd.f27 sg_lexer_token t = u_lexer_token t := by
  intro t
  kernel_rfl
theorem k_lexer_token : (calleeOf sg_lexer_token u_lexer_token).OK Tryd.prog 27 := calleeG_ok mixed ok_lexer_token Tryd.func27 (by kernel_rfl) (by kernel_rfl) e_lexer_token

/-! ref23_upper -/
def sg_ref23_upper : Sig := { na := 1, np := 0, hin := { items := [.slot 0], shapes := [.int Go.IntKind.u8] }, nres := 1, kept := [], nnew := 0, hout := { items := [.slot 0], shapes := [.bool] }, nob := 18 }
noncomputable def g_ref23_upper : List (Go.FuncId × Callee) := []
noncomputable def u_ref23_upper (t : (Int × Unit)) : Option (Bool × Unit) :=
  (bif (Go.Eng.leI (65 : Int) t.1) then (some ((Go.Eng.leI t.1 (90 : Int)), ())) else (some (Bool.false, ())))
def h_ref23_upper : HT := .leaf
theorem ok_ref23_upper : TabOK Tryd.prog [] g_ref23_upper := TabOK.nil
theorem e_ref23_upper : ∀ t, bodyG Tryd.prog g_ref23_upper [] h_ref23_upper Tryd.f47 sg_ref23_upper t = u_ref23_upper t := by
  intro t
  kernel_rfl
theorem k_ref23_upper : (calleeOf sg_ref23_upper u_ref23_upper).OK Tryd.prog 47 := calleeG_ok mixed ok_ref23_upper Tryd.func47 (by kernel_rfl) (by kernel_rfl) e_ref23_upper

/-! ref23_digit -/
def sg_ref23_digit : Sig := { na := 1, np := 0, hin := { items := [.slot 0], shapes := [.int Go.IntKind.u8] }, nres := 1, kept := [], nnew := 0, hout := { items := [.slot 0], shapes := [.bool] }, nob := 18 }
noncomputable def g_ref23_digit : List (Go.FuncId × Callee) := []
noncomputable def u_ref23_digit (t : (Int × Unit)) : Option (Bool × Unit) :=
  (bif (Go.Eng.leI (48 : Int) t.1) then (some ((Go.Eng.leI t.1 (57 : Int)), ())) else (some (Bool.false, ())))
def h_ref23_digit : HT := .leaf
theorem ok_ref23_digit : TabOK Tryd.prog [] g_ref23_digit := TabOK.nil
theorem e_ref23_digit : ∀ t, bodyG Tryd.prog g_ref23_digit [] h_ref23_digit Tryd.f48 sg_ref23_digit t = u_ref23_digit t := by
  intro t
  kernel_rfl
theorem k_ref23_digit : (calleeOf sg_ref23_digit u_ref23_digit).OK Tryd.prog 48 := calleeG_ok mixed ok_ref23_digit Tryd.func48 (by kernel_rfl) (by kernel_rfl) e_ref23_digit

/-! ref23_sign -/
def sg_ref23_sign : Sig := { na := 1, np := 0, hin := { items := [.slot 0], shapes := [.str] }, nres := 1, kept := [], nnew := 0, hout := { items := [.slot 0], shapes := [.int Go.IntKind.i64] }, nob := 32 }
noncomputable def g_ref23_sign : List (Go.FuncId × Callee) := []
noncomputable def u_ref23_sign (t : (ByteArray × Unit)) : Option (Int × Unit) :=
  (bif (Go.Eng.ltI (0 : Int) (Go.Eng.lenS t.1)) then (ob (Go.Eng.idxS t.1 (0 : Int)) fun x0 => (bif (Go.Eng.eqI x0 (43 : Int)) then (some ((1 : Int), ())) else (ob (Go.Eng.idxS t.1 (0 : Int)) fun x1 => (bif (Go.Eng.eqI x1 (45 : Int)) then (some ((1 : Int), ())) else (some ((0 : Int), ())))))) else (some ((0 : Int), ())))
def h_ref23_sign : HT := .leaf
theorem ok_ref23_sign : TabOK Tryd.prog [] g_ref23_sign := TabOK.nil
theorem e_ref23_sign : ∀ t, bodyG Tryd.prog g_ref23_sign [] h_ref23_sign Tryd.f49 sg_ref23_sign t = u_ref23_sign t := by
  intro t
  kernel_rfl
theorem k_ref23_sign : (calleeOf sg_ref23_sign u_ref23_sign).OK Tryd.prog 49 := calleeG_ok mixed ok_ref23_sign Tryd.func49 (by kernel_rfl) (by kernel_rfl) e_ref23_sign

/-! ref23_digits -/
def sg_ref23_digits : Sig := { na := 1, np := 0, hin := { items := [.slot 0], shapes := [.str] }, nres := 1, kept := [], nnew := 0, hout := { items := [.slot 0], shapes := [.int Go.IntKind.i64] }, nob := 34 }
noncomputable def g_ref23_digits : List (Go.FuncId × Callee) := [(48, (calleeOf sg_ref23_digit u_ref23_digit))]
noncomputable def u_ref23_digits_l0 (s0 : (ByteArray × Int × Unit)) : Option ((ByteArray × Int × Unit) ⊕ ((Int × Unit) ⊕ Empty)) :=
  (bif (Go.Eng.ltI s0.2.1 (Go.Eng.lenS s0.1)) then (ob (Go.Eng.idxS s0.1 s0.2.1) fun x1 => (ob (Go.Eng.u_ref23_digit (x1, ())) fun x2 => (bif x2.1 then (some (Sum.inl (s0.1, ((Go.Eng.wr Go.IntKind.i64 (Go.Eng.addI s0.2.1 (1 : Int))), ())))) else (some (Sum.inr (Sum.inl (s0.2.1, ()))))))) else (some (Sum.inr (Sum.inl (s0.2.1, ())))))
noncomputable def u_ref23_digits (t : (ByteArray × Unit)) : Option (Int × Unit) :=
  (ob (loopU u_ref23_digits_l0 (t.1, ((0 : Int), ()))) fun q3 => onS q3 (fun t4 => (some (t4.1, ()))) fun q5 => noS q5)
def h_ref23_digits : HT := (.seq .leaf (.seq .leaf (.seq (.one (.loop { items := [.slot 0, .slot 3], shapes := [.str, .int Go.IntKind.i64] } [((AEx.exit 0), { items := [.slot 3], shapes := [.int Go.IntKind.i64] })] .leaf)) .leaf)))
theorem ok_ref23_digits : TabOK Tryd.prog [48] g_ref23_digits := (TabOK.cons ⟨_, Tryd.func48, by kernel_rfl, by kernel_rfl⟩ k_ref23_digit (calleeOf_nat _ _) (fun _ => (calleeOf_pure (by kernel_rfl))) TabOK.nil)
theorem e_ref23_digits : ∀ t, bodyG Tryd.prog g_ref23_digits [48] h_ref23_digits Tryd.f31 sg_ref23_digits t = u_ref23_digits t := by
  intro t
  kernel_rfl
theorem k_ref23_digits : (calleeOf sg_ref23_digits u_ref23_digits).OK Tryd.prog 31 := calleeG_ok mixed ok_ref23_digits Tryd.func31 (by kernel_rfl) (by kernel_rfl) e_ref23_digits

/-! ref23_name -/
def sg_ref23_name : Sig := { na := 2, np := 0, hin := { items := [.slot 0, .slot 1], shapes := [.str, .bool] }, nres := 1, kept := [], nnew := 0, hout := { items := [.slot 0], shapes := [.int Go.IntKind.i64] }, nob := 98 }
noncomputable def g_ref23_name : List (Go.FuncId × Callee) := [(47, (calleeOf sg_ref23_upper u_ref23_upper)), (48, (calleeOf sg_ref23_digit u_ref23_digit))]
noncomputable def u_ref23_name_l0 (s2 : (ByteArray × Bool × Int × Unit)) : Option ((ByteArray × Bool × Int × Unit) ⊕ ((Int × Unit) ⊕ Empty)) :=
  (bif (Go.Eng.ltI s2.2.2.1 (Go.Eng.lenS s2.1)) then (ob (Go.Eng.idxS s2.1 s2.2.2.1) fun x3 => (ob (Go.Eng.u_ref23_upper (x3, ())) fun x4 => (bif x4.1 then (some (Sum.inl (s2.1, (s2.2.1, ((Go.Eng.wr Go.IntKind.i64 (Go.Eng.addI s2.2.2.1 (1 : Int))), ()))))) else (ob (Go.Eng.idxS s2.1 s2.2.2.1) fun x5 => (ob (Go.Eng.u_ref23_digit (x5, ())) fun x6 => (bif x6.1 then (some (Sum.inl (s2.1, (s2.2.1, ((Go.Eng.wr Go.IntKind.i64 (Go.Eng.addI s2.2.2.1 (1 : Int))), ()))))) else (ob (Go.Eng.idxS s2.1 s2.2.2.1) fun x7 => (bif (Go.Eng.eqI x7 (95 : Int)) then (some (Sum.inl (s2.1, (s2.2.1, ((Go.Eng.wr Go.IntKind.i64 (Go.Eng.addI s2.2.2.1 (1 : Int))), ()))))) else (bif s2.2.1 then (ob (Go.Eng.idxS s2.1 s2.2.2.1) fun x8 => (bif (Go.Eng.eqI x8 (45 : Int)) then (some (Sum.inl (s2.1, (s2.2.1, ((Go.Eng.wr Go.IntKind.i64 (Go.Eng.addI s2.2.2.1 (1 : Int))), ()))))) else (some (Sum.inr (Sum.inl (s2.2.2.1, ())))))) else (some (Sum.inr (Sum.inl (s2.2.2.1, ()))))))))))))) else (some (Sum.inr (Sum.inl (s2.2.2.1, ())))))
noncomputable def u_ref23_name (t : (ByteArray × (Bool × Unit))) : Option (Int × Unit) :=
  (bif (Go.Eng.eqI (Go.Eng.lenS t.1) (0 : Int)) then (some ((0 : Int), ())) else (ob (Go.Eng.idxS t.1 (0 : Int)) fun x0 => (ob (Go.Eng.u_ref23_upper (x0, ())) fun x1 => (bif (Bool.not x1.1) then (some ((0 : Int), ())) else (ob (loopU u_ref23_name_l0 (t.1, (t.2.1, ((1 : Int), ())))) fun q9 => onS q9 (fun t10 => (some (t10.1, ()))) fun q11 => noS q11)))))
def h_ref23_name : HT := (.seq .leaf (.seq .leaf (.seq .leaf (.seq (.one (.loop { items := [.slot 0, .slot 1, .slot 5], shapes := [.str, .bool, .int Go.IntKind.i64] } [((AEx.exit 0), { items := [.slot 5], shapes := [.int Go.IntKind.i64] })] .leaf)) .leaf))))
theorem ok_ref23_name : TabOK Tryd.prog [47, 48] g_ref23_name := (TabOK.cons ⟨_, Tryd.func47, by kernel_rfl, by kernel_rfl⟩ k_ref23_upper (calleeOf_nat _ _) (fun _ => (calleeOf_pure (by kernel_rfl))) (TabOK.cons ⟨_, Tryd.func48, by kernel_rfl, by kernel_rfl⟩ k_ref23_digit (calleeOf_nat _ _) (fun _ => (calleeOf_pure (by kernel_rfl))) TabOK.nil))
theorem e_ref23_name : ∀ t, bodyG Tryd.prog g_ref23_name [47, 48] h_ref23_name Tryd.f29 sg_ref23_name t = u_ref23_name t := by
  intro t
  kernel_rfl
theorem k_ref23_name : (calleeOf sg_ref23_name u_ref23_name).OK Tryd.prog 29 := calleeG_ok mixed ok_ref23_name Tryd.func29 (by kernel_rfl) (by kernel_rfl) e_ref23_name

/-! ref23_number -/
def sg_ref23_number : Sig := { na := 1, np := 0, hin := { items := [.slot 0], shapes := [.str] }, nres := 1, kept := [], nnew := 0, hout := { items := [.slot 0], shapes := [.int Go.IntKind.i64] }, nob := 130 }
noncomputable def g_ref23_number : List (Go.FuncId × Callee) := [(49, (calleeOf sg_ref23_sign u_ref23_sign)), (31, (calleeOf sg_ref23_digits u_ref23_digits))]
noncomputable def u_ref23_number (t : (ByteArray × Unit)) : Option (Int × Unit) :=
  (ob (Go.Eng.u_ref23_sign (t.1, ())) fun x0 => (ob (Go.Eng.subS t.1 x0.1 (Go.Eng.lenS t.1)) fun x1 => (ob (Go.Eng.u_ref23_digits (x1, ())) fun x2 => (bif (Go.Eng.eqI x2.1 (0 : Int)) then (some ((0 : Int), ())) else (bif (Go.Eng.eqI (Go.Eng.wr Go.IntKind.i64 (Go.Eng.addI x0.1 x2.1)) (Go.Eng.lenS t.1)) then (some ((Go.Eng.wr Go.IntKind.i64 (Go.Eng.addI x0.1 x2.1)), ())) else (ob (Go.Eng.idxS t.1 (Go.Eng.wr Go.IntKind.i64 (Go.Eng.addI x0.1 x2.1))) fun x3 => (bif (Bool.not (Go.Eng.eqI x3 (46 : Int))) then (some ((Go.Eng.wr Go.IntKind.i64 (Go.Eng.addI x0.1 x2.1)), ())) else (ob (Go.Eng.subS t.1 (Go.Eng.wr Go.IntKind.i64 (Go.Eng.addI (Go.Eng.wr Go.IntKind.i64 (Go.Eng.addI x0.1 x2.1)) (1 : Int))) (Go.Eng.lenS t.1)) fun x4 => (ob (Go.Eng.u_ref23_digits (x4, ())) fun x5 => (ob (α := ((Int × Unit) ⊕ ((Int × Unit) ⊕ Empty))) (bif (Go.Eng.ltI (Go.Eng.wr Go.IntKind.i64 (Go.Eng.addI (Go.Eng.wr Go.IntKind.i64 (Go.Eng.addI (Go.Eng.wr Go.IntKind.i64 (Go.Eng.addI x0.1 x2.1)) (1 : Int))) x5.1)) (Go.Eng.lenS t.1)) then (ob (Go.Eng.idxS t.1 (Go.Eng.wr Go.IntKind.i64 (Go.Eng.addI (Go.Eng.wr Go.IntKind.i64 (Go.Eng.addI (Go.Eng.wr Go.IntKind.i64 (Go.Eng.addI x0.1 x2.1)) (1 : Int))) x5.1))) fun x6 => (bif (Go.Eng.eqI x6 (69 : Int)) then (ob (Go.Eng.subS t.1 (Go.Eng.wr Go.IntKind.i64 (Go.Eng.addI (Go.Eng.wr Go.IntKind.i64 (Go.Eng.addI (Go.Eng.wr Go.IntKind.i64 (Go.Eng.addI (Go.Eng.wr Go.IntKind.i64 (Go.Eng.addI x0.1 x2.1)) (1 : Int))) x5.1)) (1 : Int))) (Go.Eng.lenS t.1)) fun x7 => (ob (Go.Eng.u_ref23_sign (x7, ())) fun x8 => (ob (Go.Eng.subS t.1 (Go.Eng.wr Go.IntKind.i64 (Go.Eng.addI (Go.Eng.wr Go.IntKind.i64 (Go.Eng.addI (Go.Eng.wr Go.IntKind.i64 (Go.Eng.addI (Go.Eng.wr Go.IntKind.i64 (Go.Eng.addI (Go.Eng.wr Go.IntKind.i64 (Go.Eng.addI x0.1 x2.1)) (1 : Int))) x5.1)) (1 : Int))) x8.1)) (Go.Eng.lenS t.1)) fun x9 => (ob (Go.Eng.u_ref23_digits (x9, ())) fun x10 => (bif (Go.Eng.ltI (0 : Int) x10.1) then (some (Sum.inl ((Go.Eng.wr Go.IntKind.i64 (Go.Eng.addI (Go.Eng.wr Go.IntKind.i64 (Go.Eng.addI (Go.Eng.wr Go.IntKind.i64 (Go.Eng.addI (Go.Eng.wr Go.IntKind.i64 (Go.Eng.addI (Go.Eng.wr Go.IntKind.i64 (Go.Eng.addI (Go.Eng.wr Go.IntKind.i64 (Go.Eng.addI x0.1 x2.1)) (1 : Int))) x5.1)) (1 : Int))) x8.1)) x10.1)), ()))) else (some (Sum.inr (Sum.inl ((Go.Eng.wr Go.IntKind.i64 (Go.Eng.addI (Go.Eng.wr Go.IntKind.i64 (Go.Eng.addI (Go.Eng.wr Go.IntKind.i64 (Go.Eng.addI x0.1 x2.1)) (1 : Int))) x5.1)), ()))))))))) else (some (Sum.inr (Sum.inl ((Go.Eng.wr Go.IntKind.i64 (Go.Eng.addI (Go.Eng.wr Go.IntKind.i64 (Go.Eng.addI (Go.Eng.wr Go.IntKind.i64 (Go.Eng.addI x0.1 x2.1)) (1 : Int))) x5.1)), ())))))) else (some (Sum.inr (Sum.inl ((Go.Eng.wr Go.IntKind.i64 (Go.Eng.addI (Go.Eng.wr Go.IntKind.i64 (Go.Eng.addI (Go.Eng.wr Go.IntKind.i64 (Go.Eng.addI x0.1 x2.1)) (1 : Int))) x5.1)), ()))))) fun q11 => onS q11 (fun t12 => (some (t12.1, ()))) fun q13 => onS q13 (fun t14 => (some (t14.1, ()))) fun q15 => noS q15))))))))))
def h_ref23_number : HT := (.seq .leaf (.seq .leaf (.seq .leaf (.seq .leaf (.seq .leaf (.seq .leaf (.seq .leaf (.seq .leaf (.seq (.join [(AEx.ret, { items := [.slot 2], shapes := [.int Go.IntKind.i64] }), (AEx.normal, { items := [.slot 3], shapes := [.int Go.IntKind.i64] })] .leaf) .leaf)))))))))
theorem ok_ref23_number : TabOK Tryd.prog [49, 31] g_ref23_number := (TabOK.cons ⟨_, Tryd.func49, by kernel_rfl, by kernel_rfl⟩ k_ref23_sign (calleeOf_nat _ _) (fun _ => (calleeOf_pure (by kernel_rfl))) (TabOK.cons ⟨_, Tryd.func31, by kernel_rfl, by kernel_rfl⟩ k_ref23_digits (calleeOf_nat _ _) (fun _ => (calleeOf_pure (by kernel_rfl))) TabOK.nil))
theorem e_ref23_number : ∀ t, bodyG Tryd.prog g_ref23_number [49, 31] h_ref23_number Tryd.f30 sg_ref23_number t = u_ref23_number t := by
  intro t
  kernel_rfl
theorem k_ref23_number : (calleeOf sg_ref23_number u_ref23_number).OK Tryd.prog 30 := calleeG_ok mixed ok_ref23_number Tryd.func30 (by kernel_rfl) (by kernel_rfl) e_ref23_number

/-! ref23_Quote -/
def sg_ref23_Quote : Sig := { na := 1, np := 0, hin := { items := [.slot 0], shapes := [.str] }, nres := 1, kept := [], nnew := 0, hout := { items := [.slot 0], shapes := [.str] }, nob := 52 }
noncomputable def g_ref23_Quote : List (Go.FuncId × Callee) := []
noncomputable def u_ref23_Quote_l0 (s0 : (ByteArray × ByteArray × Int × Unit)) : Option ((ByteArray × ByteArray × Int × Unit) ⊕ ((ByteArray × Unit) ⊕ Empty)) :=
  (bif (Go.Eng.ltI s0.2.2.1 (Go.Eng.lenS s0.1)) then (ob (α := ((ByteArray × ByteArray × Int × Unit) ⊕ Empty)) (ob (Go.Eng.idxS s0.1 s0.2.2.1) fun x1 => (bif (Go.Eng.eqI x1 (39 : Int)) then (ob (Go.Eng.catS s0.2.1 (ByteArray.mk #[39])) fun x2 => (some (Sum.inl (s0.1, (x2, (s0.2.2.1, ())))))) else (some (Sum.inl (s0.1, (s0.2.1, (s0.2.2.1, ()))))))) fun q3 => onS q3 (fun t4 => (ob (Go.Eng.subS t4.1 t4.2.2.1 (Go.Eng.wr Go.IntKind.i64 (Go.Eng.addI t4.2.2.1 (1 : Int)))) fun x5 => (ob (Go.Eng.catS t4.2.1 x5) fun x6 => (some (Sum.inl (t4.1, (x6, ((Go.Eng.wr Go.IntKind.i64 (Go.Eng.addI t4.2.2.1 (1 : Int))), ())))))))) fun q7 => noS q7) else (some (Sum.inr (Sum.inl (s0.2.1, ())))))
noncomputable def u_ref23_Quote (t : (ByteArray × Unit)) : Option (ByteArray × Unit) :=
  (ob (loopU u_ref23_Quote_l0 (t.1, ((ByteArray.mk #[39]), ((0 : Int), ())))) fun q8 => onS q8 (fun t9 => (ob (Go.Eng.catS t9.1 (ByteArray.mk #[39])) fun x10 => (some (x10, ())))) fun q11 => noS q11)
def h_ref23_Quote : HT := (.seq .leaf (.seq .leaf (.seq (.seq .leaf (.one (.loop { items := [.slot 0, .slot 3, .slot 4], shapes := [.str, .str, .int Go.IntKind.i64] } [((AEx.exit 0), { items := [.slot 3], shapes := [.str] })] (.seq .leaf (.seq (.one (.seq (.join [(AEx.normal, { items := [.slot 0, .slot 3, .slot 4], shapes := [.str, .str, .int Go.IntKind.i64] })] .leaf) .leaf)) .leaf))))) .leaf)))
theorem ok_ref23_Quote : TabOK Tryd.prog [] g_ref23_Quote := TabOK.nil
theorem e_ref23_Quote : ∀ t, bodyG Tryd.prog g_ref23_Quote [] h_ref23_Quote Tryd.f35 sg_ref23_Quote t = u_ref23_Quote t := by
  intro t
  kernel_rfl
theorem k_ref23_Quote : (calleeOf sg_ref23_Quote u_ref23_Quote).OK Tryd.prog 35 := calleeG_ok mixed ok_ref23_Quote Tryd.func35 (by kernel_rfl) (by kernel_rfl) e_ref23_Quote

/-! ref23_write -/
def sg_ref23_write : Sig := { na := 1, np := 0, hin := { items := [.aggs 0 3], shapes := [.int Go.IntKind.i64, .str, .int Go.IntKind.i64] }, nres := 1, kept := [], nnew := 0, hout := { items := [.slot 0], shapes := [.str] }, nob := 88 }
noncomputable def g_ref23_write : List (Go.FuncId × Callee) := [(35, (calleeOf sg_ref23_Quote u_ref23_Quote))]
noncomputable def u_ref23_write (t : (Int × (ByteArray × (Int × Unit)))) : Option (ByteArray × Unit) :=
  (ob (α := ((Unit × Int × Bool × Int × ByteArray × Int × Unit) ⊕ Empty)) (bif (Go.Eng.eqI t.1 (1 : Int)) then (some (Sum.inl ((), (t.1, ((Go.Eng.eqI t.1 (1 : Int)), (t.1, (t.2.1, (t.2.2.1, ())))))))) else (some (Sum.inl ((), (t.1, ((Go.Eng.eqI t.1 (2 : Int)), (t.1, (t.2.1, (t.2.2.1, ()))))))))) fun q0 => onS q0 (fun t1 => (bif t1.2.2.1 then (some (t1.2.2.2.2.1, ())) else (bif (Go.Eng.eqI t1.2.1 (3 : Int)) then (ob (Go.Eng.u_ref23_Quote (t1.2.2.2.2.1, ())) fun x2 => (some (x2.1, ()))) else (bif (Go.Eng.eqI t1.2.1 (4 : Int)) then (ob (Go.Eng.catS (ByteArray.mk #[46]) t1.2.2.2.2.1) fun x3 => (ob (Go.Eng.catS x3 (ByteArray.mk #[46])) fun x4 => (some (x4, ())))) else (bif (Go.Eng.eqI t1.2.1 (5 : Int)) then (ob (Go.Eng.catS (ByteArray.mk #[35]) t1.2.2.2.2.1) fun x5 => (some (x5, ()))) else (bif (Go.Eng.eqI t1.2.1 (9 : Int)) then (some ((ByteArray.mk #[59, 10]), ())) else (bif (Go.Eng.leI (6 : Int) t1.2.2.2.1) then (bif (Go.Eng.leI t1.2.2.2.1 (12 : Int)) then (ob (Go.Eng.subS (ByteArray.mk #[40, 41, 44, 59, 61, 36, 42]) (Go.Eng.wr Go.IntKind.i64 (Go.Eng.subI t1.2.2.2.1 (6 : Int))) (Go.Eng.wr Go.IntKind.i64 (Go.Eng.addI (Go.Eng.wr Go.IntKind.i64 (Go.Eng.subI t1.2.2.2.1 (6 : Int))) (1 : Int)))) fun x6 => (some (x6, ()))) else (some ((ByteArray.mk #[]), ()))) else (some ((ByteArray.mk #[]), ()))))))))) fun q7 => noS q7)
def h_ref23_write : HT := (.seq .leaf (.seq (.seq .leaf (.one (.seq (.join [(AEx.normal, { items := [.slot 1, .slot 4, .slot 5, .box 1 3], shapes := [.lit (Go.Eng.C.box 1 0), .int Go.IntKind.i64, .bool, .int Go.IntKind.i64, .str, .int Go.IntKind.i64] })] .leaf) .leaf))) .leaf))
theorem ok_ref23_write : TabOK Tryd.prog [35] g_ref23_write := (TabOK.cons ⟨_, Tryd.func35, by kernel_rfl, by kernel_rfl⟩ k_ref23_Quote (calleeOf_nat _ _) (fun _ => (calleeOf_pure (by kernel_rfl))) TabOK.nil)
theorem e_ref23_write : ∀ t, bodyG Tryd.prog g_ref23_write [35] h_ref23_write Tryd.f23 sg_ref23_write t = u_ref23_write t := by
  intro t
  kernel_rfl
theorem k_ref23_write : (calleeOf sg_ref23_write u_ref23_write).OK Tryd.prog 23 := calleeG_ok mixed ok_ref23_write Tryd.func23 (by kernel_rfl) (by kernel_rfl) e_ref23_write

/-! ref23_long -/
def sg_ref23_long : Sig := { na := 1, np := 0, hin := { items := [.aggs 0 3], shapes := [.int Go.IntKind.i64, .str, .int Go.IntKind.i64] }, nres := 1, kept := [], nnew := 0, hout := { items := [.slot 0], shapes := [.bool] }, nob := 22 }
noncomputable def g_ref23_long : List (Go.FuncId × Callee) := []
noncomputable def u_ref23_long (t : (Int × (ByteArray × (Int × Unit)))) : Option (Bool × Unit) :=
  (bif (Go.Eng.leI (1 : Int) t.1) then (some ((Go.Eng.leI t.1 (5 : Int)), ())) else (some (Bool.false, ())))
def h_ref23_long : HT := .leaf
theorem ok_ref23_long : TabOK Tryd.prog [] g_ref23_long := TabOK.nil
theorem e_ref23_long : ∀ t, bodyG Tryd.prog g_ref23_long [] h_ref23_long Tryd.f22 sg_ref23_long t = u_ref23_long t := by
  intro t
  kernel_rfl
theorem k_ref23_long : (calleeOf sg_ref23_long u_ref23_long).OK Tryd.prog 22 := calleeG_ok mixed ok_ref23_long Tryd.func22 (by kernel_rfl) (by kernel_rfl) e_ref23_long

/-! ref23_Text -/
def sg_ref23_Text : Sig := { na := 1, np := 0, hin := { items := [.slot 0], shapes := [.sl 3] }, nres := 1, kept := [], nnew := 0, hout := { items := [.slot 0], shapes := [.str] }, nob := 80 }
noncomputable def g_ref23_Text : List (Go.FuncId × Callee) := [(22, (calleeOf sg_ref23_long u_ref23_long)), (23, (calleeOf sg_ref23_write u_ref23_write))]
noncomputable def u_ref23_Text_l0 (s0 : (List T × List T × Int × Unit)) : Option ((List T × List T × Int × Unit) ⊕ ((List T × Unit) ⊕ Empty)) :=
  (bif (Go.Eng.ltI s0.2.2.1 (Go.Eng.lenL s0.1)) then (ob (α := ((List T × List T × Int × Unit) ⊕ Empty)) (bif (Go.Eng.ltI (0 : Int) s0.2.2.1) then (ob (Go.Eng.idxL s0.1 s0.2.2.1) fun x1 => (ob (Go.Eng.T.int? Go.IntKind.i64 (Go.Eng.T.cell x1 0)) fun x2 => (ob (Go.Eng.T.str? (Go.Eng.T.cell x1 1)) fun x3 => (ob (Go.Eng.T.int? Go.IntKind.i64 (Go.Eng.T.cell x1 2)) fun x4 => (ob (Go.Eng.u_ref23_long (x2, (x3, (x4, ())))) fun x5 => (bif x5.1 then (ob (Go.Eng.idxL s0.1 (Go.Eng.wr Go.IntKind.i64 (Go.Eng.subI s0.2.2.1 (1 : Int)))) fun x6 => (ob (Go.Eng.T.int? Go.IntKind.i64 (Go.Eng.T.cell x6 0)) fun x7 => (ob (Go.Eng.T.str? (Go.Eng.T.cell x6 1)) fun x8 => (ob (Go.Eng.T.int? Go.IntKind.i64 (Go.Eng.T.cell x6 2)) fun x9 => (ob (Go.Eng.u_ref23_long (x7, (x8, (x9, ())))) fun x10 => (bif x10.1 then (ob (Go.Eng.room s0.2.1 [(Go.Eng.T.v (Go.Value.int Go.IntKind.u8 (32 : Int)))] 1) fun x11 => (some (Sum.inl (s0.1, (x11, (s0.2.2.1, ())))))) else (some (Sum.inl (s0.1, (s0.2.1, (s0.2.2.1, ()))))))))))) else (some (Sum.inl (s0.1, (s0.2.1, (s0.2.2.1, ()))))))))))) else (some (Sum.inl (s0.1, (s0.2.1, (s0.2.2.1, ())))))) fun q12 => onS q12 (fun t13 => (ob (Go.Eng.idxL t13.1 t13.2.2.1) fun x14 => (ob (Go.Eng.T.int? Go.IntKind.i64 (Go.Eng.T.cell x14 0)) fun x15 => (ob (Go.Eng.T.str? (Go.Eng.T.cell x14 1)) fun x16 => (ob (Go.Eng.T.int? Go.IntKind.i64 (Go.Eng.T.cell x14 2)) fun x17 => (ob (Go.Eng.u_ref23_write (x15, (x16, (x17, ())))) fun x18 => (ob (Go.Eng.room t13.2.1 (Go.Eng.bytesL x18.1) 1) fun x19 => (some (Sum.inl (t13.1, (x19, ((Go.Eng.wr Go.IntKind.i64 (Go.Eng.addI t13.2.2.1 (1 : Int))), ())))))))))))) fun q20 => noS q20) else (some (Sum.inr (Sum.inl (s0.2.1, ())))))
noncomputable def u_ref23_Text (t : ((List T) × Unit)) : Option (ByteArray × Unit) :=
  (ob (loopU u_ref23_Text_l0 (t.1, ([], ((0 : Int), ())))) fun q21 => onS q21 (fun t22 => (ob (Go.Eng.strOf t22.1) fun x23 => (some (x23, ())))) fun q24 => noS q24)
def h_ref23_Text : HT := (.seq .leaf (.seq .leaf (.seq (.seq .leaf (.one (.loop { items := [.slot 0, .slot 3, .slot 4], shapes := [.sl 3, .row 5 1 37, .int Go.IntKind.i64] } [((AEx.exit 0), { items := [.slot 3], shapes := [.row 5 1 37] })] (.seq .leaf (.seq (.one (.seq (.join [(AEx.normal, { items := [.slot 0, .slot 3, .slot 4], shapes := [.sl 3, .row 5 1 30, .int Go.IntKind.i64] })] .leaf) .leaf)) .leaf))))) .leaf)))
theorem ok_ref23_Text : TabOK Tryd.prog [22, 23] g_ref23_Text := (TabOK.cons ⟨_, Tryd.func22, by kernel_rfl, by kernel_rfl⟩ k_ref23_long (calleeOf_nat _ _) (fun _ => (calleeOf_pure (by kernel_rfl))) (TabOK.cons ⟨_, Tryd.func23, by kernel_rfl, by kernel_rfl⟩ k_ref23_write (calleeOf_nat _ _) (fun _ => (calleeOf_pure (by kernel_rfl))) TabOK.nil))
theorem e_ref23_Text : ∀ t, bodyG Tryd.prog g_ref23_Text [22, 23] h_ref23_Text Tryd.f11 sg_ref23_Text t = u_ref23_Text t := by
  intro t
  kernel_rfl
theorem k_ref23_Text : (calleeOf sg_ref23_Text u_ref23_Text).OK Tryd.prog 11 := calleeG_ok mixed ok_ref23_Text Tryd.func11 (by kernel_rfl) (by kernel_rfl) e_ref23_Text

/-! ref23_ValidToken -/
def sg_ref23_ValidToken : Sig := { na := 1, np := 0, hin := { items := [.aggs 0 3], shapes := [.int Go.IntKind.i64, .str, .int Go.IntKind.i64] }, nres := 1, kept := [], nnew := 0, hout := { items := [.slot 0], shapes := [.bool] }, nob := 166 }
noncomputable def g_ref23_ValidToken : List (Go.FuncId × Callee) := [(29, (calleeOf sg_ref23_name u_ref23_name)), (30, (calleeOf sg_ref23_number u_ref23_number)), (31, (calleeOf sg_ref23_digits u_ref23_digits))]
noncomputable def u_ref23_ValidToken_l0 (s4 : (ByteArray × Int × Unit)) : Option ((ByteArray × Int × Unit) ⊕ ((Bool × Unit) ⊕ ((Unit) ⊕ Empty))) :=
  (bif (Go.Eng.ltI s4.2.1 (Go.Eng.lenS s4.1)) then (ob (Go.Eng.idxS s4.1 s4.2.1) fun x5 => (bif (Go.Eng.ltI x5 (32 : Int)) then (some (Sum.inr (Sum.inl (Bool.false, ())))) else (ob (Go.Eng.idxS s4.1 s4.2.1) fun x6 => (bif (Go.Eng.ltI (126 : Int) x6) then (some (Sum.inr (Sum.inl (Bool.false, ())))) else (some (Sum.inl (s4.1, ((Go.Eng.wr Go.IntKind.i64 (Go.Eng.addI s4.2.1 (1 : Int))), ())))))))) else (some (Sum.inr (Sum.inr (Sum.inl ())))))
noncomputable def u_ref23_ValidToken (t : (Int × (ByteArray × (Int × Unit)))) : Option (Bool × Unit) :=
  (bif (Go.Eng.eqI t.1 (1 : Int)) then (bif (Bool.not (Go.Eng.eqS t.2.1 (ByteArray.mk #[]))) then (ob (Go.Eng.u_ref23_name (t.2.1, (Bool.true, ()))) fun x0 => (some ((Go.Eng.eqI x0.1 (Go.Eng.lenS t.2.1)), ()))) else (some (Bool.false, ()))) else (bif (Go.Eng.eqI t.1 (2 : Int)) then (bif (Bool.not (Go.Eng.eqS t.2.1 (ByteArray.mk #[]))) then (ob (Go.Eng.u_ref23_number (t.2.1, ())) fun x1 => (some ((Go.Eng.eqI x1.1 (Go.Eng.lenS t.2.1)), ()))) else (some (Bool.false, ()))) else (bif (Go.Eng.eqI t.1 (4 : Int)) then (bif (Bool.not (Go.Eng.eqS t.2.1 (ByteArray.mk #[]))) then (ob (Go.Eng.u_ref23_name (t.2.1, (Bool.false, ()))) fun x2 => (some ((Go.Eng.eqI x2.1 (Go.Eng.lenS t.2.1)), ()))) else (some (Bool.false, ()))) else (bif (Go.Eng.eqI t.1 (5 : Int)) then (bif (Bool.not (Go.Eng.eqS t.2.1 (ByteArray.mk #[]))) then (ob (Go.Eng.u_ref23_digits (t.2.1, ())) fun x3 => (some ((Go.Eng.eqI x3.1 (Go.Eng.lenS t.2.1)), ()))) else (some (Bool.false, ()))) else (bif (Go.Eng.eqI t.1 (3 : Int)) then (ob (loopU u_ref23_ValidToken_l0 (t.2.1, ((0 : Int), ()))) fun q7 => onS q7 (fun t8 => (some (t8.1, ()))) fun q9 => onS q9 (fun t10 => (some (Bool.true, ()))) fun q11 => noS q11) else (bif (Go.Eng.leI (6 : Int) t.1) then (bif (Go.Eng.leI t.1 (12 : Int)) then (some ((Go.Eng.eqS t.2.1 (ByteArray.mk #[])), ())) else (some (Bool.false, ()))) else (some (Bool.false, ()))))))))
def h_ref23_ValidToken : HT := (.seq .leaf (.seq .leaf (.seq (.seq .leaf (.one (.seq .leaf (.cond .leaf (.seq .leaf (.cond .leaf (.seq .leaf (.cond .leaf (.seq .leaf (.cond .leaf (.seq .leaf (.cond (.seq (.seq .leaf (.one (.loop { items := [.slot 3, .slot 4], shapes := [.str, .int Go.IntKind.i64] } [(AEx.ret, { items := [.slot 2], shapes := [.bool] }), ((AEx.exit 1), { items := [], shapes := [] })] .leaf))) .leaf) .leaf)))))))))))) .leaf)))
theorem ok_ref23_ValidToken : TabOK Tryd.prog [29, 30, 31] g_ref23_ValidToken := (TabOK.cons ⟨_, Tryd.func29, by kernel_rfl, by kernel_rfl⟩ k_ref23_name (calleeOf_nat _ _) (fun _ => (calleeOf_pure (by kernel_rfl))) (TabOK.cons ⟨_, Tryd.func30, by kernel_rfl, by kernel_rfl⟩ k_ref23_number (calleeOf_nat _ _) (fun _ => (calleeOf_pure (by kernel_rfl))) (TabOK.cons ⟨_, Tryd.func31, by kernel_rfl, by kernel_rfl⟩ k_ref23_digits (calleeOf_nat _ _) (fun _ => (calleeOf_pure (by kernel_rfl))) TabOK.nil)))
theorem e_ref23_ValidToken : ∀ t, bodyG Tryd.prog g_ref23_ValidToken [29, 30, 31] h_ref23_ValidToken Tryd.f16 sg_ref23_ValidToken t = u_ref23_ValidToken t := by
  intro t
  kernel_rfl
theorem k_ref23_ValidToken : (calleeOf sg_ref23_ValidToken u_ref23_ValidToken).OK Tryd.prog 16 := calleeG_ok mixed ok_ref23_ValidToken Tryd.func16 (by kernel_rfl) (by kernel_rfl) e_ref23_ValidToken

/-! brepkernelmade_Mod -/
def sg_brepkernelmade_Mod : Sig := { na := 2, np := 0, hin := { items := [.slot 0, .slot 1], shapes := [.int Go.IntKind.i64, .int Go.IntKind.i64] }, nres := 1, kept := [], nnew := 0, hout := { items := [.slot 0], shapes := [.int Go.IntKind.i64] }, nob := 28 }
noncomputable def g_brepkernelmade_Mod : List (Go.FuncId × Callee) := []
noncomputable def u_brepkernelmade_Mod (t : (Int × (Int × Unit))) : Option (Int × Unit) :=
  (ob (Go.Eng.nz t.2.1) fun x0 => (ob (α := ((Int × Unit) ⊕ Empty)) (bif (Go.Eng.ltI (Go.Eng.modI t.1 x0) (0 : Int)) then (some (Sum.inl ((Go.Eng.wr Go.IntKind.i64 (Go.Eng.addI (Go.Eng.modI t.1 x0) t.2.1)), ()))) else (some (Sum.inl ((Go.Eng.modI t.1 x0), ())))) fun q1 => onS q1 (fun t2 => (some (t2.1, ()))) fun q3 => noS q3))
def h_brepkernelmade_Mod : HT := (.seq .leaf (.seq .leaf (.seq (.join [(AEx.normal, { items := [.slot 0], shapes := [.int Go.IntKind.i64] })] .leaf) .leaf)))
theorem ok_brepkernelmade_Mod : TabOK Tryd.prog [] g_brepkernelmade_Mod := TabOK.nil
theorem e_brepkernelmade_Mod : ∀ t, bodyG Tryd.prog g_brepkernelmade_Mod [] h_brepkernelmade_Mod Tryd.f28 sg_brepkernelmade_Mod t = u_brepkernelmade_Mod t := by
  intro t
  kernel_rfl
theorem k_brepkernelmade_Mod : (calleeOf sg_brepkernelmade_Mod u_brepkernelmade_Mod).OK Tryd.prog 28 := calleeG_ok mixed ok_brepkernelmade_Mod Tryd.func28 (by kernel_rfl) (by kernel_rfl) e_brepkernelmade_Mod

/-! brepkernelmade_Roll -/
def sg_brepkernelmade_Roll : Sig := { na := 1, np := 0, hin := { items := [.slot 0], shapes := [.sl 1] }, nres := 1, kept := [], nnew := 1, hout := { items := [.boxr 0 0 2], shapes := [.sl 1, .int Go.IntKind.i64] }, nob := 12 }
noncomputable def g_brepkernelmade_Roll : List (Go.FuncId × Callee) := []
noncomputable def u_brepkernelmade_Roll (t : ((List T) × Unit)) : Option ((List T) × (Int × Unit)) :=
  (some (t.1, ((0 : Int), ())))
def h_brepkernelmade_Roll : HT := .leaf
theorem ok_brepkernelmade_Roll : TabOK Tryd.prog [] g_brepkernelmade_Roll := TabOK.nil
theorem e_brepkernelmade_Roll : ∀ t, bodyG Tryd.prog g_brepkernelmade_Roll [] h_brepkernelmade_Roll Tryd.f7 sg_brepkernelmade_Roll t = u_brepkernelmade_Roll t := by
  intro t
  kernel_rfl
theorem k_brepkernelmade_Roll : (calleeOf sg_brepkernelmade_Roll u_brepkernelmade_Roll).OK Tryd.prog 7 := calleeG_ok mixed ok_brepkernelmade_Roll Tryd.func7 (by kernel_rfl) (by kernel_rfl) e_brepkernelmade_Roll

/-! brepkernelmade_Light -/
def sg_brepkernelmade_Light : Sig := { na := 1, np := 0, hin := { items := [.slot 0], shapes := [.sl 1] }, nres := 1, kept := [], nnew := 0, hout := { items := [.slot 0], shapes := [.bool] }, nob := 12 }
noncomputable def g_brepkernelmade_Light : List (Go.FuncId × Callee) := []
noncomputable def u_brepkernelmade_Light (t : ((List T) × Unit)) : Option (Bool × Unit) :=
  (some ((Go.Eng.leI (Go.Eng.lenL t.1) (500 : Int)), ()))
def h_brepkernelmade_Light : HT := .leaf
theorem ok_brepkernelmade_Light : TabOK Tryd.prog [] g_brepkernelmade_Light := TabOK.nil
theorem e_brepkernelmade_Light : ∀ t, bodyG Tryd.prog g_brepkernelmade_Light [] h_brepkernelmade_Light Tryd.f5 sg_brepkernelmade_Light t = u_brepkernelmade_Light t := by
  intro t
  kernel_rfl
theorem k_brepkernelmade_Light : (calleeOf sg_brepkernelmade_Light u_brepkernelmade_Light).OK Tryd.prog 5 := calleeG_ok mixed ok_brepkernelmade_Light Tryd.func5 (by kernel_rfl) (by kernel_rfl) e_brepkernelmade_Light

/-! __brepkernelmade_Dice__Next -/
def sg___brepkernelmade_Dice__Next : Sig := { na := 2, np := 1, hin := { items := [.slot 0, .slot 1, .box 0 2], shapes := [.lit (.box 0 0), .int Go.IntKind.i64, .sl 1, .int Go.IntKind.i64] }, nres := 1, kept := [], nnew := 0, hout := { items := [.slot 0, .box 0 2], shapes := [.int Go.IntKind.i64, .sl 1, .int Go.IntKind.i64] }, nob := 70 }
noncomputable def g___brepkernelmade_Dice__Next : List (Go.FuncId × Callee) := [(28, (calleeOf sg_brepkernelmade_Mod u_brepkernelmade_Mod))]
noncomputable def u___brepkernelmade_Dice__Next (t : (Unit × (Int × ((List T) × (Int × Unit))))) : Option (Int × ((List T) × (Int × Unit))) :=
  (bif (Go.Eng.leI (Go.Eng.lenL t.2.2.1) t.2.2.2.1) then (some ((0 : Int), (t.2.2.1, (t.2.2.2.1, ())))) else (ob (Go.Eng.idxL t.2.2.1 (Go.Eng.wr Go.IntKind.i64 (Go.Eng.subI (Go.Eng.wr Go.IntKind.i64 (Go.Eng.addI t.2.2.2.1 (1 : Int))) (1 : Int)))) fun x0 => (ob (Go.Eng.T.int? Go.IntKind.i64 (Go.Eng.T.cell x0 0)) fun x1 => (ob (Go.Eng.u_brepkernelmade_Mod (x1, (t.2.1, ()))) fun x2 => (some (x2.1, (t.2.2.1, ((Go.Eng.wr Go.IntKind.i64 (Go.Eng.addI t.2.2.2.1 (1 : Int))), ()))))))))
def h___brepkernelmade_Dice__Next : HT := .leaf
theorem ok___brepkernelmade_Dice__Next : TabOK Tryd.prog [28] g___brepkernelmade_Dice__Next := (TabOK.cons ⟨_, Tryd.func28, by kernel_rfl, by kernel_rfl⟩ k_brepkernelmade_Mod (calleeOf_nat _ _) (fun _ => (calleeOf_pure (by kernel_rfl))) TabOK.nil)
theorem e___brepkernelmade_Dice__Next : ∀ t, bodyG Tryd.prog g___brepkernelmade_Dice__Next [28] h___brepkernelmade_Dice__Next Tryd.f15 sg___brepkernelmade_Dice__Next t = u___brepkernelmade_Dice__Next t := by
  intro t
  kernel_rfl
theorem k___brepkernelmade_Dice__Next : (calleeOf sg___brepkernelmade_Dice__Next u___brepkernelmade_Dice__Next).OK Tryd.prog 15 := calleeG_ok mixed ok___brepkernelmade_Dice__Next Tryd.func15 (by kernel_rfl) (by kernel_rfl) e___brepkernelmade_Dice__Next

/-! __brepkernelmade_Dice__Token -/
def sg___brepkernelmade_Dice__Token : Sig := { na := 1, np := 1, hin := { items := [.slot 0, .box 0 2], shapes := [.lit (.box 0 0), .sl 1, .int Go.IntKind.i64] }, nres := 1, kept := [], nnew := 0, hout := { items := [.aggs 0 3, .box 0 2], shapes := [.int Go.IntKind.i64, .str, .int Go.IntKind.i64, .sl 1, .int Go.IntKind.i64] }, nob := 104 }
noncomputable def g___brepkernelmade_Dice__Token : List (Go.FuncId × Callee) := [(15, (calleeOf sg___brepkernelmade_Dice__Next u___brepkernelmade_Dice__Next))]
noncomputable def u___brepkernelmade_Dice__Token (t : (Unit × ((List T) × (Int × Unit)))) : Option (Int × (ByteArray × (Int × ((List T) × (Int × Unit))))) :=
  (ob (Go.Eng.u___brepkernelmade_Dice__Next ((), ((12 : Int), (t.2.1, (t.2.2.1, ()))))) fun x0 => (ob (α := ((Unit × Unit × List T × Int × Int × ByteArray × Int × Int × ByteArray × Int × Unit) ⊕ Empty)) (bif (Go.Eng.eqI (Go.Eng.wr Go.IntKind.i64 (Go.Eng.addI (1 : Int) x0.1)) (1 : Int)) then (ob (Go.Eng.u___brepkernelmade_Dice__Next ((), ((7 : Int), (x0.2.1, (x0.2.2.1, ()))))) fun x1 => (ob (Go.Eng.chkI (Go.Eng.lenL [(Go.Eng.T.v (Go.Value.string (ByteArray.mk #[65]))), (Go.Eng.T.v (Go.Value.string (ByteArray.mk #[80, 76, 65, 78, 69]))), (Go.Eng.T.v (Go.Value.string (ByteArray.mk #[65, 45, 49]))), (Go.Eng.T.v (Go.Value.string (ByteArray.mk #[90, 95, 57]))), (Go.Eng.T.v (Go.Value.string (ByteArray.mk #[69, 78, 68, 83, 69, 67]))), (Go.Eng.T.v (Go.Value.string (ByteArray.mk #[97]))), (Go.Eng.T.v (Go.Value.string (ByteArray.mk #[])))]) x1.1) fun x2 => (ob (Go.Eng.idxN [(Go.Eng.T.v (Go.Value.string (ByteArray.mk #[65]))), (Go.Eng.T.v (Go.Value.string (ByteArray.mk #[80, 76, 65, 78, 69]))), (Go.Eng.T.v (Go.Value.string (ByteArray.mk #[65, 45, 49]))), (Go.Eng.T.v (Go.Value.string (ByteArray.mk #[90, 95, 57]))), (Go.Eng.T.v (Go.Value.string (ByteArray.mk #[69, 78, 68, 83, 69, 67]))), (Go.Eng.T.v (Go.Value.string (ByteArray.mk #[97]))), (Go.Eng.T.v (Go.Value.string (ByteArray.mk #[])))] x2) fun x3 => (ob (Go.Eng.T.str? (Go.Eng.T.cell x3 0)) fun x4 => (some (Sum.inl ((), ((), (x1.2.1, (x1.2.2.1, ((0 : Int), ((ByteArray.mk #[]), ((0 : Int), ((Go.Eng.wr Go.IntKind.i64 (Go.Eng.addI (1 : Int) x0.1)), (x4, ((0 : Int), ())))))))))))))))) else (bif (Go.Eng.eqI (Go.Eng.wr Go.IntKind.i64 (Go.Eng.addI (1 : Int) x0.1)) (2 : Int)) then (ob (Go.Eng.u___brepkernelmade_Dice__Next ((), ((10 : Int), (x0.2.1, (x0.2.2.1, ()))))) fun x5 => (ob (Go.Eng.chkI (Go.Eng.lenL [(Go.Eng.T.v (Go.Value.string (ByteArray.mk #[48]))), (Go.Eng.T.v (Go.Value.string (ByteArray.mk #[45, 49]))), (Go.Eng.T.v (Go.Value.string (ByteArray.mk #[43, 49, 50]))), (Go.Eng.T.v (Go.Value.string (ByteArray.mk #[49, 46]))), (Go.Eng.T.v (Go.Value.string (ByteArray.mk #[50, 46, 53]))), (Go.Eng.T.v (Go.Value.string (ByteArray.mk #[45, 51, 46, 50, 53, 69, 50]))), (Go.Eng.T.v (Go.Value.string (ByteArray.mk #[49, 46, 69, 45, 51]))), (Go.Eng.T.v (Go.Value.string (ByteArray.mk #[48, 48, 55]))), (Go.Eng.T.v (Go.Value.string (ByteArray.mk #[49, 69, 53]))), (Go.Eng.T.v (Go.Value.string (ByteArray.mk #[46, 53])))]) x5.1) fun x6 => (ob (Go.Eng.idxN [(Go.Eng.T.v (Go.Value.string (ByteArray.mk #[48]))), (Go.Eng.T.v (Go.Value.string (ByteArray.mk #[45, 49]))), (Go.Eng.T.v (Go.Value.string (ByteArray.mk #[43, 49, 50]))), (Go.Eng.T.v (Go.Value.string (ByteArray.mk #[49, 46]))), (Go.Eng.T.v (Go.Value.string (ByteArray.mk #[50, 46, 53]))), (Go.Eng.T.v (Go.Value.string (ByteArray.mk #[45, 51, 46, 50, 53, 69, 50]))), (Go.Eng.T.v (Go.Value.string (ByteArray.mk #[49, 46, 69, 45, 51]))), (Go.Eng.T.v (Go.Value.string (ByteArray.mk #[48, 48, 55]))), (Go.Eng.T.v (Go.Value.string (ByteArray.mk #[49, 69, 53]))), (Go.Eng.T.v (Go.Value.string (ByteArray.mk #[46, 53])))] x6) fun x7 => (ob (Go.Eng.T.str? (Go.Eng.T.cell x7 0)) fun x8 => (some (Sum.inl ((), ((), (x5.2.1, (x5.2.2.1, ((0 : Int), ((ByteArray.mk #[]), ((0 : Int), ((Go.Eng.wr Go.IntKind.i64 (Go.Eng.addI (1 : Int) x0.1)), (x8, ((0 : Int), ())))))))))))))))) else (bif (Go.Eng.eqI (Go.Eng.wr Go.IntKind.i64 (Go.Eng.addI (1 : Int) x0.1)) (3 : Int)) then (ob (Go.Eng.u___brepkernelmade_Dice__Next ((), ((6 : Int), (x0.2.1, (x0.2.2.1, ()))))) fun x9 => (ob (Go.Eng.chkI (Go.Eng.lenL [(Go.Eng.T.v (Go.Value.string (ByteArray.mk #[]))), (Go.Eng.T.v (Go.Value.string (ByteArray.mk #[97, 39, 98]))), (Go.Eng.T.v (Go.Value.string (ByteArray.mk #[39, 39]))), (Go.Eng.T.v (Go.Value.string (ByteArray.mk #[120, 32, 121]))), (Go.Eng.T.v (Go.Value.string (ByteArray.mk #[47, 42]))), (Go.Eng.T.v (Go.Value.string (ByteArray.mk #[10])))]) x9.1) fun x10 => (ob (Go.Eng.idxN [(Go.Eng.T.v (Go.Value.string (ByteArray.mk #[]))), (Go.Eng.T.v (Go.Value.string (ByteArray.mk #[97, 39, 98]))), (Go.Eng.T.v (Go.Value.string (ByteArray.mk #[39, 39]))), (Go.Eng.T.v (Go.Value.string (ByteArray.mk #[120, 32, 121]))), (Go.Eng.T.v (Go.Value.string (ByteArray.mk #[47, 42]))), (Go.Eng.T.v (Go.Value.string (ByteArray.mk #[10])))] x10) fun x11 => (ob (Go.Eng.T.str? (Go.Eng.T.cell x11 0)) fun x12 => (some (Sum.inl ((), ((), (x9.2.1, (x9.2.2.1, ((0 : Int), ((ByteArray.mk #[]), ((0 : Int), ((Go.Eng.wr Go.IntKind.i64 (Go.Eng.addI (1 : Int) x0.1)), (x12, ((0 : Int), ())))))))))))))))) else (bif (Go.Eng.eqI (Go.Eng.wr Go.IntKind.i64 (Go.Eng.addI (1 : Int) x0.1)) (4 : Int)) then (ob (Go.Eng.u___brepkernelmade_Dice__Next ((), ((5 : Int), (x0.2.1, (x0.2.2.1, ()))))) fun x13 => (ob (Go.Eng.chkI (Go.Eng.lenL [(Go.Eng.T.v (Go.Value.string (ByteArray.mk #[84]))), (Go.Eng.T.v (Go.Value.string (ByteArray.mk #[70]))), (Go.Eng.T.v (Go.Value.string (ByteArray.mk #[85, 95, 49]))), (Go.Eng.T.v (Go.Value.string (ByteArray.mk #[116]))), (Go.Eng.T.v (Go.Value.string (ByteArray.mk #[65, 45, 66])))]) x13.1) fun x14 => (ob (Go.Eng.idxN [(Go.Eng.T.v (Go.Value.string (ByteArray.mk #[84]))), (Go.Eng.T.v (Go.Value.string (ByteArray.mk #[70]))), (Go.Eng.T.v (Go.Value.string (ByteArray.mk #[85, 95, 49]))), (Go.Eng.T.v (Go.Value.string (ByteArray.mk #[116]))), (Go.Eng.T.v (Go.Value.string (ByteArray.mk #[65, 45, 66])))] x14) fun x15 => (ob (Go.Eng.T.str? (Go.Eng.T.cell x15 0)) fun x16 => (some (Sum.inl ((), ((), (x13.2.1, (x13.2.2.1, ((0 : Int), ((ByteArray.mk #[]), ((0 : Int), ((Go.Eng.wr Go.IntKind.i64 (Go.Eng.addI (1 : Int) x0.1)), (x16, ((0 : Int), ())))))))))))))))) else (bif (Go.Eng.eqI (Go.Eng.wr Go.IntKind.i64 (Go.Eng.addI (1 : Int) x0.1)) (5 : Int)) then (ob (Go.Eng.u___brepkernelmade_Dice__Next ((), ((6 : Int), (x0.2.1, (x0.2.2.1, ()))))) fun x17 => (ob (Go.Eng.chkI (Go.Eng.lenL [(Go.Eng.T.v (Go.Value.string (ByteArray.mk #[49]))), (Go.Eng.T.v (Go.Value.string (ByteArray.mk #[48, 49]))), (Go.Eng.T.v (Go.Value.string (ByteArray.mk #[50, 51]))), (Go.Eng.T.v (Go.Value.string (ByteArray.mk #[50, 49, 52, 55, 52, 56, 51, 54, 52, 56]))), (Go.Eng.T.v (Go.Value.string (ByteArray.mk #[]))), (Go.Eng.T.v (Go.Value.string (ByteArray.mk #[45, 49])))]) x17.1) fun x18 => (ob (Go.Eng.idxN [(Go.Eng.T.v (Go.Value.string (ByteArray.mk #[49]))), (Go.Eng.T.v (Go.Value.string (ByteArray.mk #[48, 49]))), (Go.Eng.T.v (Go.Value.string (ByteArray.mk #[50, 51]))), (Go.Eng.T.v (Go.Value.string (ByteArray.mk #[50, 49, 52, 55, 52, 56, 51, 54, 52, 56]))), (Go.Eng.T.v (Go.Value.string (ByteArray.mk #[]))), (Go.Eng.T.v (Go.Value.string (ByteArray.mk #[45, 49])))] x18) fun x19 => (ob (Go.Eng.T.str? (Go.Eng.T.cell x19 0)) fun x20 => (some (Sum.inl ((), ((), (x17.2.1, (x17.2.2.1, ((0 : Int), ((ByteArray.mk #[]), ((0 : Int), ((Go.Eng.wr Go.IntKind.i64 (Go.Eng.addI (1 : Int) x0.1)), (x20, ((0 : Int), ())))))))))))))))) else (some (Sum.inl ((), ((), (x0.2.1, (x0.2.2.1, ((0 : Int), ((ByteArray.mk #[]), ((0 : Int), ((Go.Eng.wr Go.IntKind.i64 (Go.Eng.addI (1 : Int) x0.1)), ((ByteArray.mk #[]), ((0 : Int), ()))))))))))))))))) fun q21 => onS q21 (fun t22 => (some (t22.2.2.2.2.2.2.2.1, (t22.2.2.2.2.2.2.2.2.1, (t22.2.2.2.2.2.2.2.2.2.1, (t22.2.2.1, (t22.2.2.2.1, ()))))))) fun q23 => noS q23))
def h___brepkernelmade_Dice__Token : HT := (.seq .leaf (.seq .leaf (.seq .leaf (.seq (.join [(AEx.normal, { items := [.slot 2, .slot 4, .box 0 2, .box 3 3, .box 5 3], shapes := [.lit (Go.Eng.C.box 3 0), .lit (Go.Eng.C.box 5 0), .sl 1, .int Go.IntKind.i64, .int Go.IntKind.i64, .str, .int Go.IntKind.i64, .int Go.IntKind.i64, .str, .int Go.IntKind.i64] })] .leaf) .leaf))))
theorem ok___brepkernelmade_Dice__Token : TabOK Tryd.prog [] g___brepkernelmade_Dice__Token := (TabOK.cons ⟨_, Tryd.func15, by kernel_rfl, by kernel_rfl⟩ k___brepkernelmade_Dice__Next (calleeOf_nat _ _) (fun h => by cases h) TabOK.nil)
theorem e___brepkernelmade_Dice__Token : ∀ t, bodyG Tryd.prog g___brepkernelmade_Dice__Token [] h___brepkernelmade_Dice__Token Tryd.f8 sg___brepkernelmade_Dice__Token t = u___brepkernelmade_Dice__Token t := by
  intro t
  kernel_rfl
theorem k___brepkernelmade_Dice__Token : (calleeOf sg___brepkernelmade_Dice__Token u___brepkernelmade_Dice__Token).OK Tryd.prog 8 := calleeG_ok mixed ok___brepkernelmade_Dice__Token Tryd.func8 (by kernel_rfl) (by kernel_rfl) e___brepkernelmade_Dice__Token

/-! __brepkernelmade_Dice__Tokens -/
def sg___brepkernelmade_Dice__Tokens : Sig := { na := 2, np := 1, hin := { items := [.slot 0, .slot 1, .box 0 2], shapes := [.lit (.box 0 0), .int Go.IntKind.i64, .sl 1, .int Go.IntKind.i64] }, nres := 1, kept := [], nnew := 0, hout := { items := [.slot 0, .box 0 2], shapes := [.sl 3, .sl 1, .int Go.IntKind.i64] }, nob := 50 }
noncomputable def g___brepkernelmade_Dice__Tokens : List (Go.FuncId × Callee) := [(15, (calleeOf sg___brepkernelmade_Dice__Next u___brepkernelmade_Dice__Next)), (8, (calleeOf sg___brepkernelmade_Dice__Token u___brepkernelmade_Dice__Token)), (16, (calleeOf sg_ref23_ValidToken u_ref23_ValidToken))]
noncomputable def u___brepkernelmade_Dice__Tokens_l0 (s1 : (Unit × List T × Int × List T × Int × Unit)) : Option ((Unit × List T × Int × List T × Int × Unit) ⊕ ((List T × List T × Int × Unit) ⊕ Empty)) :=
  (bif (Go.Eng.ltI (0 : Int) s1.2.2.1) then (ob (α := ((Unit × List T × Int × List T × Int × Unit) ⊕ Empty)) (ob (Go.Eng.u___brepkernelmade_Dice__Token ((), (s1.2.2.2.1, (s1.2.2.2.2.1, ())))) fun x2 => (ob (Go.Eng.u_ref23_ValidToken (x2.1, (x2.2.1, (x2.2.2.1, ())))) fun x3 => (bif x3.1 then (ob (Go.Eng.room s1.2.1 [(Go.Eng.T.agg [(Go.Eng.T.v (Go.Value.int Go.IntKind.i64 x2.1)), (Go.Eng.T.v (Go.Value.string x2.2.1)), (Go.Eng.T.v (Go.Value.int Go.IntKind.i64 x2.2.2.1))])] 32) fun x4 => (some (Sum.inl ((), (x4, (s1.2.2.1, (x2.2.2.2.1, (x2.2.2.2.2.1, ())))))))) else (some (Sum.inl ((), (s1.2.1, (s1.2.2.1, (x2.2.2.2.1, (x2.2.2.2.2.1, ())))))))))) fun q5 => onS q5 (fun t6 => (some (Sum.inl ((), (t6.2.1, ((Go.Eng.wr Go.IntKind.i64 (Go.Eng.subI t6.2.2.1 (1 : Int))), (t6.2.2.2.1, (t6.2.2.2.2.1, ())))))))) fun q7 => noS q7) else (some (Sum.inr (Sum.inl (s1.2.1, (s1.2.2.2.1, (s1.2.2.2.2.1, ())))))))
noncomputable def u___brepkernelmade_Dice__Tokens (t : (Unit × (Int × ((List T) × (Int × Unit))))) : Option ((List T) × ((List T) × (Int × Unit))) :=
  (ob (Go.Eng.u___brepkernelmade_Dice__Next ((), ((Go.Eng.wr Go.IntKind.i64 (Go.Eng.addI t.2.1 (1 : Int))), (t.2.2.1, (t.2.2.2.1, ()))))) fun x0 => (ob (loopU u___brepkernelmade_Dice__Tokens_l0 ((), ([], (x0.1, (x0.2.1, (x0.2.2.1, ())))))) fun q8 => onS q8 (fun t9 => (some (t9.1, (t9.2.1, (t9.2.2.1, ()))))) fun q10 => noS q10))
def h___brepkernelmade_Dice__Tokens : HT := (.seq .leaf (.seq .leaf (.seq (.seq .leaf (.one (.loop { items := [.slot 0, .slot 5, .slot 6, .box 0 2], shapes := [.lit (Go.Eng.C.box 0 0), .row 29 3 24, .int Go.IntKind.i64, .sl 1, .int Go.IntKind.i64] } [((AEx.exit 0), { items := [.slot 5, .box 0 2], shapes := [.row 29 3 24, .sl 1, .int Go.IntKind.i64] })] (.seq .leaf (.seq (.join [(AEx.normal, { items := [.slot 0, .slot 5, .slot 6, .box 0 2], shapes := [.lit (Go.Eng.C.box 0 0), .row 29 3 24, .int Go.IntKind.i64, .sl 1, .int Go.IntKind.i64] })] .leaf) .leaf))))) .leaf)))
theorem ok___brepkernelmade_Dice__Tokens : TabOK Tryd.prog [16] g___brepkernelmade_Dice__Tokens := (TabOK.cons ⟨_, Tryd.func15, by kernel_rfl, by kernel_rfl⟩ k___brepkernelmade_Dice__Next (calleeOf_nat _ _) (fun h => by cases h) (TabOK.cons ⟨_, Tryd.func8, by kernel_rfl, by kernel_rfl⟩ k___brepkernelmade_Dice__Token (calleeOf_nat _ _) (fun h => by cases h) (TabOK.cons ⟨_, Tryd.func16, by kernel_rfl, by kernel_rfl⟩ k_ref23_ValidToken (calleeOf_nat _ _) (fun _ => (calleeOf_pure (by kernel_rfl))) TabOK.nil)))
theorem e___brepkernelmade_Dice__Tokens : ∀ t, bodyG Tryd.prog g___brepkernelmade_Dice__Tokens [16] h___brepkernelmade_Dice__Tokens Tryd.f9 sg___brepkernelmade_Dice__Tokens t = u___brepkernelmade_Dice__Tokens t := by
  intro t
  kernel_rfl
theorem k___brepkernelmade_Dice__Tokens : (calleeOf sg___brepkernelmade_Dice__Tokens u___brepkernelmade_Dice__Tokens).OK Tryd.prog 9 := calleeG_ok mixed ok___brepkernelmade_Dice__Tokens Tryd.func9 (by kernel_rfl) (by kernel_rfl) e___brepkernelmade_Dice__Tokens

/-! lexer_blank -/
def sg_lexer_blank : Sig := { na := 2, np := 0, hin := { items := [.slot 0, .slot 1], shapes := [.str, .int Go.IntKind.i64] }, nres := 2, kept := [], nnew := 0, hout := { items := [.slot 0, .slot 1], shapes := [.int Go.IntKind.i64, .bool] }, nob := 56 }
noncomputable def g_lexer_blank : List (Go.FuncId × Callee) := [(36, (orC (isLit 2 37) (calleeOf sg_lexer_run_blank u_lexer_run_blank) (orC (isLit 2 42) (calleeOf sg_lexer_run_digit u_lexer_run_digit) (orC (isLit 2 41) (calleeOf sg_lexer_run_word u_lexer_run_word) (calleeOf sg_lexer_run_inner u_lexer_run_inner))))), (37, (calleeOf sg_lexer_blank_1 u_lexer_blank_1)), (38, (calleeOf sg_strings_HasPrefix u_strings_HasPrefix)), (26, (calleeOf sg_strings_Index u_strings_Index))]
noncomputable def u_lexer_blank (t : (ByteArray × (Int × Unit))) : Option (Int × (Bool × Unit)) :=
  (ob (Go.Eng.u_lexer_run_blank (t.1, (t.2.1, ((), ())))) fun x0 => (ob (Go.Eng.subS t.1 x0.1 (Go.Eng.lenS t.1)) fun x1 => (ob (Go.Eng.u_strings_HasPrefix (x1, ((ByteArray.mk #[47, 42]), ()))) fun x2 => (bif (Bool.not x2.1) then (some (x0.1, (Bool.true, ()))) else (ob (Go.Eng.subS t.1 (Go.Eng.wr Go.IntKind.i64 (Go.Eng.addI x0.1 (2 : Int))) (Go.Eng.lenS t.1)) fun x3 => (ob (Go.Eng.u_strings_Index (x3, ((ByteArray.mk #[42, 47]), ()))) fun x4 => (some ((Go.Eng.wr Go.IntKind.i64 (Go.Eng.addI (Go.Eng.wr Go.IntKind.i64 (Go.Eng.addI x0.1 x4.1)) (4 : Int))), ((Go.Eng.leI (0 : Int) x4.1), ())))))))))
def h_lexer_blank : HT := .leaf
theorem ok_lexer_blank : TabOK Tryd.prog [36, 37, 38, 26] g_lexer_blank := (TabOK.cons ⟨_, Tryd.func36, by kernel_rfl, by kernel_rfl⟩ (orC_ok k_lexer_run_blank (orC_ok k_lexer_run_digit (orC_ok k_lexer_run_word k_lexer_run_inner))) (orC_nat (calleeOf_nat _ _) (orC_nat (calleeOf_nat _ _) (orC_nat (calleeOf_nat _ _) (calleeOf_nat _ _)))) (fun _ => (orC_pure (calleeOf_pure (by kernel_rfl)) (orC_pure (calleeOf_pure (by kernel_rfl)) (orC_pure (calleeOf_pure (by kernel_rfl)) (calleeOf_pure (by kernel_rfl)))))) (TabOK.cons ⟨_, Tryd.func37, by kernel_rfl, by kernel_rfl⟩ k_lexer_blank_1 (calleeOf_nat _ _) (fun _ => (calleeOf_pure (by kernel_rfl))) (TabOK.cons ⟨_, Tryd.func38, by kernel_rfl, by kernel_rfl⟩ k_strings_HasPrefix (calleeOf_nat _ _) (fun _ => (calleeOf_pure (by kernel_rfl))) (TabOK.cons ⟨_, Tryd.func26, by kernel_rfl, by kernel_rfl⟩ k_strings_Index (calleeOf_nat _ _) (fun _ => (calleeOf_pure (by kernel_rfl))) TabOK.nil))))
theorem e_lexer_blank : ∀ t, bodyG Tryd.prog g_lexer_blank [36, 37, 38, 26] h_lexer_blank Tryd.f25 sg_lexer_blank t = u_lexer_blank t := by
  intro t
  kernel_rfl
theorem k_lexer_blank : (calleeOf sg_lexer_blank u_lexer_blank).OK Tryd.prog 25 := calleeG_ok mixed ok_lexer_blank Tryd.func25 (by kernel_rfl) (by kernel_rfl) e_lexer_blank

/-! lexer_Tokens -/
def sg_lexer_Tokens : Sig := { na := 1, np := 0, hin := { items := [.slot 0], shapes := [.str] }, nres := 3, kept := [], nnew := 0, hout := { items := [.slot 0, .slot 1, .slot 2], shapes := [.sl 3, .int Go.IntKind.i64, .int Go.IntKind.i64] }, nob := 120 }
noncomputable def g_lexer_Tokens : List (Go.FuncId × Callee) := [(25, (calleeOf sg_lexer_blank u_lexer_blank)), (26, (calleeOf sg_strings_Index u_strings_Index)), (27, (calleeOf sg_lexer_token u_lexer_token))]
noncomputable def u_lexer_Tokens_l0 (s0 : (ByteArray × List T × Int × Unit)) : Option ((ByteArray × List T × Int × Unit) ⊕ ((T × Int × Int × Unit) ⊕ ((ByteArray × List T × Unit) ⊕ Empty))) :=
  (bif (Go.Eng.ltI s0.2.2.1 (Go.Eng.lenS s0.1)) then (ob (Go.Eng.u_lexer_blank (s0.1, (s0.2.2.1, ()))) fun x1 => (bif (Bool.not x1.2.1) then (ob (Go.Eng.subS s0.1 s0.2.2.1 (Go.Eng.lenS s0.1)) fun x2 => (ob (Go.Eng.u_strings_Index (x2, ((ByteArray.mk #[47, 42]), ()))) fun x3 => (some (Sum.inr (Sum.inl ((Go.Eng.T.v (Go.Value.slice (Option.none) 0 0)), ((Go.Eng.wr Go.IntKind.i64 (Go.Eng.addI x3.1 s0.2.2.1)), ((41 : Int), ())))))))) else (bif (Go.Eng.ltI s0.2.2.1 x1.1) then (some (Sum.inl (s0.1, (s0.2.1, (x1.1, ()))))) else (ob (Go.Eng.u_lexer_token (s0.1, (s0.2.2.1, ()))) fun x4 => (bif (Go.Eng.eqI x4.2.2.2.1 s0.2.2.1) then (some (Sum.inr (Sum.inl ((Go.Eng.T.v (Go.Value.slice (Option.none) 0 0)), (s0.2.2.1, ((41 : Int), ())))))) else (bif (Go.Eng.eqI (Go.Eng.lenL s0.2.1) (16384 : Int)) then (some (Sum.inr (Sum.inl ((Go.Eng.T.v (Go.Value.slice (Option.none) 0 0)), (s0.2.2.1, ((2 : Int), ())))))) else (ob (Go.Eng.room s0.2.1 [(Go.Eng.T.agg [(Go.Eng.T.v (Go.Value.int Go.IntKind.i64 x4.1)), (Go.Eng.T.v (Go.Value.string x4.2.1)), (Go.Eng.T.v (Go.Value.int Go.IntKind.i64 x4.2.2.1))])] 32) fun x5 => (some (Sum.inl (s0.1, (x5, (x4.2.2.2.1, ())))))))))))) else (some (Sum.inr (Sum.inr (Sum.inl (s0.1, (s0.2.1, ())))))))
noncomputable def u_lexer_Tokens (t : (ByteArray × Unit)) : Option ((List T) × (Int × (Int × Unit))) :=
  (bif (Go.Eng.ltI (65536 : Int) (Go.Eng.lenS t.1)) then (some ([], ((0 : Int), ((2 : Int), ())))) else (ob (loopU u_lexer_Tokens_l0 (t.1, ([], ((0 : Int), ())))) fun q6 => onS q6 (fun t7 => (ob (Go.Eng.T.sl? 3 t7.1) fun x8 => (some (x8, (t7.2.1, (t7.2.2.1, ())))))) fun q9 => onS q9 (fun t10 => (some (t10.2.1, ((Go.Eng.lenS t10.1), ((0 : Int), ()))))) fun q11 => noS q11))
def h_lexer_Tokens : HT := (.seq .leaf (.one (.seq .leaf (.seq .leaf (.seq .leaf (.seq (.seq .leaf (.one (.loop { items := [.slot 0, .slot 5, .slot 6], shapes := [.str, .row 29 3 55, .int Go.IntKind.i64] } [(AEx.ret, { items := [.slot 2, .slot 3, .slot 4], shapes := [.tree, .int Go.IntKind.i64, .int Go.IntKind.i64] }), ((AEx.exit 0), { items := [.slot 0, .slot 5], shapes := [.str, .row 29 3 55] })] .leaf))) .leaf))))))
theorem ok_lexer_Tokens : TabOK Tryd.prog [25, 26, 27] g_lexer_Tokens := (TabOK.cons ⟨_, Tryd.func25, by kernel_rfl, by kernel_rfl⟩ k_lexer_blank (calleeOf_nat _ _) (fun _ => (calleeOf_pure (by kernel_rfl))) (TabOK.cons ⟨_, Tryd.func26, by kernel_rfl, by kernel_rfl⟩ k_strings_Index (calleeOf_nat _ _) (fun _ => (calleeOf_pure (by kernel_rfl))) (TabOK.cons ⟨_, Tryd.func27, by kernel_rfl, by kernel_rfl⟩ k_lexer_token (calleeOf_nat _ _) (fun _ => (calleeOf_pure (by kernel_rfl))) TabOK.nil)))
theorem e_lexer_Tokens : ∀ t, bodyG Tryd.prog g_lexer_Tokens [25, 26, 27] h_lexer_Tokens Tryd.f14 sg_lexer_Tokens t = u_lexer_Tokens t := by
  intro t
  kernel_rfl
theorem k_lexer_Tokens : (calleeOf sg_lexer_Tokens u_lexer_Tokens).OK Tryd.prog 14 := calleeG_ok mixed ok_lexer_Tokens Tryd.func14 (by kernel_rfl) (by kernel_rfl) e_lexer_Tokens

/-! lexer_written -/
def sg_lexer_written : Sig := { na := 1, np := 0, hin := { items := [.aggs 0 3], shapes := [.int Go.IntKind.i64, .str, .int Go.IntKind.i64] }, nres := 1, kept := [], nnew := 0, hout := { items := [.slot 0], shapes := [.str] }, nob := 94 }
noncomputable def g_lexer_written : List (Go.FuncId × Callee) := [(33, (calleeOf sg_strings_ReplaceAll u_strings_ReplaceAll)), (34, (calleeOf sg_lexer_single u_lexer_single))]
noncomputable def u_lexer_written_l1 (s8 : (Unit × Int × Int × ByteArray × Int × Unit)) : Option ((Unit × Int × Int × ByteArray × Int × Unit) ⊕ ((ByteArray × Unit) ⊕ ((Unit) ⊕ Empty))) :=
  (bif (Go.Eng.ltI s8.2.1 (127 : Int)) then (ob (Go.Eng.u_lexer_single (s8.2.1, ())) fun x9 => (bif (Bool.not (Go.Eng.eqI x9.1 (0 : Int))) then (bif (Go.Eng.eqI x9.1 s8.2.2.1) then (ob (Go.Eng.strOf [(Go.Eng.T.v (Go.Value.int Go.IntKind.u8 s8.2.1))]) fun x10 => (some (Sum.inr (Sum.inl (x10, ()))))) else (some (Sum.inl ((), ((Go.Eng.wr Go.IntKind.u8 (Go.Eng.addI s8.2.1 (1 : Int))), (s8.2.2.1, (s8.2.2.2.1, (s8.2.2.2.2.1, ())))))))) else (some (Sum.inl ((), ((Go.Eng.wr Go.IntKind.u8 (Go.Eng.addI s8.2.1 (1 : Int))), (s8.2.2.1, (s8.2.2.2.1, (s8.2.2.2.2.1, ()))))))))) else (some (Sum.inr (Sum.inr (Sum.inl ())))))
noncomputable def u_lexer_written (t : (Int × (ByteArray × (Int × Unit)))) : Option (ByteArray × Unit) :=
  (ob (α := ((Unit × Int × Bool × Int × ByteArray × Int × Unit) ⊕ Empty)) (bif (Go.Eng.eqI t.1 (1 : Int)) then (some (Sum.inl ((), (t.1, ((Go.Eng.eqI t.1 (1 : Int)), (t.1, (t.2.1, (t.2.2.1, ())))))))) else (some (Sum.inl ((), (t.1, ((Go.Eng.eqI t.1 (2 : Int)), (t.1, (t.2.1, (t.2.2.1, ()))))))))) fun q0 => onS q0 (fun t1 => (bif t1.2.2.1 then (some (t1.2.2.2.2.1, ())) else (bif (Go.Eng.eqI t1.2.1 (3 : Int)) then (ob (Go.Eng.u_strings_ReplaceAll (t1.2.2.2.2.1, ((ByteArray.mk #[39]), ((ByteArray.mk #[39, 39]), ())))) fun x2 => (ob (Go.Eng.catS (ByteArray.mk #[39]) x2.1) fun x3 => (ob (Go.Eng.catS x3 (ByteArray.mk #[39])) fun x4 => (some (x4, ()))))) else (bif (Go.Eng.eqI t1.2.1 (4 : Int)) then (ob (Go.Eng.catS (ByteArray.mk #[46]) t1.2.2.2.2.1) fun x5 => (ob (Go.Eng.catS x5 (ByteArray.mk #[46])) fun x6 => (some (x6, ())))) else (bif (Go.Eng.eqI t1.2.1 (5 : Int)) then (ob (Go.Eng.catS (ByteArray.mk #[35]) t1.2.2.2.2.1) fun x7 => (some (x7, ()))) else (ob (loopU u_lexer_written_l1 ((), ((32 : Int), (t1.2.2.2.1, (t1.2.2.2.2.1, (t1.2.2.2.2.2.1, ())))))) fun q11 => onS q11 (fun t12 => (some (t12.1, ()))) fun q13 => onS q13 (fun t14 => (some ((ByteArray.mk #[]), ()))) fun q15 => noS q15)))))) fun q16 => noS q16)
def h_lexer_written : HT := (.seq .leaf (.seq (.seq .leaf (.one (.seq (.join [(AEx.normal, { items := [.slot 1, .slot 6, .slot 7, .box 1 3], shapes := [.lit (Go.Eng.C.box 1 0), .int Go.IntKind.i64, .bool, .int Go.IntKind.i64, .str, .int Go.IntKind.i64] })] .leaf) .leaf))) (.seq (.seq .leaf (.one (.loop { items := [.slot 1, .slot 3, .box 1 3], shapes := [.lit (Go.Eng.C.box 1 0), .int Go.IntKind.u8, .int Go.IntKind.i64, .str, .int Go.IntKind.i64] } [(AEx.ret, { items := [.slot 2], shapes := [.str] }), ((AEx.exit 1), { items := [], shapes := [] })] .leaf))) .leaf)))
theorem ok_lexer_written : TabOK Tryd.prog [33, 34] g_lexer_written := (TabOK.cons ⟨_, Tryd.func33, by kernel_rfl, by kernel_rfl⟩ k_strings_ReplaceAll (calleeOf_nat _ _) (fun _ => (calleeOf_pure (by kernel_rfl))) (TabOK.cons ⟨_, Tryd.func34, by kernel_rfl, by kernel_rfl⟩ k_lexer_single (calleeOf_nat _ _) (fun _ => (calleeOf_pure (by kernel_rfl))) TabOK.nil))
theorem e_lexer_written : ∀ t, bodyG Tryd.prog g_lexer_written [33, 34] h_lexer_written Tryd.f20 sg_lexer_written t = u_lexer_written t := by
  intro t
  kernel_rfl
theorem k_lexer_written : (calleeOf sg_lexer_written u_lexer_written).OK Tryd.prog 20 := calleeG_ok mixed ok_lexer_written Tryd.func20 (by kernel_rfl) (by kernel_rfl) e_lexer_written

/-! lexer_wide -/
def sg_lexer_wide : Sig := { na := 1, np := 0, hin := { items := [.slot 0], shapes := [.int Go.IntKind.i64] }, nres := 1, kept := [], nnew := 0, hout := { items := [.slot 0], shapes := [.bool] }, nob := 18 }
noncomputable def g_lexer_wide : List (Go.FuncId × Callee) := []
noncomputable def u_lexer_wide (t : (Int × Unit)) : Option (Bool × Unit) :=
  (bif (Go.Eng.leI (1 : Int) t.1) then (some ((Go.Eng.leI t.1 (5 : Int)), ())) else (some (Bool.false, ())))
def h_lexer_wide : HT := .leaf
theorem ok_lexer_wide : TabOK Tryd.prog [] g_lexer_wide := TabOK.nil
theorem e_lexer_wide : ∀ t, bodyG Tryd.prog g_lexer_wide [] h_lexer_wide Tryd.f17 sg_lexer_wide t = u_lexer_wide t := by
  intro t
  kernel_rfl
theorem k_lexer_wide : (calleeOf sg_lexer_wide u_lexer_wide).OK Tryd.prog 17 := calleeG_ok mixed ok_lexer_wide Tryd.func17 (by kernel_rfl) (by kernel_rfl) e_lexer_wide

/-! __strings_Builder__WriteByte -/
def sg___strings_Builder__WriteByte : Sig := { na := 2, np := 2, hin := { items := [.slot 0, .slot 1, .box 0 2], shapes := [.lit (.box 0 0), .int Go.IntKind.u8, .lit (.self 47), .row 5 1 1] }, nres := 1, kept := [], nnew := 1, hout := { items := [.slot 0, .box 0 2], shapes := [.tree, .lit (.self 47), .row 5 1 2] }, nob := 34 }
noncomputable def g___strings_Builder__WriteByte : List (Go.FuncId × Callee) := [(32, (calleeOf sg_copyCheck u_copyCheck))]
noncomputable def u___strings_Builder__WriteByte (t : (Unit × (Int × (Unit × ((List T) × Unit))))) : Option (T × (Unit × ((List T) × Unit))) :=
  (ob (Go.Eng.u_copyCheck ((), ((), (t.2.2.2.1, ())))) fun x0 => (ob (Go.Eng.room x0.2.1 [(Go.Eng.T.v (Go.Value.int Go.IntKind.u8 t.2.1))] 1) fun x1 => (some ((Go.Eng.T.v Go.Value.nilIface), ((), (x1, ()))))))
def h___strings_Builder__WriteByte : HT := .leaf
theorem ok___strings_Builder__WriteByte : TabOK Tryd.prog [] g___strings_Builder__WriteByte := (TabOK.cons ⟨_, Tryd.func32, by kernel_rfl, by kernel_rfl⟩ k_copyCheck (calleeOf_nat _ _) (fun h => by cases h) TabOK.nil)
theorem e___strings_Builder__WriteByte : ∀ t, bodyG Tryd.prog g___strings_Builder__WriteByte [] h___strings_Builder__WriteByte Tryd.f18 sg___strings_Builder__WriteByte t = u___strings_Builder__WriteByte t := by
  intro t
  kernel_rfl
theorem k___strings_Builder__WriteByte : (calleeOf sg___strings_Builder__WriteByte u___strings_Builder__WriteByte).OK Tryd.prog 18 := calleeG_ok mixed ok___strings_Builder__WriteByte Tryd.func18 (by kernel_rfl) (by kernel_rfl) e___strings_Builder__WriteByte

/-! __strings_Builder__WriteString -/
def sg___strings_Builder__WriteString : Sig := { na := 2, np := 2, hin := { items := [.slot 0, .slot 1, .box 0 2], shapes := [.lit (.box 0 0), .str, .lit (.self 47), .row 5 1 1] }, nres := 2, kept := [], nnew := 1, hout := { items := [.slot 0, .slot 1, .box 0 2], shapes := [.int Go.IntKind.i64, .tree, .lit (.self 47), .row 5 1 2] }, nob := 38 }
noncomputable def g___strings_Builder__WriteString : List (Go.FuncId × Callee) := [(32, (calleeOf sg_copyCheck u_copyCheck))]
noncomputable def u___strings_Builder__WriteString (t : (Unit × (ByteArray × (Unit × ((List T) × Unit))))) : Option (Int × (T × (Unit × ((List T) × Unit)))) :=
  (ob (Go.Eng.u_copyCheck ((), ((), (t.2.2.2.1, ())))) fun x0 => (ob (Go.Eng.room x0.2.1 (Go.Eng.bytesL t.2.1) 1) fun x1 => (some ((Go.Eng.lenS t.2.1), ((Go.Eng.T.v Go.Value.nilIface), ((), (x1, ())))))))
def h___strings_Builder__WriteString : HT := .leaf
theorem ok___strings_Builder__WriteString : TabOK Tryd.prog [] g___strings_Builder__WriteString := (TabOK.cons ⟨_, Tryd.func32, by kernel_rfl, by kernel_rfl⟩ k_copyCheck (calleeOf_nat _ _) (fun h => by cases h) TabOK.nil)
theorem e___strings_Builder__WriteString : ∀ t, bodyG Tryd.prog g___strings_Builder__WriteString [] h___strings_Builder__WriteString Tryd.f19 sg___strings_Builder__WriteString t = u___strings_Builder__WriteString t := by
  intro t
  kernel_rfl
theorem k___strings_Builder__WriteString : (calleeOf sg___strings_Builder__WriteString u___strings_Builder__WriteString).OK Tryd.prog 19 := calleeG_ok mixed ok___strings_Builder__WriteString Tryd.func19 (by kernel_rfl) (by kernel_rfl) e___strings_Builder__WriteString

/-! lexer_Text -/
def sg_lexer_Text : Sig := { na := 1, np := 0, hin := { items := [.slot 0], shapes := [.sl 3] }, nres := 1, kept := [], nnew := 0, hout := { items := [.slot 0], shapes := [.str] }, nob := 78 }
noncomputable def g_lexer_Text : List (Go.FuncId × Callee) := [(17, (calleeOf sg_lexer_wide u_lexer_wide)), (18, (calleeOf sg___strings_Builder__WriteByte u___strings_Builder__WriteByte)), (20, (calleeOf sg_lexer_written u_lexer_written)), (19, (calleeOf sg___strings_Builder__WriteString u___strings_Builder__WriteString)), (21, (calleeOf sg_strings_Builder__String u_strings_Builder__String))]
noncomputable def u_lexer_Text_l0 (s0 : (List T × Unit × List T × Int × Int × Unit × List T × Unit)) : Option ((List T × Unit × List T × Int × Int × Unit × List T × Unit) ⊕ ((Unit × Unit × List T × Unit) ⊕ Empty)) :=
  (bif (Go.Eng.ltI s0.2.2.2.2.1 s0.2.2.2.1) then (ob (α := ((List T × Unit × List T × Int × Int × Unit × List T × Unit) ⊕ Empty)) (ob (Go.Eng.idxL s0.2.2.1 s0.2.2.2.2.1) fun x1 => (ob (α := ((List T × Unit × Unit × List T × Int × Int × Unit × List T × T × T × T × Unit) ⊕ Empty)) (bif (Go.Eng.ltI (0 : Int) s0.2.2.2.2.1) then (ob (Go.Eng.T.int? Go.IntKind.i64 (Go.Eng.T.cell x1 0)) fun x2 => (ob (Go.Eng.u_lexer_wide (x2, ())) fun x3 => (bif x3.1 then (ob (Go.Eng.idxL s0.1 (Go.Eng.wr Go.IntKind.i64 (Go.Eng.subI s0.2.2.2.2.1 (1 : Int)))) fun x4 => (ob (Go.Eng.T.int? Go.IntKind.i64 (Go.Eng.T.cell x4 0)) fun x5 => (ob (Go.Eng.u_lexer_wide (x5, ())) fun x6 => (bif x6.1 then (ob (Go.Eng.u___strings_Builder__WriteByte ((), ((32 : Int), ((), (s0.2.2.2.2.2.2.1, ()))))) fun x7 => (some (Sum.inl (s0.1, ((), ((), (s0.2.2.1, (s0.2.2.2.1, (s0.2.2.2.2.1, ((), (x7.2.2.1, ((Go.Eng.T.cell x1 0), ((Go.Eng.T.cell x1 1), ((Go.Eng.T.cell x1 2), ())))))))))))))) else (some (Sum.inl (s0.1, ((), ((), (s0.2.2.1, (s0.2.2.2.1, (s0.2.2.2.2.1, ((), (s0.2.2.2.2.2.2.1, ((Go.Eng.T.cell x1 0), ((Go.Eng.T.cell x1 1), ((Go.Eng.T.cell x1 2), ()))))))))))))))))) else (some (Sum.inl (s0.1, ((), ((), (s0.2.2.1, (s0.2.2.2.1, (s0.2.2.2.2.1, ((), (s0.2.2.2.2.2.2.1, ((Go.Eng.T.cell x1 0), ((Go.Eng.T.cell x1 1), ((Go.Eng.T.cell x1 2), ())))))))))))))))) else (some (Sum.inl (s0.1, ((), ((), (s0.2.2.1, (s0.2.2.2.1, (s0.2.2.2.2.1, ((), (s0.2.2.2.2.2.2.1, ((Go.Eng.T.cell x1 0), ((Go.Eng.T.cell x1 1), ((Go.Eng.T.cell x1 2), ())))))))))))))) fun q8 => onS q8 (fun t9 => (ob (Go.Eng.T.int? Go.IntKind.i64 t9.2.2.2.2.2.2.2.2.1) fun x10 => (ob (Go.Eng.T.str? t9.2.2.2.2.2.2.2.2.2.1) fun x11 => (ob (Go.Eng.T.int? Go.IntKind.i64 t9.2.2.2.2.2.2.2.2.2.2.1) fun x12 => (ob (Go.Eng.u_lexer_written (x10, (x11, (x12, ())))) fun x13 => (ob (Go.Eng.u___strings_Builder__WriteString ((), (x13.1, ((), (t9.2.2.2.2.2.2.2.1, ()))))) fun x14 => (ob (Go.Eng.T.int? Go.IntKind.i64 t9.2.2.2.2.2.2.2.2.1) fun x15 => (bif (Go.Eng.eqI x15 (9 : Int)) then (ob (Go.Eng.u___strings_Builder__WriteByte ((), ((10 : Int), ((), (x14.2.2.2.1, ()))))) fun x16 => (some (Sum.inl (t9.1, ((), (t9.2.2.2.1, (t9.2.2.2.2.1, (t9.2.2.2.2.2.1, ((), (x16.2.2.1, ())))))))))) else (some (Sum.inl (t9.1, ((), (t9.2.2.2.1, (t9.2.2.2.2.1, (t9.2.2.2.2.2.1, ((), (x14.2.2.2.1, ()))))))))))))))))) fun q17 => noS q17)) fun q18 => onS q18 (fun t19 => (some (Sum.inl (t19.1, ((), (t19.2.2.1, (t19.2.2.2.1, ((Go.Eng.wr Go.IntKind.i64 (Go.Eng.addI t19.2.2.2.2.1 (1 : Int))), ((), (t19.2.2.2.2.2.2.1, ())))))))))) fun q20 => noS q20) else (some (Sum.inr (Sum.inl ((), ((), (s0.2.2.2.2.2.2.1, ())))))))
noncomputable def u_lexer_Text (t : ((List T) × Unit)) : Option (ByteArray × Unit) :=
  (ob (loopU u_lexer_Text_l0 (t.1, ((), (t.1, ((Go.Eng.lenL t.1), ((0 : Int), ((), ([], ())))))))) fun q21 => onS q21 (fun t22 => (ob (Go.Eng.u_strings_Builder__String ((), ((), (t22.2.2.1, ())))) fun x23 => (some (x23.1, ())))) fun q24 => noS q24)
def h_lexer_Text : HT := (.seq .leaf (.seq .leaf (.seq (.seq .leaf (.one (.loop { items := [.slot 0, .slot 3, .slot 6, .slot 7, .slot 8, .box 3 2], shapes := [.sl 3, .lit (Go.Eng.C.box 3 0), .sl 3, .int Go.IntKind.i64, .int Go.IntKind.i64, .lit (Go.Eng.C.self 47), .row 5 1 36] } [((AEx.exit 0), { items := [.slot 3, .box 3 2], shapes := [.lit (Go.Eng.C.box 3 0), .lit (Go.Eng.C.self 47), .row 5 1 36] })] (.seq .leaf (.seq .leaf (.seq (.join [(AEx.normal, { items := [.slot 0, .slot 3, .slot 6, .slot 7, .slot 8, .box 3 2], shapes := [.sl 3, .lit (Go.Eng.C.box 3 0), .sl 3, .int Go.IntKind.i64, .int Go.IntKind.i64, .lit (Go.Eng.C.self 47), .row 5 1 36] })] (.one (.seq .leaf (.seq (.join [(AEx.normal, { items := [.slot 0, .slot 3, .slot 5, .slot 6, .slot 7, .slot 8, .box 3 2, .box 5 3], shapes := [.sl 3, .lit (Go.Eng.C.box 3 0), .lit (Go.Eng.C.box 5 0), .sl 3, .int Go.IntKind.i64, .int Go.IntKind.i64, .lit (Go.Eng.C.self 47), .row 5 1 29, .tree, .tree, .tree] })] .leaf) .leaf)))) .leaf)))))) .leaf)))
theorem ok_lexer_Text : TabOK Tryd.prog [17, 20] g_lexer_Text := (TabOK.cons ⟨_, Tryd.func17, by kernel_rfl, by kernel_rfl⟩ k_lexer_wide (calleeOf_nat _ _) (fun _ => (calleeOf_pure (by kernel_rfl))) (TabOK.cons ⟨_, Tryd.func18, by kernel_rfl, by kernel_rfl⟩ k___strings_Builder__WriteByte (calleeOf_nat _ _) (fun h => by cases h) (TabOK.cons ⟨_, Tryd.func20, by kernel_rfl, by kernel_rfl⟩ k_lexer_written (calleeOf_nat _ _) (fun _ => (calleeOf_pure (by kernel_rfl))) (TabOK.cons ⟨_, Tryd.func19, by kernel_rfl, by kernel_rfl⟩ k___strings_Builder__WriteString (calleeOf_nat _ _) (fun h => by cases h) (TabOK.cons ⟨_, Tryd.func21, by kernel_rfl, by kernel_rfl⟩ k_strings_Builder__String (calleeOf_nat _ _) (fun h => by cases h) TabOK.nil)))))
theorem e_lexer_Text : ∀ t, bodyG Tryd.prog g_lexer_Text [17, 20] h_lexer_Text Tryd.f10 sg_lexer_Text t = u_lexer_Text t := by
  intro t
  kernel_rfl
theorem k_lexer_Text : (calleeOf sg_lexer_Text u_lexer_Text).OK Tryd.prog 10 := calleeG_ok mixed ok_lexer_Text Tryd.func10 (by kernel_rfl) (by kernel_rfl) e_lexer_Text

/-! lexer_valid -/
def sg_lexer_valid : Sig := { na := 1, np := 0, hin := { items := [.aggs 0 3], shapes := [.int Go.IntKind.i64, .str, .int Go.IntKind.i64] }, nres := 1, kept := [], nnew := 0, hout := { items := [.slot 0], shapes := [.bool] }, nob := 102 }
noncomputable def g_lexer_valid : List (Go.FuncId × Callee) := [(17, (calleeOf sg_lexer_wide u_lexer_wide)), (20, (calleeOf sg_lexer_written u_lexer_written)), (27, (calleeOf sg_lexer_token u_lexer_token))]
noncomputable def u_lexer_valid (t : (Int × (ByteArray × (Int × Unit)))) : Option (Bool × Unit) :=
  (bif (Go.Eng.ltI t.1 (1 : Int)) then (some (Bool.false, ())) else (bif (Go.Eng.ltI (12 : Int) t.1) then (some (Bool.false, ())) else (ob (Go.Eng.u_lexer_wide (t.1, ())) fun x0 => (bif (Bool.not x0.1) then (bif (Bool.not (Go.Eng.eqS t.2.1 (ByteArray.mk #[]))) then (some (Bool.false, ())) else (ob (Go.Eng.u_lexer_written (t.1, (t.2.1, (t.2.2.1, ())))) fun x1 => (ob (Go.Eng.catS x1.1 (ByteArray.mk #[32])) fun x2 => (ob (Go.Eng.u_lexer_token (x2, ((0 : Int), ()))) fun x3 => (bif (Go.Eng.eqI x3.2.2.2.1 (Go.Eng.lenS x1.1)) then (bif (Go.Eng.eqI x3.1 t.1) then (some ((Go.Eng.eqS x3.2.1 t.2.1), ())) else (some (Bool.false, ()))) else (some (Bool.false, ()))))))) else (ob (Go.Eng.u_lexer_written (t.1, (t.2.1, (t.2.2.1, ())))) fun x4 => (ob (Go.Eng.catS x4.1 (ByteArray.mk #[32])) fun x5 => (ob (Go.Eng.u_lexer_token (x5, ((0 : Int), ()))) fun x6 => (bif (Go.Eng.eqI x6.2.2.2.1 (Go.Eng.lenS x4.1)) then (bif (Go.Eng.eqI x6.1 t.1) then (some ((Go.Eng.eqS x6.2.1 t.2.1), ())) else (some (Bool.false, ()))) else (some (Bool.false, ()))))))))))
def h_lexer_valid : HT := .leaf
theorem ok_lexer_valid : TabOK Tryd.prog [17, 20, 27] g_lexer_valid := (TabOK.cons ⟨_, Tryd.func17, by kernel_rfl, by kernel_rfl⟩ k_lexer_wide (calleeOf_nat _ _) (fun _ => (calleeOf_pure (by kernel_rfl))) (TabOK.cons ⟨_, Tryd.func20, by kernel_rfl, by kernel_rfl⟩ k_lexer_written (calleeOf_nat _ _) (fun _ => (calleeOf_pure (by kernel_rfl))) (TabOK.cons ⟨_, Tryd.func27, by kernel_rfl, by kernel_rfl⟩ k_lexer_token (calleeOf_nat _ _) (fun _ => (calleeOf_pure (by kernel_rfl))) TabOK.nil)))
theorem e_lexer_valid : ∀ t, bodyG Tryd.prog g_lexer_valid [17, 20, 27] h_lexer_valid Tryd.f24 sg_lexer_valid t = u_lexer_valid t := by
  intro t
  kernel_rfl
theorem k_lexer_valid : (calleeOf sg_lexer_valid u_lexer_valid).OK Tryd.prog 24 := calleeG_ok mixed ok_lexer_valid Tryd.func24 (by kernel_rfl) (by kernel_rfl) e_lexer_valid

/-! lexer_Valid -/
def sg_lexer_Valid : Sig := { na := 1, np := 0, hin := { items := [.slot 0], shapes := [.sl 3] }, nres := 1, kept := [], nnew := 0, hout := { items := [.slot 0], shapes := [.bool] }, nob := 30 }
noncomputable def g_lexer_Valid : List (Go.FuncId × Callee) := [(24, (calleeOf sg_lexer_valid u_lexer_valid))]
noncomputable def u_lexer_Valid_l0 (s0 : (List T × Int × Int × Unit)) : Option ((List T × Int × Int × Unit) ⊕ ((Bool × Unit) ⊕ ((Unit) ⊕ Empty))) :=
  (bif (Go.Eng.ltI s0.2.2.1 s0.2.1) then (ob (Go.Eng.idxL s0.1 s0.2.2.1) fun x1 => (ob (Go.Eng.T.int? Go.IntKind.i64 (Go.Eng.T.cell x1 0)) fun x2 => (ob (Go.Eng.T.str? (Go.Eng.T.cell x1 1)) fun x3 => (ob (Go.Eng.T.int? Go.IntKind.i64 (Go.Eng.T.cell x1 2)) fun x4 => (ob (Go.Eng.u_lexer_valid (x2, (x3, (x4, ())))) fun x5 => (bif (Bool.not x5.1) then (some (Sum.inr (Sum.inl (Bool.false, ())))) else (some (Sum.inl (s0.1, (s0.2.1, ((Go.Eng.wr Go.IntKind.i64 (Go.Eng.addI s0.2.2.1 (1 : Int))), ()))))))))))) else (some (Sum.inr (Sum.inr (Sum.inl ())))))
noncomputable def u_lexer_Valid (t : ((List T) × Unit)) : Option (Bool × Unit) :=
  (ob (loopU u_lexer_Valid_l0 (t.1, ((Go.Eng.lenL t.1), ((0 : Int), ())))) fun q6 => onS q6 (fun t7 => (some (t7.1, ()))) fun q8 => onS q8 (fun t9 => (some (Bool.true, ()))) fun q10 => noS q10)
def h_lexer_Valid : HT := (.seq .leaf (.seq (.seq .leaf (.one (.loop { items := [.slot 5, .slot 6, .slot 7], shapes := [.sl 3, .int Go.IntKind.i64, .int Go.IntKind.i64] } [(AEx.ret, { items := [.slot 2], shapes := [.bool] }), ((AEx.exit 0), { items := [], shapes := [] })] .leaf))) .leaf))
theorem ok_lexer_Valid : TabOK Tryd.prog [24] g_lexer_Valid := (TabOK.cons ⟨_, Tryd.func24, by kernel_rfl, by kernel_rfl⟩ k_lexer_valid (calleeOf_nat _ _) (fun _ => (calleeOf_pure (by kernel_rfl))) TabOK.nil)
theorem e_lexer_Valid : ∀ t, bodyG Tryd.prog g_lexer_Valid [24] h_lexer_Valid Tryd.f12 sg_lexer_Valid t = u_lexer_Valid t := by
  intro t
  kernel_rfl
theorem k_lexer_Valid : (calleeOf sg_lexer_Valid u_lexer_Valid).OK Tryd.prog 12 := calleeG_ok mixed ok_lexer_Valid Tryd.func12 (by kernel_rfl) (by kernel_rfl) e_lexer_Valid

/-! ref23_Valid -/
def sg_ref23_Valid : Sig := { na := 1, np := 0, hin := { items := [.slot 0], shapes := [.sl 3] }, nres := 1, kept := [], nnew := 0, hout := { items := [.slot 0], shapes := [.bool] }, nob := 32 }
noncomputable def g_ref23_Valid : List (Go.FuncId × Callee) := [(16, (calleeOf sg_ref23_ValidToken u_ref23_ValidToken))]
noncomputable def u_ref23_Valid_l0 (s0 : (List T × Int × Unit)) : Option ((List T × Int × Unit) ⊕ ((Bool × Unit) ⊕ ((Unit) ⊕ Empty))) :=
  (bif (Go.Eng.ltI s0.2.1 (Go.Eng.lenL s0.1)) then (ob (Go.Eng.idxL s0.1 s0.2.1) fun x1 => (ob (Go.Eng.T.int? Go.IntKind.i64 (Go.Eng.T.cell x1 0)) fun x2 => (ob (Go.Eng.T.str? (Go.Eng.T.cell x1 1)) fun x3 => (ob (Go.Eng.T.int? Go.IntKind.i64 (Go.Eng.T.cell x1 2)) fun x4 => (ob (Go.Eng.u_ref23_ValidToken (x2, (x3, (x4, ())))) fun x5 => (bif (Bool.not x5.1) then (some (Sum.inr (Sum.inl (Bool.false, ())))) else (some (Sum.inl (s0.1, ((Go.Eng.wr Go.IntKind.i64 (Go.Eng.addI s0.2.1 (1 : Int))), ())))))))))) else (some (Sum.inr (Sum.inr (Sum.inl ())))))
noncomputable def u_ref23_Valid (t : ((List T) × Unit)) : Option (Bool × Unit) :=
  (ob (loopU u_ref23_Valid_l0 (t.1, ((0 : Int), ()))) fun q6 => onS q6 (fun t7 => (some (t7.1, ()))) fun q8 => onS q8 (fun t9 => (some (Bool.true, ()))) fun q10 => noS q10)
def h_ref23_Valid : HT := (.seq .leaf (.seq (.seq .leaf (.one (.loop { items := [.slot 0, .slot 3], shapes := [.sl 3, .int Go.IntKind.i64] } [(AEx.ret, { items := [.slot 2], shapes := [.bool] }), ((AEx.exit 0), { items := [], shapes := [] })] .leaf))) .leaf))
theorem ok_ref23_Valid : TabOK Tryd.prog [16] g_ref23_Valid := (TabOK.cons ⟨_, Tryd.func16, by kernel_rfl, by kernel_rfl⟩ k_ref23_ValidToken (calleeOf_nat _ _) (fun _ => (calleeOf_pure (by kernel_rfl))) TabOK.nil)
theorem e_ref23_Valid : ∀ t, bodyG Tryd.prog g_ref23_Valid [16] h_ref23_Valid Tryd.f13 sg_ref23_Valid t = u_ref23_Valid t := by
  intro t
  kernel_rfl
theorem k_ref23_Valid : (calleeOf sg_ref23_Valid u_ref23_Valid).OK Tryd.prog 13 := calleeG_ok mixed ok_ref23_Valid Tryd.func13 (by kernel_rfl) (by kernel_rfl) e_ref23_Valid

/-! brepkernellaw23_sane -/
def sg_brepkernellaw23_sane : Sig := { na := 0, np := 0, hin := { items := [], shapes := [] }, nres := 1, kept := [], nnew := 0, hout := { items := [.slot 0], shapes := [.bool] }, nob := 96 }
noncomputable def g_brepkernellaw23_sane : List (Go.FuncId × Callee) := [(14, (calleeOf sg_lexer_Tokens u_lexer_Tokens))]
noncomputable def u_brepkernellaw23_sane (t : Unit) : Option (Bool × Unit) :=
  (ob (Go.Eng.u_lexer_Tokens ((ByteArray.mk #[35, 49, 61, 88, 40, 39, 97, 39, 39, 98, 39, 44, 46, 84, 46, 44, 45, 49, 46, 53, 69, 50, 41, 59]), ())) fun x0 => (bif (Go.Eng.eqI x0.2.2.1 (0 : Int)) then (bif (Go.Eng.eqI x0.2.1 (24 : Int)) then (bif (Go.Eng.eqI (Go.Eng.lenL x0.1) (11 : Int)) then (ob (Go.Eng.idxL x0.1 (0 : Int)) fun x1 => (ob (Go.Eng.T.str? (Go.Eng.T.cell x1 1)) fun x2 => (bif (Go.Eng.eqS x2 (ByteArray.mk #[49])) then (ob (Go.Eng.idxL x0.1 (4 : Int)) fun x3 => (ob (Go.Eng.T.str? (Go.Eng.T.cell x3 1)) fun x4 => (bif (Go.Eng.eqS x4 (ByteArray.mk #[97, 39, 98])) then (ob (Go.Eng.idxL x0.1 (8 : Int)) fun x5 => (ob (Go.Eng.T.str? (Go.Eng.T.cell x5 1)) fun x6 => (bif (Go.Eng.eqS x6 (ByteArray.mk #[45, 49, 46, 53, 69, 50])) then (ob (Go.Eng.idxL x0.1 (10 : Int)) fun x7 => (ob (Go.Eng.T.int? Go.IntKind.i64 (Go.Eng.T.cell x7 0)) fun x8 => (some ((Go.Eng.eqI x8 (9 : Int)), ())))) else (some (Bool.false, ()))))) else (some (Bool.false, ()))))) else (some (Bool.false, ()))))) else (some (Bool.false, ()))) else (some (Bool.false, ()))) else (some (Bool.false, ()))))
def h_brepkernellaw23_sane : HT := .leaf
theorem ok_brepkernellaw23_sane : TabOK Tryd.prog [] g_brepkernellaw23_sane := (TabOK.cons ⟨_, Tryd.func14, by kernel_rfl, by kernel_rfl⟩ k_lexer_Tokens (calleeOf_nat _ _) (fun h => by cases h) TabOK.nil)
theorem e_brepkernellaw23_sane : ∀ t, bodyG Tryd.prog g_brepkernellaw23_sane [] h_brepkernellaw23_sane Tryd.f6 sg_brepkernellaw23_sane t = u_brepkernellaw23_sane t := by
  intro t
  kernel_rfl
theorem k_brepkernellaw23_sane : (calleeOf sg_brepkernellaw23_sane u_brepkernellaw23_sane).OK Tryd.prog 6 := calleeG_ok mixed ok_brepkernellaw23_sane Tryd.func6 (by kernel_rfl) (by kernel_rfl) e_brepkernellaw23_sane

/-! brepkernellaw23_LexerTexts -/
def sg_brepkernellaw23_LexerTexts : Sig := { na := 2, np := 0, hin := { items := [.slot 0, .slot 1], shapes := [.sl 1, .sl 3] }, nres := 1, kept := [], nnew := 0, hout := { items := [.slot 0], shapes := [.bool] }, nob := 102 }
noncomputable def g_brepkernellaw23_LexerTexts : List (Go.FuncId × Callee) := [(5, (calleeOf sg_brepkernelmade_Light u_brepkernelmade_Light)), (6, (calleeOf sg_brepkernellaw23_sane u_brepkernellaw23_sane)), (7, (calleeOf sg_brepkernelmade_Roll u_brepkernelmade_Roll)), (8, (calleeOf sg___brepkernelmade_Dice__Token u___brepkernelmade_Dice__Token)), (9, (calleeOf sg___brepkernelmade_Dice__Tokens u___brepkernelmade_Dice__Tokens)), (10, (calleeOf sg_lexer_Text u_lexer_Text)), (11, (calleeOf sg_ref23_Text u_ref23_Text)), (12, (calleeOf sg_lexer_Valid u_lexer_Valid)), (13, (calleeOf sg_ref23_Valid u_ref23_Valid))]
noncomputable def u_brepkernellaw23_LexerTexts_l0 (s8 : (List T × Int × Int × Unit)) : Option ((List T × Int × Int × Unit) ⊕ ((Bool × Unit) ⊕ ((Unit) ⊕ Empty))) :=
  (bif (Go.Eng.ltI s8.2.2.1 s8.2.1) then (ob (Go.Eng.chkI (Go.Eng.lenL s8.1) s8.2.2.1) fun x9 => (ob (Go.Eng.idxN s8.1 x9) fun x10 => (ob (Go.Eng.T.sl? 3 (Go.Eng.T.cell x10 0)) fun x11 => (ob (Go.Eng.u_lexer_Text (x11, ())) fun x12 => (ob (Go.Eng.T.sl? 3 (Go.Eng.T.cell x10 0)) fun x13 => (ob (Go.Eng.u_ref23_Text (x13, ())) fun x14 => (bif (Bool.not (Go.Eng.eqS x12.1 x14.1)) then (some (Sum.inr (Sum.inl (Bool.false, ())))) else (ob (Go.Eng.T.sl? 3 (Go.Eng.T.cell x10 0)) fun x15 => (ob (Go.Eng.u_lexer_Valid (x15, ())) fun x16 => (ob (Go.Eng.T.sl? 3 (Go.Eng.T.cell x10 0)) fun x17 => (ob (Go.Eng.u_ref23_Valid (x17, ())) fun x18 => (bif (Bool.not (Go.Eng.eqB x16.1 x18.1)) then (some (Sum.inr (Sum.inl (Bool.false, ())))) else (some (Sum.inl (s8.1, (s8.2.1, ((Go.Eng.wr Go.IntKind.i64 (Go.Eng.addI s8.2.2.1 (1 : Int))), ()))))))))))))))))) else (some (Sum.inr (Sum.inr (Sum.inl ())))))
noncomputable def u_brepkernellaw23_LexerTexts (t : ((List T) × ((List T) × Unit))) : Option (Bool × Unit) :=
  (ob (Go.Eng.u_brepkernelmade_Light (t.1, ())) fun x0 => (bif (Bool.not x0.1) then (ob (Go.Eng.u_brepkernellaw23_sane ()) fun x1 => (some (x1.1, ()))) else (bif (Go.Eng.ltI (100 : Int) (Go.Eng.lenL t.2.1)) then (ob (Go.Eng.u_brepkernellaw23_sane ()) fun x2 => (some (x2.1, ()))) else (ob (Go.Eng.u_brepkernelmade_Roll (t.1, ())) fun x3 => (ob (Go.Eng.u___brepkernelmade_Dice__Token ((), (x3.1, (x3.2.1, ())))) fun x4 => (ob (Go.Eng.u___brepkernelmade_Dice__Token ((), (x4.2.2.2.1, (x4.2.2.2.2.1, ())))) fun x5 => (ob (Go.Eng.u___brepkernelmade_Dice__Token ((), (x5.2.2.2.1, (x5.2.2.2.2.1, ())))) fun x6 => (ob (Go.Eng.u___brepkernelmade_Dice__Tokens ((), ((6 : Int), (x6.2.2.2.1, (x6.2.2.2.2.1, ()))))) fun x7 => (ob (loopU u_brepkernellaw23_LexerTexts_l0 ([(Go.Eng.T.sl 3 t.2.1), (Go.Eng.T.sl 3 [(Go.Eng.T.agg [(Go.Eng.T.v (Go.Value.int Go.IntKind.i64 x4.1)), (Go.Eng.T.v (Go.Value.string x4.2.1)), (Go.Eng.T.v (Go.Value.int Go.IntKind.i64 x4.2.2.1))]), (Go.Eng.T.agg [(Go.Eng.T.v (Go.Value.int Go.IntKind.i64 x5.1)), (Go.Eng.T.v (Go.Value.string x5.2.1)), (Go.Eng.T.v (Go.Value.int Go.IntKind.i64 x5.2.2.1))]), (Go.Eng.T.agg [(Go.Eng.T.v (Go.Value.int Go.IntKind.i64 x6.1)), (Go.Eng.T.v (Go.Value.string x6.2.1)), (Go.Eng.T.v (Go.Value.int Go.IntKind.i64 x6.2.2.1))])]), (Go.Eng.T.sl 3 x7.1)], ((Go.Eng.lenL [(Go.Eng.T.sl 3 t.2.1), (Go.Eng.T.sl 3 [(Go.Eng.T.agg [(Go.Eng.T.v (Go.Value.int Go.IntKind.i64 x4.1)), (Go.Eng.T.v (Go.Value.string x4.2.1)), (Go.Eng.T.v (Go.Value.int Go.IntKind.i64 x4.2.2.1))]), (Go.Eng.T.agg [(Go.Eng.T.v (Go.Value.int Go.IntKind.i64 x5.1)), (Go.Eng.T.v (Go.Value.string x5.2.1)), (Go.Eng.T.v (Go.Value.int Go.IntKind.i64 x5.2.2.1))]), (Go.Eng.T.agg [(Go.Eng.T.v (Go.Value.int Go.IntKind.i64 x6.1)), (Go.Eng.T.v (Go.Value.string x6.2.1)), (Go.Eng.T.v (Go.Value.int Go.IntKind.i64 x6.2.2.1))])]), (Go.Eng.T.sl 3 x7.1)]), ((0 : Int), ())))) fun q19 => onS q19 (fun t20 => (some (t20.1, ()))) fun q21 => onS q21 (fun t22 => (ob (Go.Eng.u_brepkernellaw23_sane ()) fun x23 => (some (x23.1, ())))) fun q24 => noS q24)))))))))
def h_brepkernellaw23_LexerTexts : HT := (.seq .leaf (.seq .leaf (.seq .leaf (.seq .leaf (.seq (.seq .leaf (.one (.loop { items := [.slot 31, .slot 32, .slot 33], shapes := [.row 23 1 31, .int Go.IntKind.i64, .int Go.IntKind.i64] } [(AEx.ret, { items := [.slot 4], shapes := [.bool] }), ((AEx.exit 0), { items := [], shapes := [] })] .leaf))) .leaf)))))
theorem ok_brepkernellaw23_LexerTexts : TabOK Tryd.prog [5, 6, 10, 11, 12, 13] g_brepkernellaw23_LexerTexts := (TabOK.cons ⟨_, Tryd.func5, by kernel_rfl, by kernel_rfl⟩ k_brepkernelmade_Light (calleeOf_nat _ _) (fun _ => (calleeOf_pure (by kernel_rfl))) (TabOK.cons ⟨_, Tryd.func6, by kernel_rfl, by kernel_rfl⟩ k_brepkernellaw23_sane (calleeOf_nat _ _) (fun _ => (calleeOf_pure (by kernel_rfl))) (TabOK.cons ⟨_, Tryd.func7, by kernel_rfl, by kernel_rfl⟩ k_brepkernelmade_Roll (calleeOf_nat _ _) (fun h => by cases h) (TabOK.cons ⟨_, Tryd.func8, by kernel_rfl, by kernel_rfl⟩ k___brepkernelmade_Dice__Token (calleeOf_nat _ _) (fun h => by cases h) (TabOK.cons ⟨_, Tryd.func9, by kernel_rfl, by kernel_rfl⟩ k___brepkernelmade_Dice__Tokens (calleeOf_nat _ _) (fun h => by cases h) (TabOK.cons ⟨_, Tryd.func10, by kernel_rfl, by kernel_rfl⟩ k_lexer_Text (calleeOf_nat _ _) (fun _ => (calleeOf_pure (by kernel_rfl))) (TabOK.cons ⟨_, Tryd.func11, by kernel_rfl, by kernel_rfl⟩ k_ref23_Text (calleeOf_nat _ _) (fun _ => (calleeOf_pure (by kernel_rfl))) (TabOK.cons ⟨_, Tryd.func12, by kernel_rfl, by kernel_rfl⟩ k_lexer_Valid (calleeOf_nat _ _) (fun _ => (calleeOf_pure (by kernel_rfl))) (TabOK.cons ⟨_, Tryd.func13, by kernel_rfl, by kernel_rfl⟩ k_ref23_Valid (calleeOf_nat _ _) (fun _ => (calleeOf_pure (by kernel_rfl))) TabOK.nil)))))))))
theorem e_brepkernellaw23_LexerTexts : ∀ t, bodyG Tryd.prog g_brepkernellaw23_LexerTexts [5, 6, 10, 11, 12, 13] h_brepkernellaw23_LexerTexts Tryd.f3 sg_brepkernellaw23_LexerTexts t = u_brepkernellaw23_LexerTexts t := by
  intro t
  kernel_rfl
theorem k_brepkernellaw23_LexerTexts : (calleeOf sg_brepkernellaw23_LexerTexts u_brepkernellaw23_LexerTexts).OK Tryd.prog 3 := calleeG_ok mixed ok_brepkernellaw23_LexerTexts Tryd.func3 (by kernel_rfl) (by kernel_rfl) e_brepkernellaw23_LexerTexts

/-! brepkernellaw23_LexerBack -/
def sg_brepkernellaw23_LexerBack : Sig := { na := 1, np := 0, hin := { items := [.slot 0], shapes := [.sl 1] }, nres := 1, kept := [], nnew := 0, hout := { items := [.slot 0], shapes := [.bool] }, nob := 134 }
noncomputable def g_brepkernellaw23_LexerBack : List (Go.FuncId × Callee) := [(5, (calleeOf sg_brepkernelmade_Light u_brepkernelmade_Light)), (6, (calleeOf sg_brepkernellaw23_sane u_brepkernellaw23_sane)), (7, (calleeOf sg_brepkernelmade_Roll u_brepkernelmade_Roll)), (9, (calleeOf sg___brepkernelmade_Dice__Tokens u___brepkernelmade_Dice__Tokens)), (10, (calleeOf sg_lexer_Text u_lexer_Text)), (14, (calleeOf sg_lexer_Tokens u_lexer_Tokens)), (12, (calleeOf sg_lexer_Valid u_lexer_Valid))]
noncomputable def u_brepkernellaw23_LexerBack_l0 (s7 : (List T × List T × Int × Int × Unit)) : Option ((List T × List T × Int × Int × Unit) ⊕ ((Bool × Unit) ⊕ ((Unit) ⊕ Empty))) :=
  (bif (Go.Eng.ltI s7.2.2.2.1 s7.2.2.1) then (ob (Go.Eng.idxL s7.1 s7.2.2.2.1) fun x8 => (ob (Go.Eng.idxL s7.2.1 s7.2.2.2.1) fun x9 => (ob (Go.Eng.T.int? Go.IntKind.i64 (Go.Eng.T.cell x8 0)) fun x10 => (ob (Go.Eng.T.int? Go.IntKind.i64 (Go.Eng.T.cell x9 0)) fun x11 => (bif (Bool.not (Go.Eng.eqI x10 x11)) then (some (Sum.inr (Sum.inl (Bool.false, ())))) else (ob (Go.Eng.idxL s7.1 s7.2.2.2.1) fun x12 => (ob (Go.Eng.idxL s7.2.1 s7.2.2.2.1) fun x13 => (ob (Go.Eng.T.str? (Go.Eng.T.cell x12 1)) fun x14 => (ob (Go.Eng.T.str? (Go.Eng.T.cell x13 1)) fun x15 => (bif (Bool.not (Go.Eng.eqS x14 x15)) then (some (Sum.inr (Sum.inl (Bool.false, ())))) else (some (Sum.inl (s7.1, (s7.2.1, (s7.2.2.1, ((Go.Eng.wr Go.IntKind.i64 (Go.Eng.addI s7.2.2.2.1 (1 : Int))), ())))))))))))))))) else (some (Sum.inr (Sum.inr (Sum.inl ())))))
noncomputable def u_brepkernellaw23_LexerBack (t : ((List T) × Unit)) : Option (Bool × Unit) :=
  (ob (Go.Eng.u_brepkernelmade_Light (t.1, ())) fun x0 => (bif (Bool.not x0.1) then (ob (Go.Eng.u_brepkernellaw23_sane ()) fun x1 => (some (x1.1, ()))) else (ob (Go.Eng.u_brepkernelmade_Roll (t.1, ())) fun x2 => (ob (Go.Eng.u___brepkernelmade_Dice__Tokens ((), ((14 : Int), (x2.1, (x2.2.1, ()))))) fun x3 => (ob (Go.Eng.u_lexer_Text (x3.1, ())) fun x4 => (ob (Go.Eng.u_lexer_Tokens (x4.1, ())) fun x5 => (bif (Bool.not (Go.Eng.eqI x5.2.2.1 (0 : Int))) then (some (Bool.false, ())) else (bif (Bool.not (Go.Eng.eqI (Go.Eng.lenL x3.1) (Go.Eng.lenL x5.1))) then (some (Bool.false, ())) else (ob (Go.Eng.u_lexer_Valid (x5.1, ())) fun x6 => (bif (Bool.not x6.1) then (some (Bool.false, ())) else (ob (loopU u_brepkernellaw23_LexerBack_l0 (x3.1, (x5.1, ((Go.Eng.lenL x3.1), ((0 : Int), ()))))) fun q16 => onS q16 (fun t17 => (some (t17.1, ()))) fun q18 => onS q18 (fun t19 => (ob (Go.Eng.u_brepkernellaw23_sane ()) fun x20 => (some (x20.1, ())))) fun q21 => noS q21)))))))))))
def h_brepkernellaw23_LexerBack : HT := (.seq .leaf (.seq .leaf (.seq .leaf (.seq .leaf (.seq .leaf (.seq (.seq .leaf (.one (.loop { items := [.slot 3, .slot 4, .slot 37, .slot 38], shapes := [.sl 3, .sl 3, .int Go.IntKind.i64, .int Go.IntKind.i64] } [(AEx.ret, { items := [.slot 2], shapes := [.bool] }), ((AEx.exit 0), { items := [], shapes := [] })] .leaf))) .leaf))))))
theorem ok_brepkernellaw23_LexerBack : TabOK Tryd.prog [5, 6, 10, 12] g_brepkernellaw23_LexerBack := (TabOK.cons ⟨_, Tryd.func5, by kernel_rfl, by kernel_rfl⟩ k_brepkernelmade_Light (calleeOf_nat _ _) (fun _ => (calleeOf_pure (by kernel_rfl))) (TabOK.cons ⟨_, Tryd.func6, by kernel_rfl, by kernel_rfl⟩ k_brepkernellaw23_sane (calleeOf_nat _ _) (fun _ => (calleeOf_pure (by kernel_rfl))) (TabOK.cons ⟨_, Tryd.func7, by kernel_rfl, by kernel_rfl⟩ k_brepkernelmade_Roll (calleeOf_nat _ _) (fun h => by cases h) (TabOK.cons ⟨_, Tryd.func9, by kernel_rfl, by kernel_rfl⟩ k___brepkernelmade_Dice__Tokens (calleeOf_nat _ _) (fun h => by cases h) (TabOK.cons ⟨_, Tryd.func10, by kernel_rfl, by kernel_rfl⟩ k_lexer_Text (calleeOf_nat _ _) (fun _ => (calleeOf_pure (by kernel_rfl))) (TabOK.cons ⟨_, Tryd.func14, by kernel_rfl, by kernel_rfl⟩ k_lexer_Tokens (calleeOf_nat _ _) (fun h => by cases h) (TabOK.cons ⟨_, Tryd.func12, by kernel_rfl, by kernel_rfl⟩ k_lexer_Valid (calleeOf_nat _ _) (fun _ => (calleeOf_pure (by kernel_rfl))) TabOK.nil)))))))
theorem e_brepkernellaw23_LexerBack : ∀ t, bodyG Tryd.prog g_brepkernellaw23_LexerBack [5, 6, 10, 12] h_brepkernellaw23_LexerBack Tryd.f4 sg_brepkernellaw23_LexerBack t = u_brepkernellaw23_LexerBack t := by
  intro t
  kernel_rfl
theorem k_brepkernellaw23_LexerBack : (calleeOf sg_brepkernellaw23_LexerBack u_brepkernellaw23_LexerBack).OK Tryd.prog 4 := calleeG_ok mixed ok_brepkernellaw23_LexerBack Tryd.func4 (by kernel_rfl) (by kernel_rfl) e_brepkernellaw23_LexerBack

end Go.Eng
