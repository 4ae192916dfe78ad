/- The functions of this seat as plain functions on tuples, each proved to be what its code comes to; no conditions, but that nothing is said where the plain function gives nothing. -/
import Derived.Shelf.Strings.Builder1
import Derived.Shelf.Strings.Builder2
import Derived.Shelf.Utf8.RuneCount
import Derived.Shelf.Strings.Search1
import Derived.Shelf.Strings.Search2
import Derived.Shelf.Strings.Search3
import Derived.Shelf.Strings.Cut
import Derived.Shelf.Strings.Count
import Derived.Shelf.LaysM
import Derived.Shelf.Strings.Shaped
import Derived.Shelf.Strings.Split
import Derived.Shelf.Strings.Replace
import Derived.Shelf.Strings.SplitShaped
import Derived.Shelf.Unicode.Decode
import Derived.Shelf.Strings.RuneCount
import Derived.Shelf.Strings.Explode
import Derived.Shelf.Unicode.DecodeSlow
import Derived.Shelf.Unicode.DecodeAny
import Derived.Test.YtfocnnocifhdhaaDoorProg
import Derived.Test.YtfocnnocifhdhaaDoorEng2
set_option linter.unusedSimpArgs false
set_option linter.unusedVariables false

namespace Go.Proofs
open Go.Shelf
def Tryd.lays169_ren : Go.Shelf.Ren := ⟨fun | 169 => 39 | n => n, fun | 70 => 53 | 9 => 9 | 0 => 0 | 72 => 55 | 37 => 49 | 127 => 67 | 3 => 3 | 5 => 5 | n => n, fun | n => n⟩
theorem Tryd.lays169 : Go.Proofs.Lays.n169 Tryd.prog Tryd.lays169_ren := {
  mixed := by kernel_rfl
  f169 := Tryd.func39.trans (congrArg some (by kernel_rfl))
  t0 := Tryd.underlying0
  a0 := Tryd.isAgg0
  z0 := Tryd.sizeOf0
  v0 := Tryd.zeroValue0
  t3 := Tryd.underlying3
  a3 := Tryd.isAgg3
  z3 := Tryd.sizeOf3
  v3 := Tryd.zeroValue3
  t9 := Tryd.underlying9
  a9 := Tryd.isAgg9
  z9 := Tryd.sizeOf9
  v9 := Tryd.zeroValue9
  t37 := Tryd.underlying49
  a37 := Tryd.isAgg49
  z37 := Tryd.sizeOf49
  v37 := Tryd.zeroValue49
  t70 := Tryd.underlying53
  a70 := Tryd.isAgg53
  z70 := Tryd.sizeOf53
  v70 := Tryd.zeroValue53
  t72 := Tryd.underlying55
  a72 := Tryd.isAgg55
  z72 := Tryd.sizeOf55
  v72 := Tryd.zeroValue55
  t127 := Tryd.underlying67
  a127 := Tryd.isAgg67
  z127 := Tryd.sizeOf67
  v127 := Tryd.zeroValue67 }
theorem Tryd.Builder_Extra_169 : Builder.Extra Tryd.prog Tryd.lays169_ren := {
  sizeBuilder := by kernel_rfl
  liesBuilder := by kernel_rfl
  t5 := Tryd.underlying5
  a5 := Tryd.isAgg5
  z5 := Tryd.sizeOf5
  v5 := Tryd.zeroValue5
  infoByte := by kernel_rfl
  cellsByte := by kernel_rfl
  sizeByte := by kernel_rfl
  neB5 := by decide }
open Go.RowKit in
theorem Tryd.Builder_String (B b : Nat) (l : List UInt8) (w : World) (h : Lib.IsBuilder 55 5 B b (Lib.byteCells l) w) (h0 : l ≠ []) :
    Calls Tryd.prog 39 #[.pointer (some ⟨b, 0, none⟩)] w fun e w' => e = .returned (.string ⟨l.toArray⟩) ∧ Below B w w' := Any.Builder_String Tryd.lays169 Tryd.Builder_Extra_169 B b l w h h0
open Go.RowKit in
theorem Tryd.Builder_String_empty (B b : Nat) (w : World) (h : Lib.IsBuilder 55 5 B b [] w) (hBw : B ≤ w.heap.size) :
    Calls Tryd.prog 39 #[.pointer (some ⟨b, 0, none⟩)] w fun e w' => e = .returned (.string ⟨#[]⟩) ∧ Below B w w' := Any.Builder_String_empty Tryd.lays169 Tryd.Builder_Extra_169 B b w h hBw
open Go.RowKit in
theorem Tryd.Builder_String_any (B b : Nat) (l : List UInt8) (w : World) (h : Lib.IsBuilder 55 5 B b (Lib.byteCells l) w) (hBw : B ≤ w.heap.size) :
    Calls Tryd.prog 39 #[.pointer (some ⟨b, 0, none⟩)] w fun e w' => e = .returned (.string ⟨l.toArray⟩) ∧ Below B w w' := Any.Builder_String_any Tryd.lays169 Tryd.Builder_Extra_169 B b l w h hBw
def Tryd.lays241_ren : Go.Shelf.Ren := ⟨fun | 241 => 47 | 277 => 52 | n => n, fun | 70 => 53 | 3 => 3 | 0 => 0 | 72 => 55 | 37 => 49 | 5 => 5 | n => n, fun | n => n⟩
theorem Tryd.lays241 : Go.Proofs.Lays.n241 Tryd.prog Tryd.lays241_ren := {
  mixed := by kernel_rfl
  f241 := Tryd.func47.trans (congrArg some (by kernel_rfl))
  f277 := Tryd.func52.trans (congrArg some (by kernel_rfl))
  t0 := Tryd.underlying0
  a0 := Tryd.isAgg0
  z0 := Tryd.sizeOf0
  v0 := Tryd.zeroValue0
  t3 := Tryd.underlying3
  a3 := Tryd.isAgg3
  z3 := Tryd.sizeOf3
  v3 := Tryd.zeroValue3
  t37 := Tryd.underlying49
  a37 := Tryd.isAgg49
  z37 := Tryd.sizeOf49
  v37 := Tryd.zeroValue49
  t70 := Tryd.underlying53
  a70 := Tryd.isAgg53
  z70 := Tryd.sizeOf53
  v70 := Tryd.zeroValue53
  t72 := Tryd.underlying55
  a72 := Tryd.isAgg55
  z72 := Tryd.sizeOf55
  v72 := Tryd.zeroValue55 }
theorem Tryd.Builder_Extra_241 : Builder.Extra Tryd.prog Tryd.lays241_ren := {
  sizeBuilder := by kernel_rfl
  liesBuilder := by kernel_rfl
  t5 := Tryd.underlying5
  a5 := Tryd.isAgg5
  z5 := Tryd.sizeOf5
  v5 := Tryd.zeroValue5
  infoByte := by kernel_rfl
  cellsByte := by kernel_rfl
  sizeByte := by kernel_rfl
  neB5 := by decide }
open Go.RowKit in
theorem Tryd.Builder_grow_fresh (B b n : Nat) (w : World) (hB : B ≤ b) (hbk : w.heap[b]? = some (.cells #[.pointer (some ⟨b, 0, none⟩), .slice none 0 0] 55 (0, 0))) (hBw : B ≤ w.heap.size) (hn : n ≤ 281474976710656) :
    Calls Tryd.prog 47 #[.pointer (some ⟨b, 0, none⟩), .int .i64 n] w fun e w' => e = .returned (.tuple #[]) ∧ (Lib.BuilderAt 55 5 B b (.pointer (some ⟨b, 0, none⟩)) [] w' ∧ Below B w w') := Any.Builder_grow_fresh Tryd.lays241 Tryd.Builder_Extra_241 B b n w hB hbk hBw hn
def Tryd.lays165_ren : Go.Shelf.Ren := ⟨fun | 165 => 36 | 240 => 46 | 241 => 47 | 276 => 51 | 277 => 52 | n => n, fun | 70 => 53 | 3 => 3 | 0 => 0 | 4 => 4 | 9 => 9 | 20 => 20 | 72 => 55 | 37 => 49 | 164 => 71 | 5 => 5 | n => n, fun | n => n⟩
theorem Tryd.lays165 : Go.Proofs.Lays.n165 Tryd.prog Tryd.lays165_ren := {
  mixed := by kernel_rfl
  f165 := Tryd.func36.trans (congrArg some (by kernel_rfl))
  f240 := Tryd.func46.trans (congrArg some (by kernel_rfl))
  f241 := Tryd.func47.trans (congrArg some (by kernel_rfl))
  f276 := Tryd.func51.trans (congrArg some (by kernel_rfl))
  f277 := Tryd.func52.trans (congrArg some (by kernel_rfl))
  t0 := Tryd.underlying0
  a0 := Tryd.isAgg0
  z0 := Tryd.sizeOf0
  v0 := Tryd.zeroValue0
  t3 := Tryd.underlying3
  a3 := Tryd.isAgg3
  z3 := Tryd.sizeOf3
  v3 := Tryd.zeroValue3
  t4 := Tryd.underlying4
  a4 := Tryd.isAgg4
  z4 := Tryd.sizeOf4
  v4 := Tryd.zeroValue4
  t9 := Tryd.underlying9
  a9 := Tryd.isAgg9
  z9 := Tryd.sizeOf9
  v9 := Tryd.zeroValue9
  t20 := Tryd.underlying20
  a20 := Tryd.isAgg20
  z20 := Tryd.sizeOf20
  v20 := Tryd.zeroValue20
  t37 := Tryd.underlying49
  a37 := Tryd.isAgg49
  z37 := Tryd.sizeOf49
  v37 := Tryd.zeroValue49
  t70 := Tryd.underlying53
  a70 := Tryd.isAgg53
  z70 := Tryd.sizeOf53
  v70 := Tryd.zeroValue53
  t72 := Tryd.underlying55
  a72 := Tryd.isAgg55
  z72 := Tryd.sizeOf55
  v72 := Tryd.zeroValue55
  t164 := Tryd.underlying71
  a164 := Tryd.isAgg71
  z164 := Tryd.sizeOf71
  v164 := Tryd.zeroValue71 }
theorem Tryd.Builder_Extra_165 : Builder.Extra Tryd.prog Tryd.lays165_ren := {
  sizeBuilder := by kernel_rfl
  liesBuilder := by kernel_rfl
  t5 := Tryd.underlying5
  a5 := Tryd.isAgg5
  z5 := Tryd.sizeOf5
  v5 := Tryd.zeroValue5
  infoByte := by kernel_rfl
  cellsByte := by kernel_rfl
  sizeByte := by kernel_rfl
  neB5 := by decide }
open Go.RowKit in
theorem Tryd.Builder_Grow_fresh (B b n : Nat) (w : World) (hB : B ≤ b) (hbk : w.heap[b]? = some (.cells #[.pointer none, .slice none 0 0] 55 (0, 0))) (hBw : B ≤ w.heap.size) (hn : n ≤ 281474976710656) :
    Calls Tryd.prog 36 #[.pointer (some ⟨b, 0, none⟩), .int .i64 n] w fun e w' => e = .returned (.tuple #[]) ∧ (Lib.BuilderAt 55 5 B b (.pointer (some ⟨b, 0, none⟩)) [] w' ∧ Below B w w') := Any.Builder_Grow_fresh Tryd.lays165 Tryd.Builder_Extra_165 B b n w hB hbk hBw hn
def Tryd.lays195_ren : Go.Shelf.Ren := ⟨fun | 195 => 40 | n => n, fun | 9 => 9 | 3 => 3 | 0 => 0 | 4 => 4 | n => n, fun | n => n⟩
theorem Tryd.lays195 : Go.Proofs.Lays.n195 Tryd.prog Tryd.lays195_ren := {
  mixed := by kernel_rfl
  f195 := Tryd.func40.trans (congrArg some (by kernel_rfl))
  t0 := Tryd.underlying0
  a0 := Tryd.isAgg0
  z0 := Tryd.sizeOf0
  v0 := Tryd.zeroValue0
  t3 := Tryd.underlying3
  a3 := Tryd.isAgg3
  z3 := Tryd.sizeOf3
  v3 := Tryd.zeroValue3
  t4 := Tryd.underlying4
  a4 := Tryd.isAgg4
  z4 := Tryd.sizeOf4
  v4 := Tryd.zeroValue4
  t9 := Tryd.underlying9
  a9 := Tryd.isAgg9
  z9 := Tryd.sizeOf9
  v9 := Tryd.zeroValue9 }
open Go.RowKit in
theorem Tryd.utf8_RuneCountInString (s : ByteArray) (w : World) (hs : s.size < 9223372036854775807) :
    Calls Tryd.prog 40 #[.string s] w fun e w' => e = .returned (.int .i64 (Lib.runeCount s)) ∧ ∃ pos, w' = w.iter s pos := Any.utf8_RuneCountInString Tryd.lays195 s w hs
def Tryd.lays217_ren : Go.Shelf.Ren := ⟨fun | 217 => 42 | 266 => 49 | n => n, fun | 9 => 9 | 5 => 5 | 3 => 3 | n => n, fun | n => n⟩
theorem Tryd.lays217 : Go.Proofs.Lays.n217 Tryd.prog Tryd.lays217_ren := {
  mixed := by kernel_rfl
  f217 := Tryd.func42.trans (congrArg some (by kernel_rfl))
  f266 := Tryd.func49.trans (congrArg some (by kernel_rfl))
  t3 := Tryd.underlying3
  a3 := Tryd.isAgg3
  z3 := Tryd.sizeOf3
  v3 := Tryd.zeroValue3
  t5 := Tryd.underlying5
  a5 := Tryd.isAgg5
  z5 := Tryd.sizeOf5
  v5 := Tryd.zeroValue5
  t9 := Tryd.underlying9
  a9 := Tryd.isAgg9
  z9 := Tryd.sizeOf9
  v9 := Tryd.zeroValue9 }
open Go.RowKit Go.Lib in
theorem Tryd.stringslite_IndexByte (s : ByteArray) (c : Int) (w : World) :
    Calls Tryd.prog 42 #[.string s, .int .u8 c] w fun e w' => e = .returned (.int .i64 (Lib.indexByte s.data.toList c.toNat.toUInt8)) ∧ w' = w := Any.stringslite_IndexByte Tryd.lays217 s c w
def Tryd.lays224_ren : Go.Shelf.Ren := ⟨fun | 224 => 44 | n => n, fun | 3 => 3 | n => n, fun | n => n⟩
theorem Tryd.lays224 : Go.Proofs.Lays.n224 Tryd.prog Tryd.lays224_ren := {
  mixed := by kernel_rfl
  f224 := Tryd.func44.trans (congrArg some (by kernel_rfl))
  t3 := Tryd.underlying3
  a3 := Tryd.isAgg3
  z3 := Tryd.sizeOf3
  v3 := Tryd.zeroValue3 }
open Go.RowKit Go.Lib in
theorem Tryd.bytealg_Cutover (n : Int) (h0 : 0 ≤ n) (h1 : n < 4611686018427387904) (w : World) :
    Calls Tryd.prog 44 #[.int .i64 n] w fun e w' => e = .returned (.int .i64 ((n + 16) / 8)) ∧ w' = w := Any.bytealg_Cutover Tryd.lays224 n h0 h1 w
def Tryd.lays314_ren : Go.Shelf.Ren := ⟨fun | 314 => 50 | n => n, fun | 9 => 9 | 51 => 68 | 3 => 3 | 4 => 4 | 5 => 5 | 46 => 66 | n => n, fun | n => n⟩
theorem Tryd.lays314 : Go.Proofs.Lays.n314 Tryd.prog Tryd.lays314_ren := {
  mixed := by kernel_rfl
  f314 := Tryd.func50.trans (congrArg some (by kernel_rfl))
  t3 := Tryd.underlying3
  a3 := Tryd.isAgg3
  z3 := Tryd.sizeOf3
  v3 := Tryd.zeroValue3
  t4 := Tryd.underlying4
  a4 := Tryd.isAgg4
  z4 := Tryd.sizeOf4
  v4 := Tryd.zeroValue4
  t5 := Tryd.underlying5
  a5 := Tryd.isAgg5
  z5 := Tryd.sizeOf5
  v5 := Tryd.zeroValue5
  t9 := Tryd.underlying9
  a9 := Tryd.isAgg9
  z9 := Tryd.sizeOf9
  v9 := Tryd.zeroValue9
  t46 := Tryd.underlying66
  a46 := Tryd.isAgg66
  z46 := Tryd.sizeOf66
  v46 := Tryd.zeroValue66
  t51 := Tryd.underlying68
  a51 := Tryd.isAgg68
  z51 := Tryd.sizeOf68
  v51 := Tryd.zeroValue68 }
open Go.RowKit Go.Lib in
theorem Tryd.bytealg_hashStr (sep : ByteArray) (hs : sep.size < 4294967281) (w : World) :
    Calls Tryd.prog 50 #[.string sep] w fun e w' => e = .returned (.tuple #[.int .u32 (RK.H sep.data.toList % 4294967296), .int .u32 (16777619 ^ sep.size % 4294967296)]) ∧ w' = w := Any.bytealg_hashStr Tryd.lays314 sep hs w
def Tryd.lays267_ren : Go.Shelf.Ren := ⟨fun | 267 => 45 | 314 => 50 | n => n, fun | 9 => 9 | 3 => 3 | 146 => 69 | 51 => 68 | 4 => 4 | 5 => 5 | 46 => 66 | n => n, fun | n => n⟩
theorem Tryd.lays267 : Go.Proofs.Lays.n267 Tryd.prog Tryd.lays267_ren := {
  mixed := by kernel_rfl
  f267 := Tryd.func45.trans (congrArg some (by kernel_rfl))
  f314 := Tryd.func50.trans (congrArg some (by kernel_rfl))
  t3 := Tryd.underlying3
  a3 := Tryd.isAgg3
  z3 := Tryd.sizeOf3
  v3 := Tryd.zeroValue3
  t4 := Tryd.underlying4
  a4 := Tryd.isAgg4
  z4 := Tryd.sizeOf4
  v4 := Tryd.zeroValue4
  t5 := Tryd.underlying5
  a5 := Tryd.isAgg5
  z5 := Tryd.sizeOf5
  v5 := Tryd.zeroValue5
  t9 := Tryd.underlying9
  a9 := Tryd.isAgg9
  z9 := Tryd.sizeOf9
  v9 := Tryd.zeroValue9
  t46 := Tryd.underlying66
  a46 := Tryd.isAgg66
  z46 := Tryd.sizeOf66
  v46 := Tryd.zeroValue66
  t51 := Tryd.underlying68
  a51 := Tryd.isAgg68
  z51 := Tryd.sizeOf68
  v51 := Tryd.zeroValue68
  t146 := Tryd.underlying69
  a146 := Tryd.isAgg69
  z146 := Tryd.sizeOf69
  v146 := Tryd.zeroValue69 }
open Go.RowKit Go.Lib in
theorem Tryd.bytealg_IndexRabinKarp (s sep : ByteArray) (h1 : 1 ≤ sep.size) (h2 : sep.size ≤ s.size) (hs : s.size < 4294967281) (w : World) :
    Calls Tryd.prog 45 #[.string s, .string sep] w fun e w' => e = .returned (.int .i64 (Lib.index s.data.toList sep.data.toList)) ∧ w' = w := Any.bytealg_IndexRabinKarp Tryd.lays267 s sep h1 h2 hs w
def Tryd.lays219_ren : Go.Shelf.Ren := ⟨fun | 219 => 35 | 217 => 42 | 225 => 43 | 224 => 44 | 267 => 45 | 266 => 49 | 314 => 50 | n => n, fun | 9 => 9 | 3 => 3 | 4 => 4 | 5 => 5 | 46 => 66 | 146 => 69 | 51 => 68 | n => n, fun | 1 => 0 | n => n⟩
theorem Tryd.lays219 : Go.Proofs.Lays.n219 Tryd.prog Tryd.lays219_ren := {
  mixed := by kernel_rfl
  f217 := Tryd.func42.trans (congrArg some (by kernel_rfl))
  f219 := Tryd.func35.trans (congrArg some (by kernel_rfl))
  f224 := Tryd.func44.trans (congrArg some (by kernel_rfl))
  f225 := Tryd.func43.trans (congrArg some (by kernel_rfl))
  f266 := Tryd.func49.trans (congrArg some (by kernel_rfl))
  f267 := Tryd.func45.trans (congrArg some (by kernel_rfl))
  f314 := Tryd.func50.trans (congrArg some (by kernel_rfl))
  t3 := Tryd.underlying3
  a3 := Tryd.isAgg3
  z3 := Tryd.sizeOf3
  v3 := Tryd.zeroValue3
  t4 := Tryd.underlying4
  a4 := Tryd.isAgg4
  z4 := Tryd.sizeOf4
  v4 := Tryd.zeroValue4
  t5 := Tryd.underlying5
  a5 := Tryd.isAgg5
  z5 := Tryd.sizeOf5
  v5 := Tryd.zeroValue5
  t9 := Tryd.underlying9
  a9 := Tryd.isAgg9
  z9 := Tryd.sizeOf9
  v9 := Tryd.zeroValue9
  t46 := Tryd.underlying66
  a46 := Tryd.isAgg66
  z46 := Tryd.sizeOf66
  v46 := Tryd.zeroValue66
  t51 := Tryd.underlying68
  a51 := Tryd.isAgg68
  z51 := Tryd.sizeOf68
  v51 := Tryd.zeroValue68
  t146 := Tryd.underlying69
  a146 := Tryd.isAgg69
  z146 := Tryd.sizeOf69
  v146 := Tryd.zeroValue69
  g1 := by kernel_rfl }
open Go.RowKit Go.Lib in
theorem Tryd.stringslite_Index_one (s : ByteArray) (c : UInt8) (w : World) :
    Calls Tryd.prog 35 #[.string s, .string ⟨#[c]⟩] w fun e w' => e = .returned (.int .i64 (Lib.indexByte s.data.toList c)) ∧ w' = w := Any.stringslite_Index_one Tryd.lays219 s c w
open Go.RowKit Go.Lib in
theorem Tryd.stringslite_Index (s sub : ByteArray) (m : Int) (w : World) (hs : s.size < 4294967281) (hm : w.cell? ⟨0, 0, none⟩ = some (.int .i64 m)) :
    Calls Tryd.prog 35 #[.string s, .string sub] w fun e w' => e = .returned (.int .i64 (Lib.index s.data.toList sub.data.toList)) ∧ w' = w := Any.stringslite_Index Tryd.lays219 s sub m w hs hm
def Tryd.lays143_ren : Go.Shelf.Ren := ⟨fun | 143 => 34 | 219 => 35 | 217 => 42 | 225 => 43 | 224 => 44 | 267 => 45 | 266 => 49 | 314 => 50 | n => n, fun | 9 => 9 | 3 => 3 | 4 => 4 | 5 => 5 | 46 => 66 | 146 => 69 | 51 => 68 | n => n, fun | 1 => 0 | n => n⟩
theorem Tryd.lays143 : Go.Proofs.Lays.n143 Tryd.prog Tryd.lays143_ren := {
  mixed := by kernel_rfl
  f143 := Tryd.func34.trans (congrArg some (by kernel_rfl))
  f217 := Tryd.func42.trans (congrArg some (by kernel_rfl))
  f219 := Tryd.func35.trans (congrArg some (by kernel_rfl))
  f224 := Tryd.func44.trans (congrArg some (by kernel_rfl))
  f225 := Tryd.func43.trans (congrArg some (by kernel_rfl))
  f266 := Tryd.func49.trans (congrArg some (by kernel_rfl))
  f267 := Tryd.func45.trans (congrArg some (by kernel_rfl))
  f314 := Tryd.func50.trans (congrArg some (by kernel_rfl))
  t3 := Tryd.underlying3
  a3 := Tryd.isAgg3
  z3 := Tryd.sizeOf3
  v3 := Tryd.zeroValue3
  t4 := Tryd.underlying4
  a4 := Tryd.isAgg4
  z4 := Tryd.sizeOf4
  v4 := Tryd.zeroValue4
  t5 := Tryd.underlying5
  a5 := Tryd.isAgg5
  z5 := Tryd.sizeOf5
  v5 := Tryd.zeroValue5
  t9 := Tryd.underlying9
  a9 := Tryd.isAgg9
  z9 := Tryd.sizeOf9
  v9 := Tryd.zeroValue9
  t46 := Tryd.underlying66
  a46 := Tryd.isAgg66
  z46 := Tryd.sizeOf66
  v46 := Tryd.zeroValue66
  t51 := Tryd.underlying68
  a51 := Tryd.isAgg68
  z51 := Tryd.sizeOf68
  v51 := Tryd.zeroValue68
  t146 := Tryd.underlying69
  a146 := Tryd.isAgg69
  z146 := Tryd.sizeOf69
  v146 := Tryd.zeroValue69
  g1 := by kernel_rfl }
open Go.RowKit Go.Lib in
theorem Tryd.strings_Index_one (s : ByteArray) (c : UInt8) (w : World) :
    Calls Tryd.prog 34 #[.string s, .string ⟨#[c]⟩] w fun e w' => e = .returned (.int .i64 (Lib.indexByte s.data.toList c)) ∧ w' = w := Any.strings_Index_one Tryd.lays143 s c w
open Go.RowKit Go.Lib in
theorem Tryd.strings_Index (s sub : ByteArray) (m : Int) (w : World) (hs : s.size < 4294967281) (hm : w.cell? ⟨0, 0, none⟩ = some (.int .i64 m)) :
    Calls Tryd.prog 34 #[.string s, .string sub] w fun e w' => e = .returned (.int .i64 (Lib.index s.data.toList sub.data.toList)) ∧ w' = w := Any.strings_Index Tryd.lays143 s sub m w hs hm
def Tryd.lays220_ren : Go.Shelf.Ren := ⟨fun | 220 => 30 | 219 => 35 | 217 => 42 | 225 => 43 | 224 => 44 | 267 => 45 | 266 => 49 | 314 => 50 | n => n, fun | 9 => 9 | 4 => 4 | 3 => 3 | 5 => 5 | 46 => 66 | 146 => 69 | 51 => 68 | n => n, fun | 1 => 0 | n => n⟩
theorem Tryd.lays220 : Go.Proofs.Lays.n220 Tryd.prog Tryd.lays220_ren := {
  mixed := by kernel_rfl
  f217 := Tryd.func42.trans (congrArg some (by kernel_rfl))
  f219 := Tryd.func35.trans (congrArg some (by kernel_rfl))
  f220 := Tryd.func30.trans (congrArg some (by kernel_rfl))
  f224 := Tryd.func44.trans (congrArg some (by kernel_rfl))
  f225 := Tryd.func43.trans (congrArg some (by kernel_rfl))
  f266 := Tryd.func49.trans (congrArg some (by kernel_rfl))
  f267 := Tryd.func45.trans (congrArg some (by kernel_rfl))
  f314 := Tryd.func50.trans (congrArg some (by kernel_rfl))
  t3 := Tryd.underlying3
  a3 := Tryd.isAgg3
  z3 := Tryd.sizeOf3
  v3 := Tryd.zeroValue3
  t4 := Tryd.underlying4
  a4 := Tryd.isAgg4
  z4 := Tryd.sizeOf4
  v4 := Tryd.zeroValue4
  t5 := Tryd.underlying5
  a5 := Tryd.isAgg5
  z5 := Tryd.sizeOf5
  v5 := Tryd.zeroValue5
  t9 := Tryd.underlying9
  a9 := Tryd.isAgg9
  z9 := Tryd.sizeOf9
  v9 := Tryd.zeroValue9
  t46 := Tryd.underlying66
  a46 := Tryd.isAgg66
  z46 := Tryd.sizeOf66
  v46 := Tryd.zeroValue66
  t51 := Tryd.underlying68
  a51 := Tryd.isAgg68
  z51 := Tryd.sizeOf68
  v51 := Tryd.zeroValue68
  t146 := Tryd.underlying69
  a146 := Tryd.isAgg69
  z146 := Tryd.sizeOf69
  v146 := Tryd.zeroValue69
  g1 := by kernel_rfl }
open Go.RowKit Go.Lib in
theorem Tryd.stringslite_Cut (s sep : ByteArray) (m : Int) (w : World) (hs : s.size < 4294967281) (hm : w.cell? ⟨0, 0, none⟩ = some (.int .i64 m)) :
    Calls Tryd.prog 30 #[.string s, .string sep] w fun e w' => e = .returned (.tuple #[.string ⟨(Lib.cut s.data.toList sep.data.toList).1.toArray⟩, .string ⟨(Lib.cut s.data.toList sep.data.toList).2.1.toArray⟩, .bool (Lib.cut s.data.toList sep.data.toList).2.2]) ∧ ∃ n, w' = w.drewN n := Any.stringslite_Cut Tryd.lays220 s sep m w hs hm
def Tryd.lays145_ren : Go.Shelf.Ren := ⟨fun | 145 => 25 | 220 => 30 | 219 => 35 | 217 => 42 | 225 => 43 | 224 => 44 | 267 => 45 | 266 => 49 | 314 => 50 | n => n, fun | 9 => 9 | 4 => 4 | 59 => 39 | 3 => 3 | 5 => 5 | 46 => 66 | 146 => 69 | 51 => 68 | n => n, fun | 1 => 0 | n => n⟩
theorem Tryd.lays145 : Go.Proofs.Lays.n145 Tryd.prog Tryd.lays145_ren := {
  mixed := by kernel_rfl
  f145 := Tryd.func25.trans (congrArg some (by kernel_rfl))
  f217 := Tryd.func42.trans (congrArg some (by kernel_rfl))
  f219 := Tryd.func35.trans (congrArg some (by kernel_rfl))
  f220 := Tryd.func30.trans (congrArg some (by kernel_rfl))
  f224 := Tryd.func44.trans (congrArg some (by kernel_rfl))
  f225 := Tryd.func43.trans (congrArg some (by kernel_rfl))
  f266 := Tryd.func49.trans (congrArg some (by kernel_rfl))
  f267 := Tryd.func45.trans (congrArg some (by kernel_rfl))
  f314 := Tryd.func50.trans (congrArg some (by kernel_rfl))
  t3 := Tryd.underlying3
  a3 := Tryd.isAgg3
  z3 := Tryd.sizeOf3
  v3 := Tryd.zeroValue3
  t4 := Tryd.underlying4
  a4 := Tryd.isAgg4
  z4 := Tryd.sizeOf4
  v4 := Tryd.zeroValue4
  t5 := Tryd.underlying5
  a5 := Tryd.isAgg5
  z5 := Tryd.sizeOf5
  v5 := Tryd.zeroValue5
  t9 := Tryd.underlying9
  a9 := Tryd.isAgg9
  z9 := Tryd.sizeOf9
  v9 := Tryd.zeroValue9
  t46 := Tryd.underlying66
  a46 := Tryd.isAgg66
  z46 := Tryd.sizeOf66
  v46 := Tryd.zeroValue66
  t51 := Tryd.underlying68
  a51 := Tryd.isAgg68
  z51 := Tryd.sizeOf68
  v51 := Tryd.zeroValue68
  t59 := Tryd.underlying39
  a59 := Tryd.isAgg39
  z59 := Tryd.sizeOf39
  v59 := Tryd.zeroValue39
  t146 := Tryd.underlying69
  a146 := Tryd.isAgg69
  z146 := Tryd.sizeOf69
  v146 := Tryd.zeroValue69
  g1 := by kernel_rfl }
open Go.RowKit Go.Lib in
theorem Tryd.strings_Cut (s sep : ByteArray) (m : Int) (w : World) (hs : s.size < 4294967281) (hm : w.cell? ⟨0, 0, none⟩ = some (.int .i64 m)) :
    Calls Tryd.prog 25 #[.string s, .string sep] w fun e w' => e = .returned (.tuple #[.string ⟨(Lib.cut s.data.toList sep.data.toList).1.toArray⟩, .string ⟨(Lib.cut s.data.toList sep.data.toList).2.1.toArray⟩, .bool (Lib.cut s.data.toList sep.data.toList).2.2]) ∧ ∃ n, w' = w.drewN n := Any.strings_Cut Tryd.lays145 s sep m w hs hm
def Tryd.lays138_ren : Go.Shelf.Ren := ⟨fun | 138 => 33 | 195 => 40 | 218 => 41 | 143 => 34 | 219 => 35 | 217 => 42 | 225 => 43 | 224 => 44 | 267 => 45 | 266 => 49 | 314 => 50 | n => n, fun | 9 => 9 | 3 => 3 | 4 => 4 | 5 => 5 | 0 => 0 | 46 => 66 | 146 => 69 | 51 => 68 | n => n, fun | 1 => 0 | n => n⟩
theorem Tryd.lays138 : Go.Proofs.Lays.n138 Tryd.prog Tryd.lays138_ren := {
  mixed := by kernel_rfl
  f138 := Tryd.func33.trans (congrArg some (by kernel_rfl))
  f143 := Tryd.func34.trans (congrArg some (by kernel_rfl))
  f195 := Tryd.func40.trans (congrArg some (by kernel_rfl))
  f217 := Tryd.func42.trans (congrArg some (by kernel_rfl))
  f218 := Tryd.func41.trans (congrArg some (by kernel_rfl))
  f219 := Tryd.func35.trans (congrArg some (by kernel_rfl))
  f224 := Tryd.func44.trans (congrArg some (by kernel_rfl))
  f225 := Tryd.func43.trans (congrArg some (by kernel_rfl))
  f266 := Tryd.func49.trans (congrArg some (by kernel_rfl))
  f267 := Tryd.func45.trans (congrArg some (by kernel_rfl))
  f314 := Tryd.func50.trans (congrArg some (by kernel_rfl))
  t0 := Tryd.underlying0
  a0 := Tryd.isAgg0
  z0 := Tryd.sizeOf0
  v0 := Tryd.zeroValue0
  t3 := Tryd.underlying3
  a3 := Tryd.isAgg3
  z3 := Tryd.sizeOf3
  v3 := Tryd.zeroValue3
  t4 := Tryd.underlying4
  a4 := Tryd.isAgg4
  z4 := Tryd.sizeOf4
  v4 := Tryd.zeroValue4
  t5 := Tryd.underlying5
  a5 := Tryd.isAgg5
  z5 := Tryd.sizeOf5
  v5 := Tryd.zeroValue5
  t9 := Tryd.underlying9
  a9 := Tryd.isAgg9
  z9 := Tryd.sizeOf9
  v9 := Tryd.zeroValue9
  t46 := Tryd.underlying66
  a46 := Tryd.isAgg66
  z46 := Tryd.sizeOf66
  v46 := Tryd.zeroValue66
  t51 := Tryd.underlying68
  a51 := Tryd.isAgg68
  z51 := Tryd.sizeOf68
  v51 := Tryd.zeroValue68
  t146 := Tryd.underlying69
  a146 := Tryd.isAgg69
  z146 := Tryd.sizeOf69
  v146 := Tryd.zeroValue69
  g1 := by kernel_rfl }
open Go.RowKit Go.Lib in
theorem Tryd.strings_Count_one (s : ByteArray) (c : UInt8) (w : World) :
    Calls Tryd.prog 33 #[.string s, .string ⟨#[c]⟩] w fun e w' => e = .returned (.int .i64 (Lib.countByte s.data.toList c)) ∧ w' = w := Any.strings_Count_one Tryd.lays138 s c w
open Go.RowKit Go.Lib in
theorem Tryd.strings_Count (s sub : ByteArray) (m : Int) (w : World) (hs : s.size < 4294967281) (hm : w.cell? ⟨0, 0, none⟩ = some (.int .i64 m)) (h2 : 2 ≤ sub.size) :
    Calls Tryd.prog 33 #[.string s, .string sub] w fun e w' => e = .returned (.int .i64 (Lib.countB s sub)) ∧ w' = w := Any.strings_Count Tryd.lays138 s sub m w hs hm h2
def Tryd.laysM219_ren : Go.Shelf.Ren := ⟨fun | 219 => 35 | 217 => 42 | 225 => 43 | 224 => 44 | 267 => 45 | 266 => 49 | 314 => 50 | n => n, fun | 9 => 9 | 3 => 3 | 4 => 4 | 5 => 5 | 46 => 66 | 146 => 69 | 51 => 68 | n => n, fun | 1 => 0 | n => n⟩
theorem Tryd.laysM219 : Go.Proofs.LaysM.n219 Tryd.prog Tryd.laysM219_ren := {
  mixed := by kernel_rfl
  f217 := Tryd.func42.trans (congrArg some (by kernel_rfl))
  f219 := Tryd.func35.trans (congrArg some (by kernel_rfl))
  f224 := Tryd.func44.trans (congrArg some (by kernel_rfl))
  f225 := Tryd.func43.trans (congrArg some (by kernel_rfl))
  f266 := Tryd.func49.trans (congrArg some (by kernel_rfl))
  f267 := Tryd.func45.trans (congrArg some (by kernel_rfl))
  f314 := Tryd.func50.trans (congrArg some (by kernel_rfl))
  t3 := Tryd.underlying3
  a3 := Tryd.isAgg3
  z3 := Tryd.sizeOf3
  v3 := Tryd.zeroValue3
  t4 := Tryd.underlying4
  a4 := Tryd.isAgg4
  z4 := Tryd.sizeOf4
  v4 := Tryd.zeroValue4
  t5 := Tryd.underlying5
  a5 := Tryd.isAgg5
  z5 := Tryd.sizeOf5
  v5 := Tryd.zeroValue5
  t9 := Tryd.underlying9
  a9 := Tryd.isAgg9
  z9 := Tryd.sizeOf9
  v9 := Tryd.zeroValue9
  t46 := Tryd.underlying66
  a46 := Tryd.isAgg66
  z46 := Tryd.sizeOf66
  v46 := Tryd.zeroValue66
  t51 := Tryd.underlying68
  a51 := Tryd.isAgg68
  z51 := Tryd.sizeOf68
  v51 := Tryd.zeroValue68
  t146 := Tryd.underlying69
  a146 := Tryd.isAgg69
  z146 := Tryd.sizeOf69
  v146 := Tryd.zeroValue69
  g1 := by kernel_rfl
  i3 := by kernel_rfl
  i4 := by kernel_rfl
  i5 := by kernel_rfl
  i9 := by kernel_rfl
  i46 := by kernel_rfl
  i51 := by kernel_rfl
  i146 := by kernel_rfl
  m1 := by kernel_rfl
  s1_3 := fun w h => Go.Proofs.cell_of_shapedOpen_int (zero := #[.int .i64 0]) (t := 3) h (of_decide_eq_true (by kernel_rfl)) (by kernel_rfl) rfl (by kernel_rfl) (by kernel_rfl) Tryd.underlying3 }
open Go.RowKit Go.Lib in
theorem Tryd.stringslite_Index_shaped (s sub : ByteArray) (w : World) (h : w.ShapedOpen Tryd.prog) (hs : s.size < 4294967281) :
    Calls Tryd.prog 35 #[.string s, .string sub] w fun e w' => e = .returned (.int .i64 (Lib.index s.data.toList sub.data.toList)) ∧ w' = w := Any.stringslite_Index_shaped Tryd.laysM219 s sub w h hs
def Tryd.laysM143_ren : Go.Shelf.Ren := ⟨fun | 143 => 34 | 219 => 35 | 217 => 42 | 225 => 43 | 224 => 44 | 267 => 45 | 266 => 49 | 314 => 50 | n => n, fun | 9 => 9 | 3 => 3 | 4 => 4 | 5 => 5 | 46 => 66 | 146 => 69 | 51 => 68 | n => n, fun | 1 => 0 | n => n⟩
theorem Tryd.laysM143 : Go.Proofs.LaysM.n143 Tryd.prog Tryd.laysM143_ren := {
  mixed := by kernel_rfl
  f143 := Tryd.func34.trans (congrArg some (by kernel_rfl))
  f217 := Tryd.func42.trans (congrArg some (by kernel_rfl))
  f219 := Tryd.func35.trans (congrArg some (by kernel_rfl))
  f224 := Tryd.func44.trans (congrArg some (by kernel_rfl))
  f225 := Tryd.func43.trans (congrArg some (by kernel_rfl))
  f266 := Tryd.func49.trans (congrArg some (by kernel_rfl))
  f267 := Tryd.func45.trans (congrArg some (by kernel_rfl))
  f314 := Tryd.func50.trans (congrArg some (by kernel_rfl))
  t3 := Tryd.underlying3
  a3 := Tryd.isAgg3
  z3 := Tryd.sizeOf3
  v3 := Tryd.zeroValue3
  t4 := Tryd.underlying4
  a4 := Tryd.isAgg4
  z4 := Tryd.sizeOf4
  v4 := Tryd.zeroValue4
  t5 := Tryd.underlying5
  a5 := Tryd.isAgg5
  z5 := Tryd.sizeOf5
  v5 := Tryd.zeroValue5
  t9 := Tryd.underlying9
  a9 := Tryd.isAgg9
  z9 := Tryd.sizeOf9
  v9 := Tryd.zeroValue9
  t46 := Tryd.underlying66
  a46 := Tryd.isAgg66
  z46 := Tryd.sizeOf66
  v46 := Tryd.zeroValue66
  t51 := Tryd.underlying68
  a51 := Tryd.isAgg68
  z51 := Tryd.sizeOf68
  v51 := Tryd.zeroValue68
  t146 := Tryd.underlying69
  a146 := Tryd.isAgg69
  z146 := Tryd.sizeOf69
  v146 := Tryd.zeroValue69
  g1 := by kernel_rfl
  i3 := by kernel_rfl
  i4 := by kernel_rfl
  i5 := by kernel_rfl
  i9 := by kernel_rfl
  i46 := by kernel_rfl
  i51 := by kernel_rfl
  i146 := by kernel_rfl
  m1 := by kernel_rfl
  s1_3 := fun w h => Go.Proofs.cell_of_shapedOpen_int (zero := #[.int .i64 0]) (t := 3) h (of_decide_eq_true (by kernel_rfl)) (by kernel_rfl) rfl (by kernel_rfl) (by kernel_rfl) Tryd.underlying3 }
open Go.RowKit Go.Lib in
theorem Tryd.strings_Index_shaped (s sub : ByteArray) (w : World) (h : w.ShapedOpen Tryd.prog) (hs : s.size < 4294967281) :
    Calls Tryd.prog 34 #[.string s, .string sub] w fun e w' => e = .returned (.int .i64 (Lib.index s.data.toList sub.data.toList)) ∧ w' = w := Any.strings_Index_shaped Tryd.laysM143 s sub w h hs
def Tryd.laysM220_ren : Go.Shelf.Ren := ⟨fun | 220 => 30 | 219 => 35 | 217 => 42 | 225 => 43 | 224 => 44 | 267 => 45 | 266 => 49 | 314 => 50 | n => n, fun | 9 => 9 | 4 => 4 | 3 => 3 | 5 => 5 | 46 => 66 | 146 => 69 | 51 => 68 | n => n, fun | 1 => 0 | n => n⟩
theorem Tryd.laysM220 : Go.Proofs.LaysM.n220 Tryd.prog Tryd.laysM220_ren := {
  mixed := by kernel_rfl
  f217 := Tryd.func42.trans (congrArg some (by kernel_rfl))
  f219 := Tryd.func35.trans (congrArg some (by kernel_rfl))
  f220 := Tryd.func30.trans (congrArg some (by kernel_rfl))
  f224 := Tryd.func44.trans (congrArg some (by kernel_rfl))
  f225 := Tryd.func43.trans (congrArg some (by kernel_rfl))
  f266 := Tryd.func49.trans (congrArg some (by kernel_rfl))
  f267 := Tryd.func45.trans (congrArg some (by kernel_rfl))
  f314 := Tryd.func50.trans (congrArg some (by kernel_rfl))
  t3 := Tryd.underlying3
  a3 := Tryd.isAgg3
  z3 := Tryd.sizeOf3
  v3 := Tryd.zeroValue3
  t4 := Tryd.underlying4
  a4 := Tryd.isAgg4
  z4 := Tryd.sizeOf4
  v4 := Tryd.zeroValue4
  t5 := Tryd.underlying5
  a5 := Tryd.isAgg5
  z5 := Tryd.sizeOf5
  v5 := Tryd.zeroValue5
  t9 := Tryd.underlying9
  a9 := Tryd.isAgg9
  z9 := Tryd.sizeOf9
  v9 := Tryd.zeroValue9
  t46 := Tryd.underlying66
  a46 := Tryd.isAgg66
  z46 := Tryd.sizeOf66
  v46 := Tryd.zeroValue66
  t51 := Tryd.underlying68
  a51 := Tryd.isAgg68
  z51 := Tryd.sizeOf68
  v51 := Tryd.zeroValue68
  t146 := Tryd.underlying69
  a146 := Tryd.isAgg69
  z146 := Tryd.sizeOf69
  v146 := Tryd.zeroValue69
  g1 := by kernel_rfl
  i3 := by kernel_rfl
  i4 := by kernel_rfl
  i5 := by kernel_rfl
  i9 := by kernel_rfl
  i46 := by kernel_rfl
  i51 := by kernel_rfl
  i146 := by kernel_rfl
  m1 := by kernel_rfl
  s1_3 := fun w h => Go.Proofs.cell_of_shapedOpen_int (zero := #[.int .i64 0]) (t := 3) h (of_decide_eq_true (by kernel_rfl)) (by kernel_rfl) rfl (by kernel_rfl) (by kernel_rfl) Tryd.underlying3 }
open Go.RowKit Go.Lib in
theorem Tryd.stringslite_Cut_shaped (s sep : ByteArray) (w : World) (h : w.ShapedOpen Tryd.prog) (hs : s.size < 4294967281) :
    Calls Tryd.prog 30 #[.string s, .string sep] w fun e w' => e = .returned (.tuple #[.string ⟨(Lib.cut s.data.toList sep.data.toList).1.toArray⟩, .string ⟨(Lib.cut s.data.toList sep.data.toList).2.1.toArray⟩, .bool (Lib.cut s.data.toList sep.data.toList).2.2]) ∧ ∃ n, w' = w.drewN n := Any.stringslite_Cut_shaped Tryd.laysM220 s sep w h hs
def Tryd.laysM145_ren : Go.Shelf.Ren := ⟨fun | 145 => 25 | 220 => 30 | 219 => 35 | 217 => 42 | 225 => 43 | 224 => 44 | 267 => 45 | 266 => 49 | 314 => 50 | n => n, fun | 9 => 9 | 4 => 4 | 59 => 39 | 3 => 3 | 5 => 5 | 46 => 66 | 146 => 69 | 51 => 68 | n => n, fun | 1 => 0 | n => n⟩
theorem Tryd.laysM145 : Go.Proofs.LaysM.n145 Tryd.prog Tryd.laysM145_ren := {
  mixed := by kernel_rfl
  f145 := Tryd.func25.trans (congrArg some (by kernel_rfl))
  f217 := Tryd.func42.trans (congrArg some (by kernel_rfl))
  f219 := Tryd.func35.trans (congrArg some (by kernel_rfl))
  f220 := Tryd.func30.trans (congrArg some (by kernel_rfl))
  f224 := Tryd.func44.trans (congrArg some (by kernel_rfl))
  f225 := Tryd.func43.trans (congrArg some (by kernel_rfl))
  f266 := Tryd.func49.trans (congrArg some (by kernel_rfl))
  f267 := Tryd.func45.trans (congrArg some (by kernel_rfl))
  f314 := Tryd.func50.trans (congrArg some (by kernel_rfl))
  t3 := Tryd.underlying3
  a3 := Tryd.isAgg3
  z3 := Tryd.sizeOf3
  v3 := Tryd.zeroValue3
  t4 := Tryd.underlying4
  a4 := Tryd.isAgg4
  z4 := Tryd.sizeOf4
  v4 := Tryd.zeroValue4
  t5 := Tryd.underlying5
  a5 := Tryd.isAgg5
  z5 := Tryd.sizeOf5
  v5 := Tryd.zeroValue5
  t9 := Tryd.underlying9
  a9 := Tryd.isAgg9
  z9 := Tryd.sizeOf9
  v9 := Tryd.zeroValue9
  t46 := Tryd.underlying66
  a46 := Tryd.isAgg66
  z46 := Tryd.sizeOf66
  v46 := Tryd.zeroValue66
  t51 := Tryd.underlying68
  a51 := Tryd.isAgg68
  z51 := Tryd.sizeOf68
  v51 := Tryd.zeroValue68
  t59 := Tryd.underlying39
  a59 := Tryd.isAgg39
  z59 := Tryd.sizeOf39
  v59 := Tryd.zeroValue39
  t146 := Tryd.underlying69
  a146 := Tryd.isAgg69
  z146 := Tryd.sizeOf69
  v146 := Tryd.zeroValue69
  g1 := by kernel_rfl
  i3 := by kernel_rfl
  i4 := by kernel_rfl
  i5 := by kernel_rfl
  i9 := by kernel_rfl
  i46 := by kernel_rfl
  i51 := by kernel_rfl
  i59 := by kernel_rfl
  i146 := by kernel_rfl
  m1 := by kernel_rfl
  s1_3 := fun w h => Go.Proofs.cell_of_shapedOpen_int (zero := #[.int .i64 0]) (t := 3) h (of_decide_eq_true (by kernel_rfl)) (by kernel_rfl) rfl (by kernel_rfl) (by kernel_rfl) Tryd.underlying3 }
open Go.RowKit Go.Lib in
theorem Tryd.strings_Cut_shaped (s sep : ByteArray) (w : World) (h : w.ShapedOpen Tryd.prog) (hs : s.size < 4294967281) :
    Calls Tryd.prog 25 #[.string s, .string sep] w fun e w' => e = .returned (.tuple #[.string ⟨(Lib.cut s.data.toList sep.data.toList).1.toArray⟩, .string ⟨(Lib.cut s.data.toList sep.data.toList).2.1.toArray⟩, .bool (Lib.cut s.data.toList sep.data.toList).2.2]) ∧ ∃ n, w' = w.drewN n := Any.strings_Cut_shaped Tryd.laysM145 s sep w h hs
def Tryd.laysM138_ren : Go.Shelf.Ren := ⟨fun | 138 => 33 | 195 => 40 | 218 => 41 | 143 => 34 | 219 => 35 | 217 => 42 | 225 => 43 | 224 => 44 | 267 => 45 | 266 => 49 | 314 => 50 | n => n, fun | 9 => 9 | 3 => 3 | 4 => 4 | 5 => 5 | 0 => 0 | 46 => 66 | 146 => 69 | 51 => 68 | n => n, fun | 1 => 0 | n => n⟩
theorem Tryd.laysM138 : Go.Proofs.LaysM.n138 Tryd.prog Tryd.laysM138_ren := {
  mixed := by kernel_rfl
  f138 := Tryd.func33.trans (congrArg some (by kernel_rfl))
  f143 := Tryd.func34.trans (congrArg some (by kernel_rfl))
  f195 := Tryd.func40.trans (congrArg some (by kernel_rfl))
  f217 := Tryd.func42.trans (congrArg some (by kernel_rfl))
  f218 := Tryd.func41.trans (congrArg some (by kernel_rfl))
  f219 := Tryd.func35.trans (congrArg some (by kernel_rfl))
  f224 := Tryd.func44.trans (congrArg some (by kernel_rfl))
  f225 := Tryd.func43.trans (congrArg some (by kernel_rfl))
  f266 := Tryd.func49.trans (congrArg some (by kernel_rfl))
  f267 := Tryd.func45.trans (congrArg some (by kernel_rfl))
  f314 := Tryd.func50.trans (congrArg some (by kernel_rfl))
  t0 := Tryd.underlying0
  a0 := Tryd.isAgg0
  z0 := Tryd.sizeOf0
  v0 := Tryd.zeroValue0
  t3 := Tryd.underlying3
  a3 := Tryd.isAgg3
  z3 := Tryd.sizeOf3
  v3 := Tryd.zeroValue3
  t4 := Tryd.underlying4
  a4 := Tryd.isAgg4
  z4 := Tryd.sizeOf4
  v4 := Tryd.zeroValue4
  t5 := Tryd.underlying5
  a5 := Tryd.isAgg5
  z5 := Tryd.sizeOf5
  v5 := Tryd.zeroValue5
  t9 := Tryd.underlying9
  a9 := Tryd.isAgg9
  z9 := Tryd.sizeOf9
  v9 := Tryd.zeroValue9
  t46 := Tryd.underlying66
  a46 := Tryd.isAgg66
  z46 := Tryd.sizeOf66
  v46 := Tryd.zeroValue66
  t51 := Tryd.underlying68
  a51 := Tryd.isAgg68
  z51 := Tryd.sizeOf68
  v51 := Tryd.zeroValue68
  t146 := Tryd.underlying69
  a146 := Tryd.isAgg69
  z146 := Tryd.sizeOf69
  v146 := Tryd.zeroValue69
  g1 := by kernel_rfl
  i0 := by kernel_rfl
  i3 := by kernel_rfl
  i4 := by kernel_rfl
  i5 := by kernel_rfl
  i9 := by kernel_rfl
  i46 := by kernel_rfl
  i51 := by kernel_rfl
  i146 := by kernel_rfl
  m1 := by kernel_rfl
  s1_3 := fun w h => Go.Proofs.cell_of_shapedOpen_int (zero := #[.int .i64 0]) (t := 3) h (of_decide_eq_true (by kernel_rfl)) (by kernel_rfl) rfl (by kernel_rfl) (by kernel_rfl) Tryd.underlying3 }
open Go.RowKit Go.Lib in
theorem Tryd.strings_Count_shaped (s sub : ByteArray) (w : World) (h : w.ShapedOpen Tryd.prog) (hs : s.size < 4294967281) (h2 : 2 ≤ sub.size) :
    Calls Tryd.prog 33 #[.string s, .string sub] w fun e w' => e = .returned (.int .i64 (Lib.countB s sub)) ∧ w' = w := Any.strings_Count_shaped Tryd.laysM138 s sub w h hs h2
open Go.RowKit Go.Lib in
theorem Tryd.strings_Count_any (s sep : ByteArray) (m : Int) (w : World) (hs : s.size < 4294967281) (hm : w.cell? ⟨0, 0, none⟩ = some (.int .i64 m)) (h1 : 1 ≤ sep.size) :
    Calls Tryd.prog 33 #[.string s, .string sep] w fun e w' => e = .returned (.int .i64 (Lib.countB s sep)) ∧ w' = w := Any.strings_Count_any Tryd.lays138 s sep m w hs hm h1
def Tryd.lays221_ren : Go.Shelf.Ren := ⟨fun | 221 => 28 | 268 => 32 | 138 => 33 | 143 => 34 | 195 => 40 | 197 => 38 | 218 => 41 | 219 => 35 | 260 => 48 | 217 => 42 | 225 => 43 | 224 => 44 | 267 => 45 | 266 => 49 | 314 => 50 | n => n, fun | 9 => 9 | 3 => 3 | 31 => 28 | 4 => 4 | 0 => 0 | 105 => 61 | 21 => 21 | 5 => 5 | 46 => 66 | 119 => 74 | 139 => 77 | 138 => 76 | 146 => 69 | 51 => 68 | n => n, fun | 1 => 0 | 3 => 1 | 4 => 2 | n => n⟩
theorem Tryd.lays221 : Go.Proofs.Lays.n221 Tryd.prog Tryd.lays221_ren := {
  mixed := by kernel_rfl
  f138 := Tryd.func33.trans (congrArg some (by kernel_rfl))
  f143 := Tryd.func34.trans (congrArg some (by kernel_rfl))
  f195 := Tryd.func40.trans (congrArg some (by kernel_rfl))
  f197 := Tryd.func38.trans (congrArg some (by kernel_rfl))
  f217 := Tryd.func42.trans (congrArg some (by kernel_rfl))
  f218 := Tryd.func41.trans (congrArg some (by kernel_rfl))
  f219 := Tryd.func35.trans (congrArg some (by kernel_rfl))
  f221 := Tryd.func28.trans (congrArg some (by kernel_rfl))
  f224 := Tryd.func44.trans (congrArg some (by kernel_rfl))
  f225 := Tryd.func43.trans (congrArg some (by kernel_rfl))
  f260 := Tryd.func48.trans (congrArg some (by kernel_rfl))
  f266 := Tryd.func49.trans (congrArg some (by kernel_rfl))
  f267 := Tryd.func45.trans (congrArg some (by kernel_rfl))
  f268 := Tryd.func32.trans (congrArg some (by kernel_rfl))
  f314 := Tryd.func50.trans (congrArg some (by kernel_rfl))
  t0 := Tryd.underlying0
  a0 := Tryd.isAgg0
  z0 := Tryd.sizeOf0
  v0 := Tryd.zeroValue0
  t3 := Tryd.underlying3
  a3 := Tryd.isAgg3
  z3 := Tryd.sizeOf3
  v3 := Tryd.zeroValue3
  t4 := Tryd.underlying4
  a4 := Tryd.isAgg4
  z4 := Tryd.sizeOf4
  v4 := Tryd.zeroValue4
  t5 := Tryd.underlying5
  a5 := Tryd.isAgg5
  z5 := Tryd.sizeOf5
  v5 := Tryd.zeroValue5
  t9 := Tryd.underlying9
  a9 := Tryd.isAgg9
  z9 := Tryd.sizeOf9
  v9 := Tryd.zeroValue9
  t21 := Tryd.underlying21
  a21 := Tryd.isAgg21
  z21 := Tryd.sizeOf21
  v21 := Tryd.zeroValue21
  t31 := Tryd.underlying28
  a31 := Tryd.isAgg28
  z31 := Tryd.sizeOf28
  v31 := Tryd.zeroValue28
  t46 := Tryd.underlying66
  a46 := Tryd.isAgg66
  z46 := Tryd.sizeOf66
  v46 := Tryd.zeroValue66
  t51 := Tryd.underlying68
  a51 := Tryd.isAgg68
  z51 := Tryd.sizeOf68
  v51 := Tryd.zeroValue68
  t105 := Tryd.underlying61
  a105 := Tryd.isAgg61
  z105 := Tryd.sizeOf61
  v105 := Tryd.zeroValue61
  t119 := Tryd.underlying74
  a119 := Tryd.isAgg74
  z119 := Tryd.sizeOf74
  t138 := Tryd.underlying76
  a138 := Tryd.isAgg76
  z138 := Tryd.sizeOf76
  v138 := Tryd.zeroValue76
  t139 := Tryd.underlying77
  a139 := Tryd.isAgg77
  z139 := Tryd.sizeOf77
  v139 := Tryd.zeroValue77
  t146 := Tryd.underlying69
  a146 := Tryd.isAgg69
  z146 := Tryd.sizeOf69
  v146 := Tryd.zeroValue69
  g1 := by kernel_rfl
  g3 := by kernel_rfl
  g4 := by kernel_rfl }
open Go.RowKit Go.Lib in
theorem Tryd.strings_genSplit (s sep : ByteArray) (sv : Nat) (n : Int) (N : Nat) (m : Int) (w : World) (hs : s.size < 4294967281) (hm : w.cell? ⟨0, 0, none⟩ = some (.int .i64 m)) (h1 : 1 ≤ sep.size) (hsv : sv ≤ sep.size) (hn0 : n ≠ 0) (hn63 : n ≤ 9223372036854775807) (hN : (N : Int) = min (if n < 0 then (Lib.countB s sep : Int) + 1 else n) ((s.size : Int) + 1)) :
    Calls Tryd.prog 28 #[.string s, .string sep, .int .i64 sv, .int .i64 n] w fun e w' =>
      e = .returned (.slice (some ⟨w.heap.size, 0, none⟩) (Lib.splitB sep sv (N - 1) s).length N) ∧ w' = w.alloc (.cells (Lib.cellsOf (Lib.splitB sep sv (N - 1) s) N) 9) := Any.strings_genSplit Tryd.lays221 (by kernel_rfl) s sep sv n N m w hs hm h1 hsv hn0 hn63 hN
def Tryd.lays146_ren : Go.Shelf.Ren := ⟨fun | 146 => 20 | 221 => 28 | 268 => 32 | 138 => 33 | 143 => 34 | 195 => 40 | 197 => 38 | 218 => 41 | 219 => 35 | 260 => 48 | 217 => 42 | 225 => 43 | 224 => 44 | 267 => 45 | 266 => 49 | 314 => 50 | n => n, fun | 9 => 9 | 31 => 28 | 3 => 3 | 4 => 4 | 0 => 0 | 105 => 61 | 21 => 21 | 5 => 5 | 46 => 66 | 119 => 74 | 139 => 77 | 138 => 76 | 146 => 69 | 51 => 68 | n => n, fun | 1 => 0 | 3 => 1 | 4 => 2 | n => n⟩
theorem Tryd.lays146 : Go.Proofs.Lays.n146 Tryd.prog Tryd.lays146_ren := {
  mixed := by kernel_rfl
  f138 := Tryd.func33.trans (congrArg some (by kernel_rfl))
  f143 := Tryd.func34.trans (congrArg some (by kernel_rfl))
  f146 := Tryd.func20.trans (congrArg some (by kernel_rfl))
  f195 := Tryd.func40.trans (congrArg some (by kernel_rfl))
  f197 := Tryd.func38.trans (congrArg some (by kernel_rfl))
  f217 := Tryd.func42.trans (congrArg some (by kernel_rfl))
  f218 := Tryd.func41.trans (congrArg some (by kernel_rfl))
  f219 := Tryd.func35.trans (congrArg some (by kernel_rfl))
  f221 := Tryd.func28.trans (congrArg some (by kernel_rfl))
  f224 := Tryd.func44.trans (congrArg some (by kernel_rfl))
  f225 := Tryd.func43.trans (congrArg some (by kernel_rfl))
  f260 := Tryd.func48.trans (congrArg some (by kernel_rfl))
  f266 := Tryd.func49.trans (congrArg some (by kernel_rfl))
  f267 := Tryd.func45.trans (congrArg some (by kernel_rfl))
  f268 := Tryd.func32.trans (congrArg some (by kernel_rfl))
  f314 := Tryd.func50.trans (congrArg some (by kernel_rfl))
  t0 := Tryd.underlying0
  a0 := Tryd.isAgg0
  z0 := Tryd.sizeOf0
  v0 := Tryd.zeroValue0
  t3 := Tryd.underlying3
  a3 := Tryd.isAgg3
  z3 := Tryd.sizeOf3
  v3 := Tryd.zeroValue3
  t4 := Tryd.underlying4
  a4 := Tryd.isAgg4
  z4 := Tryd.sizeOf4
  v4 := Tryd.zeroValue4
  t5 := Tryd.underlying5
  a5 := Tryd.isAgg5
  z5 := Tryd.sizeOf5
  v5 := Tryd.zeroValue5
  t9 := Tryd.underlying9
  a9 := Tryd.isAgg9
  z9 := Tryd.sizeOf9
  v9 := Tryd.zeroValue9
  t21 := Tryd.underlying21
  a21 := Tryd.isAgg21
  z21 := Tryd.sizeOf21
  v21 := Tryd.zeroValue21
  t31 := Tryd.underlying28
  a31 := Tryd.isAgg28
  z31 := Tryd.sizeOf28
  v31 := Tryd.zeroValue28
  t46 := Tryd.underlying66
  a46 := Tryd.isAgg66
  z46 := Tryd.sizeOf66
  v46 := Tryd.zeroValue66
  t51 := Tryd.underlying68
  a51 := Tryd.isAgg68
  z51 := Tryd.sizeOf68
  v51 := Tryd.zeroValue68
  t105 := Tryd.underlying61
  a105 := Tryd.isAgg61
  z105 := Tryd.sizeOf61
  v105 := Tryd.zeroValue61
  t119 := Tryd.underlying74
  a119 := Tryd.isAgg74
  z119 := Tryd.sizeOf74
  t138 := Tryd.underlying76
  a138 := Tryd.isAgg76
  z138 := Tryd.sizeOf76
  v138 := Tryd.zeroValue76
  t139 := Tryd.underlying77
  a139 := Tryd.isAgg77
  z139 := Tryd.sizeOf77
  v139 := Tryd.zeroValue77
  t146 := Tryd.underlying69
  a146 := Tryd.isAgg69
  z146 := Tryd.sizeOf69
  v146 := Tryd.zeroValue69
  g1 := by kernel_rfl
  g3 := by kernel_rfl
  g4 := by kernel_rfl }
open Go.RowKit Go.Lib in
theorem Tryd.strings_Split (s sep : ByteArray) (m : Int) (w : World) (hs : s.size < 4294967281) (hm : w.cell? ⟨0, 0, none⟩ = some (.int .i64 m)) (h1 : 1 ≤ sep.size) :
    Calls Tryd.prog 20 #[.string s, .string sep] w fun e w' =>
      e = .returned (.slice (some ⟨w.heap.size, 0, none⟩) (Lib.countB s sep + 1) (Lib.countB s sep + 1)) ∧ w' = w.alloc (.cells ((Lib.splitB sep 0 (Lib.countB s sep) s).map Value.string).toArray 9) := Any.strings_Split Tryd.lays146 (by kernel_rfl) s sep m w hs hm h1
def Tryd.lays154_ren : Go.Shelf.Ren := ⟨fun | 154 => 31 | 138 => 33 | 165 => 36 | 143 => 34 | 166 => 37 | 197 => 38 | 169 => 39 | 195 => 40 | 218 => 41 | 240 => 46 | 241 => 47 | 219 => 35 | 260 => 48 | 276 => 51 | 277 => 52 | 217 => 42 | 225 => 43 | 224 => 44 | 267 => 45 | 266 => 49 | 314 => 50 | n => n, fun | 9 => 9 | 3 => 3 | 4 => 4 | 72 => 55 | 0 => 0 | 76 => 59 | 105 => 61 | 21 => 21 | 5 => 5 | 70 => 53 | 20 => 20 | 37 => 49 | 75 => 58 | 127 => 67 | 164 => 71 | 46 => 66 | 119 => 74 | 139 => 77 | 138 => 76 | 146 => 69 | 51 => 68 | 80 => 63 | n => n, fun | 1 => 0 | 3 => 1 | 4 => 2 | n => n⟩
theorem Tryd.lays154 : Go.Proofs.Lays.n154 Tryd.prog Tryd.lays154_ren := {
  mixed := by kernel_rfl
  f138 := Tryd.func33.trans (congrArg some (by kernel_rfl))
  f143 := Tryd.func34.trans (congrArg some (by kernel_rfl))
  f154 := Tryd.func31.trans (congrArg some (by kernel_rfl))
  f165 := Tryd.func36.trans (congrArg some (by kernel_rfl))
  f166 := Tryd.func37.trans (congrArg some (by kernel_rfl))
  f169 := Tryd.func39.trans (congrArg some (by kernel_rfl))
  f195 := Tryd.func40.trans (congrArg some (by kernel_rfl))
  f197 := Tryd.func38.trans (congrArg some (by kernel_rfl))
  f217 := Tryd.func42.trans (congrArg some (by kernel_rfl))
  f218 := Tryd.func41.trans (congrArg some (by kernel_rfl))
  f219 := Tryd.func35.trans (congrArg some (by kernel_rfl))
  f224 := Tryd.func44.trans (congrArg some (by kernel_rfl))
  f225 := Tryd.func43.trans (congrArg some (by kernel_rfl))
  f240 := Tryd.func46.trans (congrArg some (by kernel_rfl))
  f241 := Tryd.func47.trans (congrArg some (by kernel_rfl))
  f260 := Tryd.func48.trans (congrArg some (by kernel_rfl))
  f266 := Tryd.func49.trans (congrArg some (by kernel_rfl))
  f267 := Tryd.func45.trans (congrArg some (by kernel_rfl))
  f276 := Tryd.func51.trans (congrArg some (by kernel_rfl))
  f277 := Tryd.func52.trans (congrArg some (by kernel_rfl))
  f314 := Tryd.func50.trans (congrArg some (by kernel_rfl))
  t0 := Tryd.underlying0
  a0 := Tryd.isAgg0
  z0 := Tryd.sizeOf0
  v0 := Tryd.zeroValue0
  t3 := Tryd.underlying3
  a3 := Tryd.isAgg3
  z3 := Tryd.sizeOf3
  v3 := Tryd.zeroValue3
  t4 := Tryd.underlying4
  a4 := Tryd.isAgg4
  z4 := Tryd.sizeOf4
  v4 := Tryd.zeroValue4
  t5 := Tryd.underlying5
  a5 := Tryd.isAgg5
  z5 := Tryd.sizeOf5
  v5 := Tryd.zeroValue5
  t9 := Tryd.underlying9
  a9 := Tryd.isAgg9
  z9 := Tryd.sizeOf9
  v9 := Tryd.zeroValue9
  t20 := Tryd.underlying20
  a20 := Tryd.isAgg20
  z20 := Tryd.sizeOf20
  v20 := Tryd.zeroValue20
  t21 := Tryd.underlying21
  a21 := Tryd.isAgg21
  z21 := Tryd.sizeOf21
  v21 := Tryd.zeroValue21
  t37 := Tryd.underlying49
  a37 := Tryd.isAgg49
  z37 := Tryd.sizeOf49
  v37 := Tryd.zeroValue49
  t46 := Tryd.underlying66
  a46 := Tryd.isAgg66
  z46 := Tryd.sizeOf66
  v46 := Tryd.zeroValue66
  t51 := Tryd.underlying68
  a51 := Tryd.isAgg68
  z51 := Tryd.sizeOf68
  v51 := Tryd.zeroValue68
  t70 := Tryd.underlying53
  a70 := Tryd.isAgg53
  z70 := Tryd.sizeOf53
  v70 := Tryd.zeroValue53
  t72 := Tryd.underlying55
  a72 := Tryd.isAgg55
  z72 := Tryd.sizeOf55
  v72 := Tryd.zeroValue55
  t75 := Tryd.underlying58
  a75 := Tryd.isAgg58
  z75 := Tryd.sizeOf58
  v75 := Tryd.zeroValue58
  t76 := Tryd.underlying59
  a76 := Tryd.isAgg59
  z76 := Tryd.sizeOf59
  v76 := Tryd.zeroValue59
  t105 := Tryd.underlying61
  a105 := Tryd.isAgg61
  z105 := Tryd.sizeOf61
  v105 := Tryd.zeroValue61
  t119 := Tryd.underlying74
  a119 := Tryd.isAgg74
  z119 := Tryd.sizeOf74
  t127 := Tryd.underlying67
  a127 := Tryd.isAgg67
  z127 := Tryd.sizeOf67
  v127 := Tryd.zeroValue67
  t138 := Tryd.underlying76
  a138 := Tryd.isAgg76
  z138 := Tryd.sizeOf76
  v138 := Tryd.zeroValue76
  t139 := Tryd.underlying77
  a139 := Tryd.isAgg77
  z139 := Tryd.sizeOf77
  v139 := Tryd.zeroValue77
  t146 := Tryd.underlying69
  a146 := Tryd.isAgg69
  z146 := Tryd.sizeOf69
  v146 := Tryd.zeroValue69
  t164 := Tryd.underlying71
  a164 := Tryd.isAgg71
  z164 := Tryd.sizeOf71
  v164 := Tryd.zeroValue71
  g1 := by kernel_rfl
  g3 := by kernel_rfl
  g4 := by kernel_rfl }
theorem Tryd.Builder_Extra_154 : Builder.Extra Tryd.prog Tryd.lays154_ren := {
  sizeBuilder := by kernel_rfl
  liesBuilder := by kernel_rfl
  t5 := Tryd.underlying5
  a5 := Tryd.isAgg5
  z5 := Tryd.sizeOf5
  v5 := Tryd.zeroValue5
  infoByte := by kernel_rfl
  cellsByte := by kernel_rfl
  sizeByte := by kernel_rfl
  neB5 := by decide }
open Go.RowKit Go.Lib in
theorem Tryd.strings_Replace_some (s old new : ByteArray) (n : Int) (m : Int) (w : World) (hs : s.size < 4294967281) (hm : w.cell? ⟨0, 0, none⟩ = some (.int .i64 m)) (h1 : 1 ≤ old.size) (hne : old ≠ new) (hn0 : n ≠ 0) (hc0 : Lib.countB s old ≠ 0) (hlen : s.size + Lib.countB s old * new.size ≤ 140737488355328) :
    Calls Tryd.prog 31 #[.string s, .string old, .string new, .int .i64 n] w fun e w' =>
      e = .returned (.string ⟨(Lib.replaceK old.data.toList new.data.toList (Lib.replaceNum s.data.toList old.data.toList n) s.data.toList).toArray⟩) ∧ Below w.heap.size w w' := Any.strings_Replace_some Tryd.lays154 Tryd.Builder_Extra_154 s old new n m w hs hm h1 hne hn0 hc0 hlen
open Go.RowKit Go.Lib in
theorem Tryd.strings_Replace_none (s old new : ByteArray) (n : Int) (w : World) (h : old = new ∨ n = 0) :
    Calls Tryd.prog 31 #[.string s, .string old, .string new, .int .i64 n] w fun e w' => e = .returned (.string s) ∧ w' = w := Any.strings_Replace_none Tryd.lays154 s old new n w h
open Go.RowKit Go.Lib in
theorem Tryd.strings_Replace_absent (s old new : ByteArray) (n : Int) (m : Int) (w : World) (hs : s.size < 4294967281) (hm : w.cell? ⟨0, 0, none⟩ = some (.int .i64 m)) (h1 : 1 ≤ old.size) (hne : old ≠ new) (hn0 : n ≠ 0) (hc0 : Lib.countB s old = 0) :
    Calls Tryd.prog 31 #[.string s, .string old, .string new, .int .i64 n] w fun e w' => e = .returned (.string s) ∧ w' = w := Any.strings_Replace_absent Tryd.lays154 s old new n m w hs hm h1 hne hn0 hc0
open Go.RowKit Go.Lib in
theorem Tryd.strings_Replace (s old new : ByteArray) (n : Int) (m : Int) (w : World) (hs : s.size < 4294967281) (hm : w.cell? ⟨0, 0, none⟩ = some (.int .i64 m)) (h1 : 1 ≤ old.size) (hlen : s.size + Lib.countB s old * new.size ≤ 140737488355328) :
    Calls Tryd.prog 31 #[.string s, .string old, .string new, .int .i64 n] w fun e w' =>
      e = .returned (.string ⟨(Lib.replace s.data.toList old.data.toList new.data.toList n).toArray⟩) ∧ Below w.heap.size w w' := Any.strings_Replace Tryd.lays154 Tryd.Builder_Extra_154 s old new n m w hs hm h1 hlen
def Tryd.lays155_ren : Go.Shelf.Ren := ⟨fun | 155 => 27 | 154 => 31 | 138 => 33 | 165 => 36 | 143 => 34 | 166 => 37 | 197 => 38 | 169 => 39 | 195 => 40 | 218 => 41 | 240 => 46 | 241 => 47 | 219 => 35 | 260 => 48 | 276 => 51 | 277 => 52 | 217 => 42 | 225 => 43 | 224 => 44 | 267 => 45 | 266 => 49 | 314 => 50 | n => n, fun | 9 => 9 | 3 => 3 | 4 => 4 | 72 => 55 | 0 => 0 | 76 => 59 | 105 => 61 | 21 => 21 | 5 => 5 | 70 => 53 | 20 => 20 | 37 => 49 | 75 => 58 | 127 => 67 | 164 => 71 | 46 => 66 | 119 => 74 | 139 => 77 | 138 => 76 | 146 => 69 | 51 => 68 | 80 => 63 | n => n, fun | 1 => 0 | 3 => 1 | 4 => 2 | n => n⟩
theorem Tryd.lays155 : Go.Proofs.Lays.n155 Tryd.prog Tryd.lays155_ren := {
  mixed := by kernel_rfl
  f138 := Tryd.func33.trans (congrArg some (by kernel_rfl))
  f143 := Tryd.func34.trans (congrArg some (by kernel_rfl))
  f154 := Tryd.func31.trans (congrArg some (by kernel_rfl))
  f155 := Tryd.func27.trans (congrArg some (by kernel_rfl))
  f165 := Tryd.func36.trans (congrArg some (by kernel_rfl))
  f166 := Tryd.func37.trans (congrArg some (by kernel_rfl))
  f169 := Tryd.func39.trans (congrArg some (by kernel_rfl))
  f195 := Tryd.func40.trans (congrArg some (by kernel_rfl))
  f197 := Tryd.func38.trans (congrArg some (by kernel_rfl))
  f217 := Tryd.func42.trans (congrArg some (by kernel_rfl))
  f218 := Tryd.func41.trans (congrArg some (by kernel_rfl))
  f219 := Tryd.func35.trans (congrArg some (by kernel_rfl))
  f224 := Tryd.func44.trans (congrArg some (by kernel_rfl))
  f225 := Tryd.func43.trans (congrArg some (by kernel_rfl))
  f240 := Tryd.func46.trans (congrArg some (by kernel_rfl))
  f241 := Tryd.func47.trans (congrArg some (by kernel_rfl))
  f260 := Tryd.func48.trans (congrArg some (by kernel_rfl))
  f266 := Tryd.func49.trans (congrArg some (by kernel_rfl))
  f267 := Tryd.func45.trans (congrArg some (by kernel_rfl))
  f276 := Tryd.func51.trans (congrArg some (by kernel_rfl))
  f277 := Tryd.func52.trans (congrArg some (by kernel_rfl))
  f314 := Tryd.func50.trans (congrArg some (by kernel_rfl))
  t0 := Tryd.underlying0
  a0 := Tryd.isAgg0
  z0 := Tryd.sizeOf0
  v0 := Tryd.zeroValue0
  t3 := Tryd.underlying3
  a3 := Tryd.isAgg3
  z3 := Tryd.sizeOf3
  v3 := Tryd.zeroValue3
  t4 := Tryd.underlying4
  a4 := Tryd.isAgg4
  z4 := Tryd.sizeOf4
  v4 := Tryd.zeroValue4
  t5 := Tryd.underlying5
  a5 := Tryd.isAgg5
  z5 := Tryd.sizeOf5
  v5 := Tryd.zeroValue5
  t9 := Tryd.underlying9
  a9 := Tryd.isAgg9
  z9 := Tryd.sizeOf9
  v9 := Tryd.zeroValue9
  t20 := Tryd.underlying20
  a20 := Tryd.isAgg20
  z20 := Tryd.sizeOf20
  v20 := Tryd.zeroValue20
  t21 := Tryd.underlying21
  a21 := Tryd.isAgg21
  z21 := Tryd.sizeOf21
  v21 := Tryd.zeroValue21
  t37 := Tryd.underlying49
  a37 := Tryd.isAgg49
  z37 := Tryd.sizeOf49
  v37 := Tryd.zeroValue49
  t46 := Tryd.underlying66
  a46 := Tryd.isAgg66
  z46 := Tryd.sizeOf66
  v46 := Tryd.zeroValue66
  t51 := Tryd.underlying68
  a51 := Tryd.isAgg68
  z51 := Tryd.sizeOf68
  v51 := Tryd.zeroValue68
  t70 := Tryd.underlying53
  a70 := Tryd.isAgg53
  z70 := Tryd.sizeOf53
  v70 := Tryd.zeroValue53
  t72 := Tryd.underlying55
  a72 := Tryd.isAgg55
  z72 := Tryd.sizeOf55
  v72 := Tryd.zeroValue55
  t75 := Tryd.underlying58
  a75 := Tryd.isAgg58
  z75 := Tryd.sizeOf58
  v75 := Tryd.zeroValue58
  t76 := Tryd.underlying59
  a76 := Tryd.isAgg59
  z76 := Tryd.sizeOf59
  v76 := Tryd.zeroValue59
  t105 := Tryd.underlying61
  a105 := Tryd.isAgg61
  z105 := Tryd.sizeOf61
  v105 := Tryd.zeroValue61
  t119 := Tryd.underlying74
  a119 := Tryd.isAgg74
  z119 := Tryd.sizeOf74
  t127 := Tryd.underlying67
  a127 := Tryd.isAgg67
  z127 := Tryd.sizeOf67
  v127 := Tryd.zeroValue67
  t138 := Tryd.underlying76
  a138 := Tryd.isAgg76
  z138 := Tryd.sizeOf76
  v138 := Tryd.zeroValue76
  t139 := Tryd.underlying77
  a139 := Tryd.isAgg77
  z139 := Tryd.sizeOf77
  v139 := Tryd.zeroValue77
  t146 := Tryd.underlying69
  a146 := Tryd.isAgg69
  z146 := Tryd.sizeOf69
  v146 := Tryd.zeroValue69
  t164 := Tryd.underlying71
  a164 := Tryd.isAgg71
  z164 := Tryd.sizeOf71
  v164 := Tryd.zeroValue71
  g1 := by kernel_rfl
  g3 := by kernel_rfl
  g4 := by kernel_rfl }
theorem Tryd.Builder_Extra_155 : Builder.Extra Tryd.prog Tryd.lays155_ren := {
  sizeBuilder := by kernel_rfl
  liesBuilder := by kernel_rfl
  t5 := Tryd.underlying5
  a5 := Tryd.isAgg5
  z5 := Tryd.sizeOf5
  v5 := Tryd.zeroValue5
  infoByte := by kernel_rfl
  cellsByte := by kernel_rfl
  sizeByte := by kernel_rfl
  neB5 := by decide }
open Go.RowKit Go.Lib in
theorem Tryd.strings_ReplaceAll (s old new : ByteArray) (m : Int) (w : World) (hs : s.size < 4294967281) (hm : w.cell? ⟨0, 0, none⟩ = some (.int .i64 m)) (h1 : 1 ≤ old.size) (hlen : s.size + Lib.countB s old * new.size ≤ 140737488355328) :
    Calls Tryd.prog 27 #[.string s, .string old, .string new] w fun e w' =>
      e = .returned (.string ⟨(Lib.replaceAll s.data.toList old.data.toList new.data.toList).toArray⟩) ∧ Below w.heap.size w w' := Any.strings_ReplaceAll Tryd.lays155 Tryd.Builder_Extra_155 s old new m w hs hm h1 hlen
def Tryd.laysM146_ren : Go.Shelf.Ren := ⟨fun | 146 => 20 | 221 => 28 | 268 => 32 | 138 => 33 | 143 => 34 | 195 => 40 | 197 => 38 | 218 => 41 | 219 => 35 | 260 => 48 | 217 => 42 | 225 => 43 | 224 => 44 | 267 => 45 | 266 => 49 | 314 => 50 | n => n, fun | 9 => 9 | 31 => 28 | 3 => 3 | 4 => 4 | 0 => 0 | 105 => 61 | 21 => 21 | 5 => 5 | 46 => 66 | 119 => 74 | 139 => 77 | 138 => 76 | 146 => 69 | 51 => 68 | n => n, fun | 1 => 0 | 3 => 1 | 4 => 2 | n => n⟩
theorem Tryd.laysM146 : Go.Proofs.LaysM.n146 Tryd.prog Tryd.laysM146_ren := {
  mixed := by kernel_rfl
  f138 := Tryd.func33.trans (congrArg some (by kernel_rfl))
  f143 := Tryd.func34.trans (congrArg some (by kernel_rfl))
  f146 := Tryd.func20.trans (congrArg some (by kernel_rfl))
  f195 := Tryd.func40.trans (congrArg some (by kernel_rfl))
  f197 := Tryd.func38.trans (congrArg some (by kernel_rfl))
  f217 := Tryd.func42.trans (congrArg some (by kernel_rfl))
  f218 := Tryd.func41.trans (congrArg some (by kernel_rfl))
  f219 := Tryd.func35.trans (congrArg some (by kernel_rfl))
  f221 := Tryd.func28.trans (congrArg some (by kernel_rfl))
  f224 := Tryd.func44.trans (congrArg some (by kernel_rfl))
  f225 := Tryd.func43.trans (congrArg some (by kernel_rfl))
  f260 := Tryd.func48.trans (congrArg some (by kernel_rfl))
  f266 := Tryd.func49.trans (congrArg some (by kernel_rfl))
  f267 := Tryd.func45.trans (congrArg some (by kernel_rfl))
  f268 := Tryd.func32.trans (congrArg some (by kernel_rfl))
  f314 := Tryd.func50.trans (congrArg some (by kernel_rfl))
  t0 := Tryd.underlying0
  a0 := Tryd.isAgg0
  z0 := Tryd.sizeOf0
  v0 := Tryd.zeroValue0
  t3 := Tryd.underlying3
  a3 := Tryd.isAgg3
  z3 := Tryd.sizeOf3
  v3 := Tryd.zeroValue3
  t4 := Tryd.underlying4
  a4 := Tryd.isAgg4
  z4 := Tryd.sizeOf4
  v4 := Tryd.zeroValue4
  t5 := Tryd.underlying5
  a5 := Tryd.isAgg5
  z5 := Tryd.sizeOf5
  v5 := Tryd.zeroValue5
  t9 := Tryd.underlying9
  a9 := Tryd.isAgg9
  z9 := Tryd.sizeOf9
  v9 := Tryd.zeroValue9
  t21 := Tryd.underlying21
  a21 := Tryd.isAgg21
  z21 := Tryd.sizeOf21
  v21 := Tryd.zeroValue21
  t31 := Tryd.underlying28
  a31 := Tryd.isAgg28
  z31 := Tryd.sizeOf28
  v31 := Tryd.zeroValue28
  t46 := Tryd.underlying66
  a46 := Tryd.isAgg66
  z46 := Tryd.sizeOf66
  v46 := Tryd.zeroValue66
  t51 := Tryd.underlying68
  a51 := Tryd.isAgg68
  z51 := Tryd.sizeOf68
  v51 := Tryd.zeroValue68
  t105 := Tryd.underlying61
  a105 := Tryd.isAgg61
  z105 := Tryd.sizeOf61
  v105 := Tryd.zeroValue61
  t119 := Tryd.underlying74
  a119 := Tryd.isAgg74
  z119 := Tryd.sizeOf74
  t138 := Tryd.underlying76
  a138 := Tryd.isAgg76
  z138 := Tryd.sizeOf76
  v138 := Tryd.zeroValue76
  t139 := Tryd.underlying77
  a139 := Tryd.isAgg77
  z139 := Tryd.sizeOf77
  v139 := Tryd.zeroValue77
  t146 := Tryd.underlying69
  a146 := Tryd.isAgg69
  z146 := Tryd.sizeOf69
  v146 := Tryd.zeroValue69
  g1 := by kernel_rfl
  g3 := by kernel_rfl
  g4 := by kernel_rfl
  i0 := by kernel_rfl
  i3 := by kernel_rfl
  i4 := by kernel_rfl
  i5 := by kernel_rfl
  i9 := by kernel_rfl
  i21 := by kernel_rfl
  i31 := by kernel_rfl
  i46 := by kernel_rfl
  i51 := by kernel_rfl
  i105 := by kernel_rfl
  i138 := by kernel_rfl
  i139 := by kernel_rfl
  i146 := by kernel_rfl
  m1 := by kernel_rfl
  s1_3 := fun w h => Go.Proofs.cell_of_shapedOpen_int (zero := #[.int .i64 0]) (t := 3) h (of_decide_eq_true (by kernel_rfl)) (by kernel_rfl) rfl (by kernel_rfl) (by kernel_rfl) Tryd.underlying3
  m3 := by kernel_rfl
  m4 := by kernel_rfl }
open Go.RowKit Go.Lib in
theorem Tryd.strings_Split_shaped (s sep : ByteArray) (w : World) (h : w.ShapedOpen Tryd.prog) (hs : s.size < 4294967281) (h1 : 1 ≤ sep.size) :
    Calls Tryd.prog 20 #[.string s, .string sep] w fun e w' =>
      e = .returned (.slice (some ⟨w.heap.size, 0, none⟩) (Lib.countB s sep + 1) (Lib.countB s sep + 1)) ∧ w' = w.alloc (.cells ((Lib.splitB sep 0 (Lib.countB s sep) s).map Value.string).toArray 9) := Any.strings_Split_shaped Tryd.laysM146 s sep w h hs h1
def Tryd.laysM154_ren : Go.Shelf.Ren := ⟨fun | 154 => 31 | 138 => 33 | 165 => 36 | 143 => 34 | 166 => 37 | 197 => 38 | 169 => 39 | 195 => 40 | 218 => 41 | 240 => 46 | 241 => 47 | 219 => 35 | 260 => 48 | 276 => 51 | 277 => 52 | 217 => 42 | 225 => 43 | 224 => 44 | 267 => 45 | 266 => 49 | 314 => 50 | n => n, fun | 9 => 9 | 3 => 3 | 4 => 4 | 72 => 55 | 0 => 0 | 76 => 59 | 105 => 61 | 21 => 21 | 5 => 5 | 70 => 53 | 20 => 20 | 37 => 49 | 75 => 58 | 127 => 67 | 164 => 71 | 46 => 66 | 119 => 74 | 139 => 77 | 138 => 76 | 146 => 69 | 51 => 68 | 80 => 63 | n => n, fun | 1 => 0 | 3 => 1 | 4 => 2 | n => n⟩
theorem Tryd.laysM154 : Go.Proofs.LaysM.n154 Tryd.prog Tryd.laysM154_ren := {
  mixed := by kernel_rfl
  f138 := Tryd.func33.trans (congrArg some (by kernel_rfl))
  f143 := Tryd.func34.trans (congrArg some (by kernel_rfl))
  f154 := Tryd.func31.trans (congrArg some (by kernel_rfl))
  f165 := Tryd.func36.trans (congrArg some (by kernel_rfl))
  f166 := Tryd.func37.trans (congrArg some (by kernel_rfl))
  f169 := Tryd.func39.trans (congrArg some (by kernel_rfl))
  f195 := Tryd.func40.trans (congrArg some (by kernel_rfl))
  f197 := Tryd.func38.trans (congrArg some (by kernel_rfl))
  f217 := Tryd.func42.trans (congrArg some (by kernel_rfl))
  f218 := Tryd.func41.trans (congrArg some (by kernel_rfl))
  f219 := Tryd.func35.trans (congrArg some (by kernel_rfl))
  f224 := Tryd.func44.trans (congrArg some (by kernel_rfl))
  f225 := Tryd.func43.trans (congrArg some (by kernel_rfl))
  f240 := Tryd.func46.trans (congrArg some (by kernel_rfl))
  f241 := Tryd.func47.trans (congrArg some (by kernel_rfl))
  f260 := Tryd.func48.trans (congrArg some (by kernel_rfl))
  f266 := Tryd.func49.trans (congrArg some (by kernel_rfl))
  f267 := Tryd.func45.trans (congrArg some (by kernel_rfl))
  f276 := Tryd.func51.trans (congrArg some (by kernel_rfl))
  f277 := Tryd.func52.trans (congrArg some (by kernel_rfl))
  f314 := Tryd.func50.trans (congrArg some (by kernel_rfl))
  t0 := Tryd.underlying0
  a0 := Tryd.isAgg0
  z0 := Tryd.sizeOf0
  v0 := Tryd.zeroValue0
  t3 := Tryd.underlying3
  a3 := Tryd.isAgg3
  z3 := Tryd.sizeOf3
  v3 := Tryd.zeroValue3
  t4 := Tryd.underlying4
  a4 := Tryd.isAgg4
  z4 := Tryd.sizeOf4
  v4 := Tryd.zeroValue4
  t5 := Tryd.underlying5
  a5 := Tryd.isAgg5
  z5 := Tryd.sizeOf5
  v5 := Tryd.zeroValue5
  t9 := Tryd.underlying9
  a9 := Tryd.isAgg9
  z9 := Tryd.sizeOf9
  v9 := Tryd.zeroValue9
  t20 := Tryd.underlying20
  a20 := Tryd.isAgg20
  z20 := Tryd.sizeOf20
  v20 := Tryd.zeroValue20
  t21 := Tryd.underlying21
  a21 := Tryd.isAgg21
  z21 := Tryd.sizeOf21
  v21 := Tryd.zeroValue21
  t37 := Tryd.underlying49
  a37 := Tryd.isAgg49
  z37 := Tryd.sizeOf49
  v37 := Tryd.zeroValue49
  t46 := Tryd.underlying66
  a46 := Tryd.isAgg66
  z46 := Tryd.sizeOf66
  v46 := Tryd.zeroValue66
  t51 := Tryd.underlying68
  a51 := Tryd.isAgg68
  z51 := Tryd.sizeOf68
  v51 := Tryd.zeroValue68
  t70 := Tryd.underlying53
  a70 := Tryd.isAgg53
  z70 := Tryd.sizeOf53
  v70 := Tryd.zeroValue53
  t72 := Tryd.underlying55
  a72 := Tryd.isAgg55
  z72 := Tryd.sizeOf55
  v72 := Tryd.zeroValue55
  t75 := Tryd.underlying58
  a75 := Tryd.isAgg58
  z75 := Tryd.sizeOf58
  v75 := Tryd.zeroValue58
  t76 := Tryd.underlying59
  a76 := Tryd.isAgg59
  z76 := Tryd.sizeOf59
  v76 := Tryd.zeroValue59
  t105 := Tryd.underlying61
  a105 := Tryd.isAgg61
  z105 := Tryd.sizeOf61
  v105 := Tryd.zeroValue61
  t119 := Tryd.underlying74
  a119 := Tryd.isAgg74
  z119 := Tryd.sizeOf74
  t127 := Tryd.underlying67
  a127 := Tryd.isAgg67
  z127 := Tryd.sizeOf67
  v127 := Tryd.zeroValue67
  t138 := Tryd.underlying76
  a138 := Tryd.isAgg76
  z138 := Tryd.sizeOf76
  v138 := Tryd.zeroValue76
  t139 := Tryd.underlying77
  a139 := Tryd.isAgg77
  z139 := Tryd.sizeOf77
  v139 := Tryd.zeroValue77
  t146 := Tryd.underlying69
  a146 := Tryd.isAgg69
  z146 := Tryd.sizeOf69
  v146 := Tryd.zeroValue69
  t164 := Tryd.underlying71
  a164 := Tryd.isAgg71
  z164 := Tryd.sizeOf71
  v164 := Tryd.zeroValue71
  g1 := by kernel_rfl
  g3 := by kernel_rfl
  g4 := by kernel_rfl
  t80 := Tryd.underlying63
  a80 := Tryd.isAgg63
  z80 := Tryd.sizeOf63
  v80 := Tryd.zeroValue63
  i0 := by kernel_rfl
  i3 := by kernel_rfl
  i4 := by kernel_rfl
  i5 := by kernel_rfl
  i9 := by kernel_rfl
  i20 := by kernel_rfl
  i21 := by kernel_rfl
  i37 := by kernel_rfl
  i46 := by kernel_rfl
  i51 := by kernel_rfl
  i70 := by kernel_rfl
  i72 := by kernel_rfl
  i75 := by kernel_rfl
  i76 := by kernel_rfl
  i80 := by kernel_rfl
  i105 := by kernel_rfl
  i127 := by kernel_rfl
  i138 := by kernel_rfl
  i139 := by kernel_rfl
  i146 := by kernel_rfl
  i164 := by kernel_rfl
  m1 := by kernel_rfl
  s1_3 := fun w h => Go.Proofs.cell_of_shapedOpen_int (zero := #[.int .i64 0]) (t := 3) h (of_decide_eq_true (by kernel_rfl)) (by kernel_rfl) rfl (by kernel_rfl) (by kernel_rfl) Tryd.underlying3
  m3 := by kernel_rfl
  m4 := by kernel_rfl }
theorem Tryd.Builder_Extra_M154 : Builder.Extra Tryd.prog Tryd.laysM154_ren := {
  sizeBuilder := by kernel_rfl
  liesBuilder := by kernel_rfl
  t5 := Tryd.underlying5
  a5 := Tryd.isAgg5
  z5 := Tryd.sizeOf5
  v5 := Tryd.zeroValue5
  infoByte := by kernel_rfl
  cellsByte := by kernel_rfl
  sizeByte := by kernel_rfl
  neB5 := by decide }
open Go.RowKit Go.Lib in
theorem Tryd.strings_Replace_shaped (s old new : ByteArray) (n : Int) (w : World) (h : w.ShapedOpen Tryd.prog) (hs : s.size < 4294967281) (h1 : 1 ≤ old.size) (hlen : s.size + Lib.countB s old * new.size ≤ 140737488355328) :
    Calls Tryd.prog 31 #[.string s, .string old, .string new, .int .i64 n] w fun e w' =>
      e = .returned (.string ⟨(Lib.replace s.data.toList old.data.toList new.data.toList n).toArray⟩) ∧ Below w.heap.size w w' := Any.strings_Replace_shaped Tryd.laysM154 Tryd.Builder_Extra_M154 s old new n w h hs h1 hlen
def Tryd.laysM155_ren : Go.Shelf.Ren := ⟨fun | 155 => 27 | 154 => 31 | 138 => 33 | 165 => 36 | 143 => 34 | 166 => 37 | 197 => 38 | 169 => 39 | 195 => 40 | 218 => 41 | 240 => 46 | 241 => 47 | 219 => 35 | 260 => 48 | 276 => 51 | 277 => 52 | 217 => 42 | 225 => 43 | 224 => 44 | 267 => 45 | 266 => 49 | 314 => 50 | n => n, fun | 9 => 9 | 3 => 3 | 4 => 4 | 72 => 55 | 0 => 0 | 76 => 59 | 105 => 61 | 21 => 21 | 5 => 5 | 70 => 53 | 20 => 20 | 37 => 49 | 75 => 58 | 127 => 67 | 164 => 71 | 46 => 66 | 119 => 74 | 139 => 77 | 138 => 76 | 146 => 69 | 51 => 68 | 80 => 63 | n => n, fun | 1 => 0 | 3 => 1 | 4 => 2 | n => n⟩
theorem Tryd.laysM155 : Go.Proofs.LaysM.n155 Tryd.prog Tryd.laysM155_ren := {
  mixed := by kernel_rfl
  f138 := Tryd.func33.trans (congrArg some (by kernel_rfl))
  f143 := Tryd.func34.trans (congrArg some (by kernel_rfl))
  f154 := Tryd.func31.trans (congrArg some (by kernel_rfl))
  f155 := Tryd.func27.trans (congrArg some (by kernel_rfl))
  f165 := Tryd.func36.trans (congrArg some (by kernel_rfl))
  f166 := Tryd.func37.trans (congrArg some (by kernel_rfl))
  f169 := Tryd.func39.trans (congrArg some (by kernel_rfl))
  f195 := Tryd.func40.trans (congrArg some (by kernel_rfl))
  f197 := Tryd.func38.trans (congrArg some (by kernel_rfl))
  f217 := Tryd.func42.trans (congrArg some (by kernel_rfl))
  f218 := Tryd.func41.trans (congrArg some (by kernel_rfl))
  f219 := Tryd.func35.trans (congrArg some (by kernel_rfl))
  f224 := Tryd.func44.trans (congrArg some (by kernel_rfl))
  f225 := Tryd.func43.trans (congrArg some (by kernel_rfl))
  f240 := Tryd.func46.trans (congrArg some (by kernel_rfl))
  f241 := Tryd.func47.trans (congrArg some (by kernel_rfl))
  f260 := Tryd.func48.trans (congrArg some (by kernel_rfl))
  f266 := Tryd.func49.trans (congrArg some (by kernel_rfl))
  f267 := Tryd.func45.trans (congrArg some (by kernel_rfl))
  f276 := Tryd.func51.trans (congrArg some (by kernel_rfl))
  f277 := Tryd.func52.trans (congrArg some (by kernel_rfl))
  f314 := Tryd.func50.trans (congrArg some (by kernel_rfl))
  t0 := Tryd.underlying0
  a0 := Tryd.isAgg0
  z0 := Tryd.sizeOf0
  v0 := Tryd.zeroValue0
  t3 := Tryd.underlying3
  a3 := Tryd.isAgg3
  z3 := Tryd.sizeOf3
  v3 := Tryd.zeroValue3
  t4 := Tryd.underlying4
  a4 := Tryd.isAgg4
  z4 := Tryd.sizeOf4
  v4 := Tryd.zeroValue4
  t5 := Tryd.underlying5
  a5 := Tryd.isAgg5
  z5 := Tryd.sizeOf5
  v5 := Tryd.zeroValue5
  t9 := Tryd.underlying9
  a9 := Tryd.isAgg9
  z9 := Tryd.sizeOf9
  v9 := Tryd.zeroValue9
  t20 := Tryd.underlying20
  a20 := Tryd.isAgg20
  z20 := Tryd.sizeOf20
  v20 := Tryd.zeroValue20
  t21 := Tryd.underlying21
  a21 := Tryd.isAgg21
  z21 := Tryd.sizeOf21
  v21 := Tryd.zeroValue21
  t37 := Tryd.underlying49
  a37 := Tryd.isAgg49
  z37 := Tryd.sizeOf49
  v37 := Tryd.zeroValue49
  t46 := Tryd.underlying66
  a46 := Tryd.isAgg66
  z46 := Tryd.sizeOf66
  v46 := Tryd.zeroValue66
  t51 := Tryd.underlying68
  a51 := Tryd.isAgg68
  z51 := Tryd.sizeOf68
  v51 := Tryd.zeroValue68
  t70 := Tryd.underlying53
  a70 := Tryd.isAgg53
  z70 := Tryd.sizeOf53
  v70 := Tryd.zeroValue53
  t72 := Tryd.underlying55
  a72 := Tryd.isAgg55
  z72 := Tryd.sizeOf55
  v72 := Tryd.zeroValue55
  t75 := Tryd.underlying58
  a75 := Tryd.isAgg58
  z75 := Tryd.sizeOf58
  v75 := Tryd.zeroValue58
  t76 := Tryd.underlying59
  a76 := Tryd.isAgg59
  z76 := Tryd.sizeOf59
  v76 := Tryd.zeroValue59
  t105 := Tryd.underlying61
  a105 := Tryd.isAgg61
  z105 := Tryd.sizeOf61
  v105 := Tryd.zeroValue61
  t119 := Tryd.underlying74
  a119 := Tryd.isAgg74
  z119 := Tryd.sizeOf74
  t127 := Tryd.underlying67
  a127 := Tryd.isAgg67
  z127 := Tryd.sizeOf67
  v127 := Tryd.zeroValue67
  t138 := Tryd.underlying76
  a138 := Tryd.isAgg76
  z138 := Tryd.sizeOf76
  v138 := Tryd.zeroValue76
  t139 := Tryd.underlying77
  a139 := Tryd.isAgg77
  z139 := Tryd.sizeOf77
  v139 := Tryd.zeroValue77
  t146 := Tryd.underlying69
  a146 := Tryd.isAgg69
  z146 := Tryd.sizeOf69
  v146 := Tryd.zeroValue69
  t164 := Tryd.underlying71
  a164 := Tryd.isAgg71
  z164 := Tryd.sizeOf71
  v164 := Tryd.zeroValue71
  g1 := by kernel_rfl
  g3 := by kernel_rfl
  g4 := by kernel_rfl
  t80 := Tryd.underlying63
  a80 := Tryd.isAgg63
  z80 := Tryd.sizeOf63
  v80 := Tryd.zeroValue63
  i0 := by kernel_rfl
  i3 := by kernel_rfl
  i4 := by kernel_rfl
  i5 := by kernel_rfl
  i9 := by kernel_rfl
  i20 := by kernel_rfl
  i21 := by kernel_rfl
  i37 := by kernel_rfl
  i46 := by kernel_rfl
  i51 := by kernel_rfl
  i70 := by kernel_rfl
  i72 := by kernel_rfl
  i75 := by kernel_rfl
  i76 := by kernel_rfl
  i80 := by kernel_rfl
  i105 := by kernel_rfl
  i127 := by kernel_rfl
  i138 := by kernel_rfl
  i139 := by kernel_rfl
  i146 := by kernel_rfl
  i164 := by kernel_rfl
  m1 := by kernel_rfl
  s1_3 := fun w h => Go.Proofs.cell_of_shapedOpen_int (zero := #[.int .i64 0]) (t := 3) h (of_decide_eq_true (by kernel_rfl)) (by kernel_rfl) rfl (by kernel_rfl) (by kernel_rfl) Tryd.underlying3
  m3 := by kernel_rfl
  m4 := by kernel_rfl }
theorem Tryd.Builder_Extra_M155 : Builder.Extra Tryd.prog Tryd.laysM155_ren := {
  sizeBuilder := by kernel_rfl
  liesBuilder := by kernel_rfl
  t5 := Tryd.underlying5
  a5 := Tryd.isAgg5
  z5 := Tryd.sizeOf5
  v5 := Tryd.zeroValue5
  infoByte := by kernel_rfl
  cellsByte := by kernel_rfl
  sizeByte := by kernel_rfl
  neB5 := by decide }
open Go.RowKit Go.Lib in
theorem Tryd.strings_ReplaceAll_shaped (s old new : ByteArray) (w : World) (h : w.ShapedOpen Tryd.prog) (hs : s.size < 4294967281) (h1 : 1 ≤ old.size) (hlen : s.size + Lib.countB s old * new.size ≤ 140737488355328) :
    Calls Tryd.prog 27 #[.string s, .string old, .string new] w fun e w' =>
      e = .returned (.string ⟨(Lib.replaceAll s.data.toList old.data.toList new.data.toList).toArray⟩) ∧ Below w.heap.size w w' := Any.strings_ReplaceAll_shaped Tryd.laysM155 Tryd.Builder_Extra_M155 s old new w h hs h1 hlen
def Tryd.lays197_ren : Go.Shelf.Ren := ⟨fun | 197 => 38 | 260 => 48 | n => n, fun | 9 => 9 | 21 => 21 | 3 => 3 | 4 => 4 | 5 => 5 | 105 => 61 | 119 => 74 | 0 => 0 | 46 => 66 | 139 => 77 | 138 => 76 | n => n, fun | 3 => 1 | 4 => 2 | n => n⟩
theorem Tryd.lays197 : Go.Proofs.Lays.n197 Tryd.prog Tryd.lays197_ren := {
  mixed := by kernel_rfl
  f197 := Tryd.func38.trans (congrArg some (by kernel_rfl))
  f260 := Tryd.func48.trans (congrArg some (by kernel_rfl))
  t0 := Tryd.underlying0
  a0 := Tryd.isAgg0
  z0 := Tryd.sizeOf0
  v0 := Tryd.zeroValue0
  t3 := Tryd.underlying3
  a3 := Tryd.isAgg3
  z3 := Tryd.sizeOf3
  v3 := Tryd.zeroValue3
  t4 := Tryd.underlying4
  a4 := Tryd.isAgg4
  z4 := Tryd.sizeOf4
  v4 := Tryd.zeroValue4
  t5 := Tryd.underlying5
  a5 := Tryd.isAgg5
  z5 := Tryd.sizeOf5
  v5 := Tryd.zeroValue5
  t9 := Tryd.underlying9
  a9 := Tryd.isAgg9
  z9 := Tryd.sizeOf9
  v9 := Tryd.zeroValue9
  t21 := Tryd.underlying21
  a21 := Tryd.isAgg21
  z21 := Tryd.sizeOf21
  v21 := Tryd.zeroValue21
  t46 := Tryd.underlying66
  a46 := Tryd.isAgg66
  z46 := Tryd.sizeOf66
  v46 := Tryd.zeroValue66
  t105 := Tryd.underlying61
  a105 := Tryd.isAgg61
  z105 := Tryd.sizeOf61
  v105 := Tryd.zeroValue61
  t119 := Tryd.underlying74
  a119 := Tryd.isAgg74
  z119 := Tryd.sizeOf74
  t138 := Tryd.underlying76
  a138 := Tryd.isAgg76
  z138 := Tryd.sizeOf76
  v138 := Tryd.zeroValue76
  t139 := Tryd.underlying77
  a139 := Tryd.isAgg77
  z139 := Tryd.sizeOf77
  v139 := Tryd.zeroValue77
  g3 := by kernel_rfl
  g4 := by kernel_rfl }
open Go.RowKit Go.Lib in
theorem Tryd.utf8_DecodeRuneInString_ascii (s : ByteArray) (x : UInt8) (w : World) (h0 : s.data.toList[0]? = some x) (hx : x.toNat < 128) :
    Calls Tryd.prog 38 #[.string s] w fun e w' => e = .returned (.tuple #[.int .i32 x.toNat, .int .i64 1]) ∧ w' = w := Any.utf8_DecodeRuneInString_ascii Tryd.lays197 s x w h0 hx
open Go.RowKit Go.Lib in
theorem Tryd.utf8_RuneCountInString_ascii (s : ByteArray) (w : World) (hs : s.size < 4294967281) (hascii : ∀ (j : Nat) b, s.data.toList[j]? = some b → b.toNat < 128) :
    Calls Tryd.prog 40 #[.string s] w fun e w' => e = .returned (.int .i64 s.size) ∧ w' = w.iter s s.size := Any.utf8_RuneCountInString_ascii Tryd.lays195 s w hs hascii
def Tryd.lays268_ren : Go.Shelf.Ren := ⟨fun | 268 => 32 | 195 => 40 | 197 => 38 | 260 => 48 | n => n, fun | 9 => 9 | 3 => 3 | 31 => 28 | 4 => 4 | 105 => 61 | 21 => 21 | 0 => 0 | 5 => 5 | 119 => 74 | 46 => 66 | 139 => 77 | 138 => 76 | n => n, fun | 3 => 1 | 4 => 2 | n => n⟩
theorem Tryd.lays268 : Go.Proofs.Lays.n268 Tryd.prog Tryd.lays268_ren := {
  mixed := by kernel_rfl
  f195 := Tryd.func40.trans (congrArg some (by kernel_rfl))
  f197 := Tryd.func38.trans (congrArg some (by kernel_rfl))
  f260 := Tryd.func48.trans (congrArg some (by kernel_rfl))
  f268 := Tryd.func32.trans (congrArg some (by kernel_rfl))
  t0 := Tryd.underlying0
  a0 := Tryd.isAgg0
  z0 := Tryd.sizeOf0
  v0 := Tryd.zeroValue0
  t3 := Tryd.underlying3
  a3 := Tryd.isAgg3
  z3 := Tryd.sizeOf3
  v3 := Tryd.zeroValue3
  t4 := Tryd.underlying4
  a4 := Tryd.isAgg4
  z4 := Tryd.sizeOf4
  v4 := Tryd.zeroValue4
  t5 := Tryd.underlying5
  a5 := Tryd.isAgg5
  z5 := Tryd.sizeOf5
  v5 := Tryd.zeroValue5
  t9 := Tryd.underlying9
  a9 := Tryd.isAgg9
  z9 := Tryd.sizeOf9
  v9 := Tryd.zeroValue9
  t21 := Tryd.underlying21
  a21 := Tryd.isAgg21
  z21 := Tryd.sizeOf21
  v21 := Tryd.zeroValue21
  t31 := Tryd.underlying28
  a31 := Tryd.isAgg28
  z31 := Tryd.sizeOf28
  v31 := Tryd.zeroValue28
  t46 := Tryd.underlying66
  a46 := Tryd.isAgg66
  z46 := Tryd.sizeOf66
  v46 := Tryd.zeroValue66
  t105 := Tryd.underlying61
  a105 := Tryd.isAgg61
  z105 := Tryd.sizeOf61
  v105 := Tryd.zeroValue61
  t119 := Tryd.underlying74
  a119 := Tryd.isAgg74
  z119 := Tryd.sizeOf74
  t138 := Tryd.underlying76
  a138 := Tryd.isAgg76
  z138 := Tryd.sizeOf76
  v138 := Tryd.zeroValue76
  t139 := Tryd.underlying77
  a139 := Tryd.isAgg77
  z139 := Tryd.sizeOf77
  v139 := Tryd.zeroValue77
  g3 := by kernel_rfl
  g4 := by kernel_rfl }
open Go.RowKit Go.Lib in
theorem Tryd.strings_explode_all (s : ByteArray) (n : Int) (w : World) (hn : n < 0) (hs : s.size < 4294967281) (hascii : ∀ (j : Nat) b, s.data.toList[j]? = some b → b.toNat < 128) :
    Calls Tryd.prog 32 #[.string s, .int .i64 n] w fun e w' =>
      e = .returned (.slice (some ⟨(w.iter s s.size).heap.size, 0, none⟩) s.size s.size) ∧ w' = (w.iter s s.size).alloc (.cells ((Lib.charsB s).map Value.string).toArray 9) := Any.strings_explode_all Tryd.lays268 (by kernel_rfl) s n w hn hs hascii
open Go.RowKit Go.Lib in
theorem Tryd.strings_genSplit_chars (s sep : ByteArray) (sv n : Int) (w : World) (h0 : sep.size = 0) (hn : n < 0) (hs : s.size < 4294967281) (hascii : ∀ (j : Nat) b, s.data.toList[j]? = some b → b.toNat < 128) :
    Calls Tryd.prog 28 #[.string s, .string sep, .int .i64 sv, .int .i64 n] w fun e w' =>
      e = .returned (.slice (some ⟨(w.iter s s.size).heap.size, 0, none⟩) s.size s.size) ∧ w' = (w.iter s s.size).alloc (.cells ((Lib.charsB s).map Value.string).toArray 9) := Any.strings_genSplit_chars Tryd.lays221 (by kernel_rfl) s sep sv n w h0 hn hs hascii
open Go.RowKit Go.Lib in
theorem Tryd.strings_Split_chars (s sep : ByteArray) (w : World) (h0 : sep.size = 0) (hs : s.size < 4294967281) (hascii : ∀ (j : Nat) b, s.data.toList[j]? = some b → b.toNat < 128) :
    Calls Tryd.prog 20 #[.string s, .string sep] w fun e w' =>
      e = .returned (.slice (some ⟨(w.iter s s.size).heap.size, 0, none⟩) s.size s.size) ∧ w' = (w.iter s s.size).alloc (.cells ((Lib.charsB s).map Value.string).toArray 9) := Any.strings_Split_chars Tryd.lays146 (by kernel_rfl) s sep w h0 hs hascii
def Tryd.lays260_ren : Go.Shelf.Ren := ⟨fun | 260 => 48 | n => n, fun | 9 => 9 | 21 => 21 | 3 => 3 | 4 => 4 | 5 => 5 | 119 => 74 | 0 => 0 | 46 => 66 | 139 => 77 | 138 => 76 | n => n, fun | 3 => 1 | 4 => 2 | n => n⟩
theorem Tryd.lays260 : Go.Proofs.Lays.n260 Tryd.prog Tryd.lays260_ren := {
  mixed := by kernel_rfl
  f260 := Tryd.func48.trans (congrArg some (by kernel_rfl))
  t0 := Tryd.underlying0
  a0 := Tryd.isAgg0
  z0 := Tryd.sizeOf0
  v0 := Tryd.zeroValue0
  t3 := Tryd.underlying3
  a3 := Tryd.isAgg3
  z3 := Tryd.sizeOf3
  v3 := Tryd.zeroValue3
  t4 := Tryd.underlying4
  a4 := Tryd.isAgg4
  z4 := Tryd.sizeOf4
  v4 := Tryd.zeroValue4
  t5 := Tryd.underlying5
  a5 := Tryd.isAgg5
  z5 := Tryd.sizeOf5
  v5 := Tryd.zeroValue5
  t9 := Tryd.underlying9
  a9 := Tryd.isAgg9
  z9 := Tryd.sizeOf9
  v9 := Tryd.zeroValue9
  t21 := Tryd.underlying21
  a21 := Tryd.isAgg21
  z21 := Tryd.sizeOf21
  v21 := Tryd.zeroValue21
  t46 := Tryd.underlying66
  a46 := Tryd.isAgg66
  z46 := Tryd.sizeOf66
  v46 := Tryd.zeroValue66
  t119 := Tryd.underlying74
  a119 := Tryd.isAgg74
  z119 := Tryd.sizeOf74
  t138 := Tryd.underlying76
  a138 := Tryd.isAgg76
  z138 := Tryd.sizeOf76
  v138 := Tryd.zeroValue76
  t139 := Tryd.underlying77
  a139 := Tryd.isAgg77
  z139 := Tryd.sizeOf77
  v139 := Tryd.zeroValue77
  g3 := by kernel_rfl
  g4 := by kernel_rfl }
open Go.RowKit Go.Lib in
theorem Tryd.utf8_decodeRuneInStringSlow (s : ByteArray) (w : World) (hT : Lib.Utf8Tabs 1 2 w) :
    Calls Tryd.prog 48 #[.string s] w fun e w' => e = .returned (.tuple #[.int .i32 (Lib.decodeGo s).1, .int .i64 (Lib.decodeGo s).2]) ∧ Below w.heap.size w w' := Any.utf8_decodeRuneInStringSlow Tryd.lays260 s w hT
open Go.RowKit Go.Lib in
theorem Tryd.utf8_DecodeRuneInString (s : ByteArray) (w : World) (hT : Lib.Utf8Tabs 1 2 w) :
    Calls Tryd.prog 38 #[.string s] w fun e w' => e = .returned (.tuple #[.int .i32 (Lib.decodeGo s).1, .int .i64 (Lib.decodeGo s).2]) ∧ Below w.heap.size w w' := Any.utf8_DecodeRuneInString Tryd.lays197 s w hT
end Go.Proofs

/- strings.Split, strings.Cut, strings.ReplaceAll as callees. -/
namespace Go.Eng
open Go.RowKit Go.Proofs
theorem RdS.val {w : World} {X : Nat → Prop} {ρ : Rho} {v y : Value} (h : RdS w X ρ (.c (.t (.v v))) y) : y = v := by
  rcases h with h | ⟨h, _⟩
  · cases h
  · exact Rd.inv_v h
theorem RdSs.two {w : World} {X : Nat → Prop} {ρ : Rho} {v1 v2 : Value} {vals : List Value} (h : RdSs w X ρ [.c (.t (.v v1)), .c (.t (.v v2))] vals) : vals = [v1, v2] := by
  match vals, h with
  | [a, b], h => rw [RdS.val (h.2 0 _ a rfl rfl), RdS.val (h.2 1 _ b rfl rfl)]
  | [], h => have := h.1; simp at this
  | [_], h => have := h.1; simp at this
  | _ :: _ :: _ :: _, h => have := h.1; simp at this
theorem RdSs.three {w : World} {X : Nat → Prop} {ρ : Rho} {v1 v2 v3 : Value} {vals : List Value} (h : RdSs w X ρ [.c (.t (.v v1)), .c (.t (.v v2)), .c (.t (.v v3))] vals) : vals = [v1, v2, v3] := by
  match vals, h with
  | [a, b, c], h => rw [RdS.val (h.2 0 _ a rfl rfl), RdS.val (h.2 1 _ b rfl rfl), RdS.val (h.2 2 _ c rfl rfl)]
  | [], h => have := h.1; simp at this
  | [_], h => have := h.1; simp at this
  | [_, _], h => have := h.1; simp at this
  | _ :: _ :: _ :: _ :: _, h => have := h.1; simp at this
theorem global0 : IntGlobal Tryd.prog 0 .i64 := by
  refine ⟨3, #[.int .i64 0], of_decide_eq_true (by kernel_rfl), by kernel_rfl, by kernel_rfl, by kernel_rfl, by kernel_rfl, by kernel_rfl⟩
def sg_strings_Split : Sig := { ps := [.one, .one], bs := [], psh := [.str, .str], rs := [.one], rsh := [.sl 1] }
def strT (s : ByteArray) : T := .v (.string s)
noncomputable def u_strings_Split (t : ByteArray × ByteArray × Unit) : Option (List T × Unit) :=
  if t.1.size < 4294967281 ∧ 1 ≤ t.2.1.size then some ((Lib.splitB t.2.1 0 (Lib.countB t.1 t.2.1) t.1).map strT, ()) else none
theorem k_strings_Split : (calleeOf sg_strings_Split u_strings_Split).OK Tryd.prog 20 := by
  refine libCallee rfl rfl rfl rfl rfl fun t q hq w X F vals hG hX hv => ?_
  unfold u_strings_Split at hq
  split at hq
  case isFalse => cases hq
  rename_i hs
  cases hq
  have hvals : vals = [.string t.1, .string t.2.1] := RdSs.two hv
  subst hvals
  obtain ⟨_, m, hm⟩ := hG 0 .i64 global0
  refine (Tryd.strings_Split t.1 t.2.1 m w hs.1 hm hs.2).mono ?_
  rintro e w' ⟨rfl, rfl⟩
  refine ⟨_, rfl, Stp.alloc _ _ _, RdD.one (c := .t (.sl 1 ((Lib.splitB t.2.1 0 (Lib.countB t.1 t.2.1) t.1).map strT))) ?_ rfl⟩
  have hlen := Lib.splitB_all t.2.1 hs.2 0 _ t.1 rfl
  have hle := Lib.countB_le t.2.1 hs.2 t.1.size t.1 (Nat.le_refl _)
  generalize Lib.splitB t.2.1 0 (Lib.countB t.1 t.2.1) t.1 = l at *
  have hfl : ∀ l : List ByteArray, flat (l.map strT) = l.map strT := fun l => by
    induction l with
    | nil => rfl
    | cons z l ih => rw [List.map_cons, flat_cons, ih]; rfl
  have key := Rd.sl (w := w.alloc (.cells (l.map Value.string).toArray 9)) (X := X) 1 (l.map strT) ⟨w.heap.size, 0, none⟩ (Lib.countB t.1 t.2.1 + 1) (l.map Value.string)
    (by simp; omega) (by unfold maxLen; omega) (fun t ht => by obtain ⟨z, _, rfl⟩ := List.mem_map.1 ht; rfl) (by rw [hfl]; simp)
    (fun i y hi => by
      refine ⟨?_, fun hx => ?_, ?_⟩
      · have ha : (Addr.mk w.heap.size 0 none).add i = ⟨w.heap.size, i, none⟩ := by unfold Addr.add; split <;> simp_all
        have hb : (w.alloc (.cells (l.map Value.string).toArray 9)).heap[w.heap.size]? = some (.cells (l.map Value.string).toArray 9) := by
          show (w.heap.push _)[w.heap.size]? = _
          simp
        rw [ha]
        simp only [World.cell?, hb]
        simpa using hi
      · have := hX _ hx
        exact Nat.lt_irrefl _ this
      · rw [List.getElem?_map] at hi
        obtain ⟨b, hb, rfl⟩ := Option.map_eq_some_iff.1 hi
        rfl)
    (fun i t y h1 h2 => by
      rw [hfl, List.getElem?_map] at h1
      rw [List.getElem?_map] at h2
      obtain ⟨b, hb, rfl⟩ := Option.map_eq_some_iff.1 h1
      obtain ⟨b', hb', rfl⟩ := Option.map_eq_some_iff.1 h2
      rw [hb] at hb'; cases hb'
      exact .v _)
  have hl2 : (l.map strT).length = Lib.countB t.1 t.2.1 + 1 := by simp [hlen]
  rw [hl2] at key
  exact key
def sg_strings_Cut : Sig := { ps := [.one, .one], bs := [], psh := [.str, .str], rs := [.one, .one, .one], rsh := [.str, .str, .bool] }
noncomputable def u_strings_Cut (t : ByteArray × ByteArray × Unit) : Option (ByteArray × ByteArray × Bool × Unit) :=
  if t.1.size < 4294967281 then some (⟨(Lib.cut t.1.data.toList t.2.1.data.toList).1.toArray⟩, ⟨(Lib.cut t.1.data.toList t.2.1.data.toList).2.1.toArray⟩, (Lib.cut t.1.data.toList t.2.1.data.toList).2.2, ()) else none
theorem drewN_stp (w : World) (n : Nat) : Stp (fun _ => False) w (w.drewN n) := ⟨rfl, rfl, rfl, Nat.le_refl _, fun _ _ _ => rfl⟩
theorem k_strings_Cut : (calleeOf sg_strings_Cut u_strings_Cut).OK Tryd.prog 25 := by
  refine libCallee rfl rfl rfl rfl rfl fun t q hq w X F vals hG hX hv => ?_
  unfold u_strings_Cut at hq
  split at hq
  case isFalse => cases hq
  rename_i hs
  cases hq
  have hvals : vals = [.string t.1, .string t.2.1] := RdSs.two hv
  subst hvals
  obtain ⟨_, m, hm⟩ := hG 0 .i64 global0
  refine (Tryd.strings_Cut t.1 t.2.1 m w hs hm).mono ?_
  rintro e w' ⟨rfl, n, rfl⟩
  refine ⟨_, rfl, drewN_stp w n, _, rfl, ?_⟩
  exact RdSs.cons (.inr ⟨.v _, rfl⟩) (RdSs.cons (.inr ⟨.v _, rfl⟩) (RdSs.cons (.inr ⟨.v _, rfl⟩) ⟨rfl, fun i s y h => by cases h⟩))
def sg_strings_ReplaceAll : Sig := { ps := [.one, .one, .one], bs := [], psh := [.str, .str, .str], rs := [.one], rsh := [.str] }
noncomputable def u_strings_ReplaceAll (t : ByteArray × ByteArray × ByteArray × Unit) : Option (ByteArray × Unit) :=
  if t.1.size < 4294967281 ∧ 1 ≤ t.2.1.size ∧ t.1.size + Lib.countB t.1 t.2.1 * t.2.2.1.size ≤ 140737488355328 then some (⟨(Lib.replaceAll t.1.data.toList t.2.1.data.toList t.2.2.1.data.toList).toArray⟩, ()) else none
theorem k_strings_ReplaceAll : (calleeOf sg_strings_ReplaceAll u_strings_ReplaceAll).OK Tryd.prog 27 := by
  refine libCallee rfl rfl rfl rfl rfl fun t q hq w X F vals hG hX hv => ?_
  unfold u_strings_ReplaceAll at hq
  split at hq
  case isFalse => cases hq
  rename_i hs
  cases hq
  have hvals : vals = [.string t.1, .string t.2.1, .string t.2.2.1] := RdSs.three hv
  subst hvals
  obtain ⟨_, m, hm⟩ := hG 0 .i64 global0
  refine (Tryd.strings_ReplaceAll t.1 t.2.1 t.2.2.1 m w hs.1 hm hs.2.1 hs.2.2).mono ?_
  rintro e w' ⟨rfl, hb⟩
  exact ⟨_, rfl, ⟨hb.os, hb.tape, hb.output, hb.size, fun b hlt _ => hb.block b hlt⟩, .inr ⟨.v _, rfl⟩⟩
end Go.Eng

namespace Go.Eng
open Go.Proofs
theorem mixed : Tryd.prog.follows .mixedOrders = true := by kernel_rfl

/-! brepkernelmade_Mod -/
def sg_brepkernelmade_Mod : Sig := { ps := [.one, .one], bs := [], psh := [.int Go.IntKind.i64, .int Go.IntKind.i64], rs := [.one], rsh := [.int Go.IntKind.i64] }
noncomputable def g_brepkernelmade_Mod : List (Go.FuncId × Callee) := []
noncomputable def u_brepkernelmade_Mod (t : (Int × (Int × Unit))) : Option (Int × Unit) :=
  (ob (Go.Eng.nz t.2.1) fun x0 => (ob (α := ((Int × Unit) ⊕ Empty)) (bif (Go.Eng.ltI (Go.Eng.modI t.1 x0) (0 : Int)) then (some (Sum.inl ((Go.Eng.wr Go.IntKind.i64 (Go.Eng.addI (Go.Eng.modI t.1 x0) t.2.1)), ()))) else (some (Sum.inl ((Go.Eng.modI t.1 x0), ())))) fun q1 => onS q1 (fun t2 => (some (t2.1, ()))) fun q3 => noS q3))
def h_brepkernelmade_Mod : HT := (.seq .leaf (.seq .leaf (.seq (.join [(AEx.normal, { items := [.slot 0], shapes := [.int Go.IntKind.i64] })] .leaf) .leaf)))
theorem ok_brepkernelmade_Mod : TabOK Tryd.prog [] g_brepkernelmade_Mod := TabOK.nil
theorem e_brepkernelmade_Mod : ∀ t, bodyG Tryd.prog g_brepkernelmade_Mod [] h_brepkernelmade_Mod Tryd.f24 sg_brepkernelmade_Mod t = u_brepkernelmade_Mod t := by
  intro t
  kernel_rfl
theorem k_brepkernelmade_Mod : (calleeOf sg_brepkernelmade_Mod u_brepkernelmade_Mod).OK Tryd.prog 24 := calleeG_ok mixed ok_brepkernelmade_Mod Tryd.func24 (by kernel_rfl) (by kernel_rfl) e_brepkernelmade_Mod

/-! brepkernelmade_Roll -/
def sg_brepkernelmade_Roll : Sig := { ps := [.one], bs := [], psh := [.sl 1], rs := [.new 2], rsh := [.sl 1, .int Go.IntKind.i64] }
noncomputable def g_brepkernelmade_Roll : List (Go.FuncId × Callee) := []
noncomputable def u_brepkernelmade_Roll (t : ((List T) × Unit)) : Option ((List T) × (Int × Unit)) :=
  (some (t.1, ((0 : Int), ())))
def h_brepkernelmade_Roll : HT := .leaf
theorem ok_brepkernelmade_Roll : TabOK Tryd.prog [] g_brepkernelmade_Roll := TabOK.nil
theorem e_brepkernelmade_Roll : ∀ t, bodyG Tryd.prog g_brepkernelmade_Roll [] h_brepkernelmade_Roll Tryd.f6 sg_brepkernelmade_Roll t = u_brepkernelmade_Roll t := by
  intro t
  kernel_rfl
theorem k_brepkernelmade_Roll : (calleeOf sg_brepkernelmade_Roll u_brepkernelmade_Roll).OK Tryd.prog 6 := calleeG_ok mixed ok_brepkernelmade_Roll Tryd.func6 (by kernel_rfl) (by kernel_rfl) e_brepkernelmade_Roll

/-! brepkernelmade_Light -/
def sg_brepkernelmade_Light : Sig := { ps := [.one], bs := [], psh := [.sl 1], rs := [.one], rsh := [.bool] }
noncomputable def g_brepkernelmade_Light : List (Go.FuncId × Callee) := []
noncomputable def u_brepkernelmade_Light (t : ((List T) × Unit)) : Option (Bool × Unit) :=
  (some ((Go.Eng.leI (Go.Eng.lenL t.1) (500 : Int)), ()))
def h_brepkernelmade_Light : HT := .leaf
theorem ok_brepkernelmade_Light : TabOK Tryd.prog [] g_brepkernelmade_Light := TabOK.nil
theorem e_brepkernelmade_Light : ∀ t, bodyG Tryd.prog g_brepkernelmade_Light [] h_brepkernelmade_Light Tryd.f4 sg_brepkernelmade_Light t = u_brepkernelmade_Light t := by
  intro t
  kernel_rfl
theorem k_brepkernelmade_Light : (calleeOf sg_brepkernelmade_Light u_brepkernelmade_Light).OK Tryd.prog 4 := calleeG_ok mixed ok_brepkernelmade_Light Tryd.func4 (by kernel_rfl) (by kernel_rfl) e_brepkernelmade_Light

/-! __brepkernelmade_Dice__Next -/
def sg___brepkernelmade_Dice__Next : Sig := { ps := [.one, .one], bs := [2], psh := [.lit (.box 0 0), .int Go.IntKind.i64, .sl 1, .int Go.IntKind.i64], rs := [.one], rsh := [.int Go.IntKind.i64, .sl 1, .int Go.IntKind.i64] }
noncomputable def g___brepkernelmade_Dice__Next : List (Go.FuncId × Callee) := [(24, (calleeOf sg_brepkernelmade_Mod u_brepkernelmade_Mod))]
noncomputable def u___brepkernelmade_Dice__Next (t : (Unit × (Int × ((List T) × (Int × Unit))))) : Option (Int × ((List T) × (Int × Unit))) :=
  (bif (Go.Eng.leI (Go.Eng.lenL t.2.2.1) t.2.2.2.1) then (some ((0 : Int), (t.2.2.1, (t.2.2.2.1, ())))) else (ob (Go.Eng.idxL t.2.2.1 (Go.Eng.wr Go.IntKind.i64 (Go.Eng.subI (Go.Eng.wr Go.IntKind.i64 (Go.Eng.addI t.2.2.2.1 (1 : Int))) (1 : Int)))) fun x0 => (ob (Go.Eng.T.int? Go.IntKind.i64 (Go.Eng.T.cell x0 0)) fun x1 => (ob (Go.Eng.u_brepkernelmade_Mod (x1, (t.2.1, ()))) fun x2 => (some (x2.1, (t.2.2.1, ((Go.Eng.wr Go.IntKind.i64 (Go.Eng.addI t.2.2.2.1 (1 : Int))), ()))))))))
def h___brepkernelmade_Dice__Next : HT := .leaf
theorem ok___brepkernelmade_Dice__Next : TabOK Tryd.prog [24] g___brepkernelmade_Dice__Next := (TabOK.cons ⟨_, Tryd.func24, by kernel_rfl, by kernel_rfl⟩ k_brepkernelmade_Mod (calleeOf_nat _ _) (fun _ => (calleeOf_pure (by kernel_rfl))) TabOK.nil)
theorem e___brepkernelmade_Dice__Next : ∀ t, bodyG Tryd.prog g___brepkernelmade_Dice__Next [24] h___brepkernelmade_Dice__Next Tryd.f17 sg___brepkernelmade_Dice__Next t = u___brepkernelmade_Dice__Next t := by
  intro t
  kernel_rfl
theorem k___brepkernelmade_Dice__Next : (calleeOf sg___brepkernelmade_Dice__Next u___brepkernelmade_Dice__Next).OK Tryd.prog 17 := calleeG_ok mixed ok___brepkernelmade_Dice__Next Tryd.func17 (by kernel_rfl) (by kernel_rfl) e___brepkernelmade_Dice__Next

/-! brepkernellaw43_word -/
def sg_brepkernellaw43_word : Sig := { ps := [.one], bs := [2], psh := [.lit (.box 0 0), .sl 1, .int Go.IntKind.i64], rs := [.one], rsh := [.str, .sl 1, .int Go.IntKind.i64] }
noncomputable def g_brepkernellaw43_word : List (Go.FuncId × Callee) := [(17, (calleeOf sg___brepkernelmade_Dice__Next u___brepkernelmade_Dice__Next))]
noncomputable def u_brepkernellaw43_word_l0 (s1 : (Unit × ByteArray × Int × List T × Int × Unit)) : Option ((Unit × ByteArray × Int × List T × Int × Unit) ⊕ ((ByteArray × List T × Int × Unit) ⊕ Empty)) :=
  (bif (Go.Eng.leI (0 : Int) s1.2.2.1) then (ob (Go.Eng.u___brepkernelmade_Dice__Next ((), ((11 : Int), (s1.2.2.2.1, (s1.2.2.2.2.1, ()))))) fun x2 => (ob (Go.Eng.chkI (Go.Eng.lenL [(Go.Eng.T.v (Go.Value.string (ByteArray.mk #[97]))), (Go.Eng.T.v (Go.Value.string (ByteArray.mk #[98]))), (Go.Eng.T.v (Go.Value.string (ByteArray.mk #[46]))), (Go.Eng.T.v (Go.Value.string (ByteArray.mk #[43]))), (Go.Eng.T.v (Go.Value.string (ByteArray.mk #[120, 48]))), (Go.Eng.T.v (Go.Value.string (ByteArray.mk #[97, 46, 120, 48]))), (Go.Eng.T.v (Go.Value.string (ByteArray.mk #[43, 98, 46, 121, 49]))), (Go.Eng.T.v (Go.Value.string (ByteArray.mk #[95]))), (Go.Eng.T.v (Go.Value.string (ByteArray.mk #[97, 46, 98, 46, 99]))), (Go.Eng.T.v (Go.Value.string (ByteArray.mk #[97, 46, 115, 48, 46, 49, 43, 98, 46, 116, 111, 112]))), (Go.Eng.T.v (Go.Value.string (ByteArray.mk #[32])))]) x2.1) fun x3 => (ob (Go.Eng.idxN [(Go.Eng.T.v (Go.Value.string (ByteArray.mk #[97]))), (Go.Eng.T.v (Go.Value.string (ByteArray.mk #[98]))), (Go.Eng.T.v (Go.Value.string (ByteArray.mk #[46]))), (Go.Eng.T.v (Go.Value.string (ByteArray.mk #[43]))), (Go.Eng.T.v (Go.Value.string (ByteArray.mk #[120, 48]))), (Go.Eng.T.v (Go.Value.string (ByteArray.mk #[97, 46, 120, 48]))), (Go.Eng.T.v (Go.Value.string (ByteArray.mk #[43, 98, 46, 121, 49]))), (Go.Eng.T.v (Go.Value.string (ByteArray.mk #[95]))), (Go.Eng.T.v (Go.Value.string (ByteArray.mk #[97, 46, 98, 46, 99]))), (Go.Eng.T.v (Go.Value.string (ByteArray.mk #[97, 46, 115, 48, 46, 49, 43, 98, 46, 116, 111, 112]))), (Go.Eng.T.v (Go.Value.string (ByteArray.mk #[32])))] x3) fun x4 => (ob (Go.Eng.T.str? (Go.Eng.T.cell x4 0)) fun x5 => (ob (Go.Eng.catS s1.2.1 x5) fun x6 => (some (Sum.inl ((), (x6, ((Go.Eng.wr Go.IntKind.i64 (Go.Eng.subI s1.2.2.1 (1 : Int))), (x2.2.1, (x2.2.2.1, ())))))))))))) else (some (Sum.inr (Sum.inl (s1.2.1, (s1.2.2.2.1, (s1.2.2.2.2.1, ())))))))
noncomputable def u_brepkernellaw43_word (t : (Unit × ((List T) × (Int × Unit)))) : Option (ByteArray × ((List T) × (Int × Unit))) :=
  (ob (Go.Eng.u___brepkernelmade_Dice__Next ((), ((4 : Int), (t.2.1, (t.2.2.1, ()))))) fun x0 => (ob (loopU u_brepkernellaw43_word_l0 ((), ((ByteArray.mk #[]), (x0.1, (x0.2.1, (x0.2.2.1, ())))))) fun q7 => onS q7 (fun t8 => (some (t8.1, (t8.2.1, (t8.2.2.1, ()))))) fun q9 => noS q9))
def h_brepkernellaw43_word : HT := (.seq .leaf (.seq .leaf (.seq (.seq .leaf (.one (.loop { items := [.slot 0, .slot 3, .slot 4, .box 0 2], shapes := [.lit (Go.Eng.C.box 0 0), .str, .int Go.IntKind.i64, .sl 1, .int Go.IntKind.i64] } [((AEx.exit 0), { items := [.slot 3, .box 0 2], shapes := [.str, .sl 1, .int Go.IntKind.i64] })] .leaf))) .leaf)))
theorem ok_brepkernellaw43_word : TabOK Tryd.prog [] g_brepkernellaw43_word := (TabOK.cons ⟨_, Tryd.func17, by kernel_rfl, by kernel_rfl⟩ k___brepkernelmade_Dice__Next (calleeOf_nat _ _) (fun h => by cases h) TabOK.nil)
theorem e_brepkernellaw43_word : ∀ t, bodyG Tryd.prog g_brepkernellaw43_word [] h_brepkernellaw43_word Tryd.f7 sg_brepkernellaw43_word t = u_brepkernellaw43_word t := by
  intro t
  kernel_rfl
theorem k_brepkernellaw43_word : (calleeOf sg_brepkernellaw43_word u_brepkernellaw43_word).OK Tryd.prog 7 := calleeG_ok mixed ok_brepkernellaw43_word Tryd.func7 (by kernel_rfl) (by kernel_rfl) e_brepkernellaw43_word

/-! names_Plain -/
def sg_names_Plain : Sig := { ps := [.one], bs := [], psh := [.str], rs := [.one], rsh := [.bool] }
noncomputable def g_names_Plain : List (Go.FuncId × Callee) := []
noncomputable def u_names_Plain_l0 (s1 : (ByteArray × List T × Int × Int × Unit)) : Option ((ByteArray × List T × Int × Int × Unit) ⊕ ((Bool × Unit) ⊕ ((ByteArray × Unit) ⊕ Empty))) :=
  (bif (Go.Eng.ltI s1.2.2.2.1 s1.2.2.1) then (ob (Go.Eng.idxL s1.2.1 s1.2.2.2.1) fun x2 => (ob (Go.Eng.T.int? Go.IntKind.u8 (Go.Eng.T.cell x2 0)) fun x3 => (bif (Go.Eng.leI (97 : Int) x3) then (ob (Go.Eng.T.int? Go.IntKind.u8 (Go.Eng.T.cell x2 0)) fun x4 => (bif (Go.Eng.leI x4 (122 : Int)) then (some (Sum.inl (s1.1, (s1.2.1, (s1.2.2.1, ((Go.Eng.wr Go.IntKind.i64 (Go.Eng.addI s1.2.2.2.1 (1 : Int))), ())))))) else (ob (Go.Eng.T.int? Go.IntKind.u8 (Go.Eng.T.cell x2 0)) fun x5 => (bif (Go.Eng.leI (65 : Int) x5) then (ob (Go.Eng.T.int? Go.IntKind.u8 (Go.Eng.T.cell x2 0)) fun x6 => (bif (Go.Eng.leI x6 (90 : Int)) then (some (Sum.inl (s1.1, (s1.2.1, (s1.2.2.1, ((Go.Eng.wr Go.IntKind.i64 (Go.Eng.addI s1.2.2.2.1 (1 : Int))), ())))))) else (ob (Go.Eng.T.int? Go.IntKind.u8 (Go.Eng.T.cell x2 0)) fun x7 => (bif (Go.Eng.leI (48 : Int) x7) then (ob (Go.Eng.T.int? Go.IntKind.u8 (Go.Eng.T.cell x2 0)) fun x8 => (bif (Go.Eng.leI x8 (57 : Int)) then (some (Sum.inl (s1.1, (s1.2.1, (s1.2.2.1, ((Go.Eng.wr Go.IntKind.i64 (Go.Eng.addI s1.2.2.2.1 (1 : Int))), ())))))) else (ob (Go.Eng.T.int? Go.IntKind.u8 (Go.Eng.T.cell x2 0)) fun x9 => (bif (Bool.not (Go.Eng.eqI x9 (95 : Int))) then (some (Sum.inr (Sum.inl (Bool.false, ())))) else (some (Sum.inl (s1.1, (s1.2.1, (s1.2.2.1, ((Go.Eng.wr Go.IntKind.i64 (Go.Eng.addI s1.2.2.2.1 (1 : Int))), ())))))))))) else (ob (Go.Eng.T.int? Go.IntKind.u8 (Go.Eng.T.cell x2 0)) fun x10 => (bif (Bool.not (Go.Eng.eqI x10 (95 : Int))) then (some (Sum.inr (Sum.inl (Bool.false, ())))) else (some (Sum.inl (s1.1, (s1.2.1, (s1.2.2.1, ((Go.Eng.wr Go.IntKind.i64 (Go.Eng.addI s1.2.2.2.1 (1 : Int))), ())))))))))))) else (ob (Go.Eng.T.int? Go.IntKind.u8 (Go.Eng.T.cell x2 0)) fun x11 => (bif (Go.Eng.leI (48 : Int) x11) then (ob (Go.Eng.T.int? Go.IntKind.u8 (Go.Eng.T.cell x2 0)) fun x12 => (bif (Go.Eng.leI x12 (57 : Int)) then (some (Sum.inl (s1.1, (s1.2.1, (s1.2.2.1, ((Go.Eng.wr Go.IntKind.i64 (Go.Eng.addI s1.2.2.2.1 (1 : Int))), ())))))) else (ob (Go.Eng.T.int? Go.IntKind.u8 (Go.Eng.T.cell x2 0)) fun x13 => (bif (Bool.not (Go.Eng.eqI x13 (95 : Int))) then (some (Sum.inr (Sum.inl (Bool.false, ())))) else (some (Sum.inl (s1.1, (s1.2.1, (s1.2.2.1, ((Go.Eng.wr Go.IntKind.i64 (Go.Eng.addI s1.2.2.2.1 (1 : Int))), ())))))))))) else (ob (Go.Eng.T.int? Go.IntKind.u8 (Go.Eng.T.cell x2 0)) fun x14 => (bif (Bool.not (Go.Eng.eqI x14 (95 : Int))) then (some (Sum.inr (Sum.inl (Bool.false, ())))) else (some (Sum.inl (s1.1, (s1.2.1, (s1.2.2.1, ((Go.Eng.wr Go.IntKind.i64 (Go.Eng.addI s1.2.2.2.1 (1 : Int))), ())))))))))))))) else (ob (Go.Eng.T.int? Go.IntKind.u8 (Go.Eng.T.cell x2 0)) fun x15 => (bif (Go.Eng.leI (65 : Int) x15) then (ob (Go.Eng.T.int? Go.IntKind.u8 (Go.Eng.T.cell x2 0)) fun x16 => (bif (Go.Eng.leI x16 (90 : Int)) then (some (Sum.inl (s1.1, (s1.2.1, (s1.2.2.1, ((Go.Eng.wr Go.IntKind.i64 (Go.Eng.addI s1.2.2.2.1 (1 : Int))), ())))))) else (ob (Go.Eng.T.int? Go.IntKind.u8 (Go.Eng.T.cell x2 0)) fun x17 => (bif (Go.Eng.leI (48 : Int) x17) then (ob (Go.Eng.T.int? Go.IntKind.u8 (Go.Eng.T.cell x2 0)) fun x18 => (bif (Go.Eng.leI x18 (57 : Int)) then (some (Sum.inl (s1.1, (s1.2.1, (s1.2.2.1, ((Go.Eng.wr Go.IntKind.i64 (Go.Eng.addI s1.2.2.2.1 (1 : Int))), ())))))) else (ob (Go.Eng.T.int? Go.IntKind.u8 (Go.Eng.T.cell x2 0)) fun x19 => (bif (Bool.not (Go.Eng.eqI x19 (95 : Int))) then (some (Sum.inr (Sum.inl (Bool.false, ())))) else (some (Sum.inl (s1.1, (s1.2.1, (s1.2.2.1, ((Go.Eng.wr Go.IntKind.i64 (Go.Eng.addI s1.2.2.2.1 (1 : Int))), ())))))))))) else (ob (Go.Eng.T.int? Go.IntKind.u8 (Go.Eng.T.cell x2 0)) fun x20 => (bif (Bool.not (Go.Eng.eqI x20 (95 : Int))) then (some (Sum.inr (Sum.inl (Bool.false, ())))) else (some (Sum.inl (s1.1, (s1.2.1, (s1.2.2.1, ((Go.Eng.wr Go.IntKind.i64 (Go.Eng.addI s1.2.2.2.1 (1 : Int))), ())))))))))))) else (ob (Go.Eng.T.int? Go.IntKind.u8 (Go.Eng.T.cell x2 0)) fun x21 => (bif (Go.Eng.leI (48 : Int) x21) then (ob (Go.Eng.T.int? Go.IntKind.u8 (Go.Eng.T.cell x2 0)) fun x22 => (bif (Go.Eng.leI x22 (57 : Int)) then (some (Sum.inl (s1.1, (s1.2.1, (s1.2.2.1, ((Go.Eng.wr Go.IntKind.i64 (Go.Eng.addI s1.2.2.2.1 (1 : Int))), ())))))) else (ob (Go.Eng.T.int? Go.IntKind.u8 (Go.Eng.T.cell x2 0)) fun x23 => (bif (Bool.not (Go.Eng.eqI x23 (95 : Int))) then (some (Sum.inr (Sum.inl (Bool.false, ())))) else (some (Sum.inl (s1.1, (s1.2.1, (s1.2.2.1, ((Go.Eng.wr Go.IntKind.i64 (Go.Eng.addI s1.2.2.2.1 (1 : Int))), ())))))))))) else (ob (Go.Eng.T.int? Go.IntKind.u8 (Go.Eng.T.cell x2 0)) fun x24 => (bif (Bool.not (Go.Eng.eqI x24 (95 : Int))) then (some (Sum.inr (Sum.inl (Bool.false, ())))) else (some (Sum.inl (s1.1, (s1.2.1, (s1.2.2.1, ((Go.Eng.wr Go.IntKind.i64 (Go.Eng.addI s1.2.2.2.1 (1 : Int))), ()))))))))))))))) else (some (Sum.inr (Sum.inr (Sum.inl (s1.1, ()))))))
noncomputable def u_names_Plain (t : (ByteArray × Unit)) : Option (Bool × Unit) :=
  (ob (Go.Eng.bytesO t.1) fun x0 => (ob (loopU u_names_Plain_l0 (t.1, (x0, ((Go.Eng.lenL x0), ((0 : Int), ()))))) fun q25 => onS q25 (fun t26 => (some (t26.1, ()))) fun q27 => onS q27 (fun t28 => (some ((Bool.not (Go.Eng.eqS t28.1 (ByteArray.mk #[]))), ()))) fun q29 => noS q29))
def h_names_Plain : HT := (.seq .leaf (.seq (.seq .leaf (.one (.loop { items := [.slot 0, .slot 6, .slot 7, .slot 8], shapes := [.str, .sl 1, .int Go.IntKind.i64, .int Go.IntKind.i64] } [(AEx.ret, { items := [.slot 2], shapes := [.bool] }), ((AEx.exit 0), { items := [.slot 0], shapes := [.str] })] .leaf))) .leaf))
theorem ok_names_Plain : TabOK Tryd.prog [] g_names_Plain := TabOK.nil
theorem e_names_Plain : ∀ t, bodyG Tryd.prog g_names_Plain [] h_names_Plain Tryd.f26 sg_names_Plain t = u_names_Plain t := by
  intro t
  kernel_rfl
theorem k_names_Plain : (calleeOf sg_names_Plain u_names_Plain).OK Tryd.prog 26 := calleeG_ok mixed ok_names_Plain Tryd.func26 (by kernel_rfl) (by kernel_rfl) e_names_Plain

/-! names_part -/
def sg_names_part : Sig := { ps := [.one], bs := [], psh := [.str], rs := [.one, .one, .one], rsh := [.str, .str, .bool] }
noncomputable def g_names_part : List (Go.FuncId × Callee) := [(25, (calleeOf sg_strings_Cut u_strings_Cut)), (26, (calleeOf sg_names_Plain u_names_Plain)), (27, (calleeOf sg_strings_ReplaceAll u_strings_ReplaceAll))]
noncomputable def u_names_part (t : (ByteArray × Unit)) : Option (ByteArray × (ByteArray × (Bool × Unit))) :=
  (ob (Go.Eng.u_strings_Cut (t.1, ((ByteArray.mk #[46]), ()))) fun x0 => (bif (Bool.not x0.2.2.1) then (some ((ByteArray.mk #[]), ((ByteArray.mk #[]), (Bool.false, ())))) else (ob (Go.Eng.u_names_Plain (x0.1, ())) fun x1 => (bif (Bool.not x1.1) then (some ((ByteArray.mk #[]), ((ByteArray.mk #[]), (Bool.false, ())))) else (bif (Go.Eng.eqS x0.2.1 (ByteArray.mk #[])) then (some ((ByteArray.mk #[]), ((ByteArray.mk #[]), (Bool.false, ())))) else (ob (Go.Eng.u_strings_ReplaceAll (x0.2.1, ((ByteArray.mk #[46]), ((ByteArray.mk #[]), ())))) fun x2 => (ob (Go.Eng.catS (ByteArray.mk #[95]) x2.1) fun x3 => (ob (Go.Eng.u_names_Plain (x3, ())) fun x4 => (some (x0.1, (x0.2.1, (x4.1, ()))))))))))))
def h_names_part : HT := .leaf
theorem ok_names_part : TabOK Tryd.prog [25, 26, 27] g_names_part := (TabOK.cons ⟨_, Tryd.func25, by kernel_rfl, by kernel_rfl⟩ k_strings_Cut (calleeOf_nat _ _) (fun _ => (calleeOf_pure (by kernel_rfl))) (TabOK.cons ⟨_, Tryd.func26, by kernel_rfl, by kernel_rfl⟩ k_names_Plain (calleeOf_nat _ _) (fun _ => (calleeOf_pure (by kernel_rfl))) (TabOK.cons ⟨_, Tryd.func27, by kernel_rfl, by kernel_rfl⟩ k_strings_ReplaceAll (calleeOf_nat _ _) (fun _ => (calleeOf_pure (by kernel_rfl))) TabOK.nil)))
theorem e_names_part : ∀ t, bodyG Tryd.prog g_names_part [25, 26, 27] h_names_part Tryd.f18 sg_names_part t = u_names_part t := by
  intro t
  kernel_rfl
theorem k_names_part : (calleeOf sg_names_part u_names_part).OK Tryd.prog 18 := calleeG_ok mixed ok_names_part Tryd.func18 (by kernel_rfl) (by kernel_rfl) e_names_part

/-! names_Valid -/
def sg_names_Valid : Sig := { ps := [.one], bs := [], psh := [.str], rs := [.one], rsh := [.bool] }
noncomputable def g_names_Valid : List (Go.FuncId × Callee) := [(20, (calleeOf sg_strings_Split u_strings_Split)), (18, (calleeOf sg_names_part u_names_part))]
noncomputable def u_names_Valid_l0 (s1 : (ByteArray × List T × Int × Int × Unit)) : Option ((ByteArray × List T × Int × Int × Unit) ⊕ ((Bool × Unit) ⊕ ((Unit) ⊕ Empty))) :=
  (bif (Go.Eng.ltI s1.2.2.2.1 s1.2.2.1) then (ob (Go.Eng.idxL s1.2.1 s1.2.2.2.1) fun x2 => (ob (Go.Eng.T.str? (Go.Eng.T.cell x2 0)) fun x3 => (ob (Go.Eng.u_names_part (x3, ())) fun x4 => (bif (Bool.not x4.2.2.1) then (some (Sum.inr (Sum.inl (Bool.false, ())))) else (ob (Go.Eng.T.str? (Go.Eng.T.cell x2 0)) fun x5 => (bif (Bool.or (Go.Eng.ltS x5 s1.1) (Go.Eng.eqS x5 s1.1)) then (some (Sum.inr (Sum.inl (Bool.false, ())))) else (ob (Go.Eng.T.str? (Go.Eng.T.cell x2 0)) fun x6 => (some (Sum.inl (x6, (s1.2.1, (s1.2.2.1, ((Go.Eng.wr Go.IntKind.i64 (Go.Eng.addI s1.2.2.2.1 (1 : Int))), ()))))))))))))) else (some (Sum.inr (Sum.inr (Sum.inl ())))))
noncomputable def u_names_Valid (t : (ByteArray × Unit)) : Option (Bool × Unit) :=
  (ob (Go.Eng.u_strings_Split (t.1, ((ByteArray.mk #[43]), ()))) fun x0 => (ob (loopU u_names_Valid_l0 ((ByteArray.mk #[]), (x0.1, ((Go.Eng.lenL x0.1), ((0 : Int), ()))))) fun q7 => onS q7 (fun t8 => (some (t8.1, ()))) fun q9 => onS q9 (fun t10 => (some (Bool.true, ()))) fun q11 => noS q11))
def h_names_Valid : HT := (.seq .leaf (.seq .leaf (.seq (.seq .leaf (.one (.loop { items := [.slot 3, .slot 10, .slot 11, .slot 12], shapes := [.str, .sl 1, .int Go.IntKind.i64, .int Go.IntKind.i64] } [(AEx.ret, { items := [.slot 2], shapes := [.bool] }), ((AEx.exit 0), { items := [], shapes := [] })] .leaf))) .leaf)))
theorem ok_names_Valid : TabOK Tryd.prog [18] g_names_Valid := (TabOK.cons ⟨_, Tryd.func20, by kernel_rfl, by kernel_rfl⟩ k_strings_Split (calleeOf_nat _ _) (fun h => by cases h) (TabOK.cons ⟨_, Tryd.func18, by kernel_rfl, by kernel_rfl⟩ k_names_part (calleeOf_nat _ _) (fun _ => (calleeOf_pure (by kernel_rfl))) TabOK.nil))
theorem e_names_Valid : ∀ t, bodyG Tryd.prog g_names_Valid [18] h_names_Valid Tryd.f10 sg_names_Valid t = u_names_Valid t := by
  intro t
  kernel_rfl
theorem k_names_Valid : (calleeOf sg_names_Valid u_names_Valid).OK Tryd.prog 10 := calleeG_ok mixed ok_names_Valid Tryd.func10 (by kernel_rfl) (by kernel_rfl) e_names_Valid

/-! names_Parts -/
def sg_names_Parts : Sig := { ps := [.one], bs := [], psh := [.str], rs := [.one], rsh := [.sl 1] }
noncomputable def g_names_Parts : List (Go.FuncId × Callee) := [(10, (calleeOf sg_names_Valid u_names_Valid)), (20, (calleeOf sg_strings_Split u_strings_Split))]
noncomputable def u_names_Parts (t : (ByteArray × Unit)) : Option ((List T) × Unit) :=
  (ob (Go.Eng.u_names_Valid (t.1, ())) fun x0 => (bif (Bool.not x0.1) then (some ([], ())) else (ob (Go.Eng.u_strings_Split (t.1, ((ByteArray.mk #[43]), ()))) fun x1 => (some (x1.1, ())))))
def h_names_Parts : HT := .leaf
theorem ok_names_Parts : TabOK Tryd.prog [10] g_names_Parts := (TabOK.cons ⟨_, Tryd.func10, by kernel_rfl, by kernel_rfl⟩ k_names_Valid (calleeOf_nat _ _) (fun _ => (calleeOf_pure (by kernel_rfl))) (TabOK.cons ⟨_, Tryd.func20, by kernel_rfl, by kernel_rfl⟩ k_strings_Split (calleeOf_nat _ _) (fun h => by cases h) TabOK.nil))
theorem e_names_Parts : ∀ t, bodyG Tryd.prog g_names_Parts [10] h_names_Parts Tryd.f13 sg_names_Parts t = u_names_Parts t := by
  intro t
  kernel_rfl
theorem k_names_Parts : (calleeOf sg_names_Parts u_names_Parts).OK Tryd.prog 13 := calleeG_ok mixed ok_names_Parts Tryd.func13 (by kernel_rfl) (by kernel_rfl) e_names_Parts

/-! names_Feature -/
def sg_names_Feature : Sig := { ps := [.one], bs := [], psh := [.str], rs := [.one, .one], rsh := [.str, .str] }
noncomputable def g_names_Feature : List (Go.FuncId × Callee) := [(18, (calleeOf sg_names_part u_names_part))]
noncomputable def u_names_Feature (t : (ByteArray × Unit)) : Option (ByteArray × (ByteArray × Unit)) :=
  (ob (Go.Eng.u_names_part (t.1, ())) fun x0 => (bif (Bool.not x0.2.2.1) then (some ((ByteArray.mk #[]), ((ByteArray.mk #[]), ()))) else (some (x0.1, (x0.2.1, ())))))
def h_names_Feature : HT := .leaf
theorem ok_names_Feature : TabOK Tryd.prog [18] g_names_Feature := (TabOK.cons ⟨_, Tryd.func18, by kernel_rfl, by kernel_rfl⟩ k_names_part (calleeOf_nat _ _) (fun _ => (calleeOf_pure (by kernel_rfl))) TabOK.nil)
theorem e_names_Feature : ∀ t, bodyG Tryd.prog g_names_Feature [18] h_names_Feature Tryd.f8 sg_names_Feature t = u_names_Feature t := by
  intro t
  kernel_rfl
theorem k_names_Feature : (calleeOf sg_names_Feature u_names_Feature).OK Tryd.prog 8 := calleeG_ok mixed ok_names_Feature Tryd.func8 (by kernel_rfl) (by kernel_rfl) e_names_Feature

/-! ref43_Word -/
def sg_ref43_Word : Sig := { ps := [.one, .one], bs := [], psh := [.str, .bool], rs := [.one], rsh := [.bool] }
noncomputable def g_ref43_Word : List (Go.FuncId × Callee) := []
noncomputable def u_ref43_Word_l0 (s0 : (ByteArray × Bool × Int × Unit)) : Option ((ByteArray × Bool × Int × Unit) ⊕ ((Bool × Unit) ⊕ ((ByteArray × Unit) ⊕ Empty))) :=
  (bif (Go.Eng.ltI s0.2.2.1 (Go.Eng.lenS s0.1)) then (ob (Go.Eng.idxS s0.1 s0.2.2.1) fun x1 => (bif (Go.Eng.leI (97 : Int) x1) then (bif (Go.Eng.leI x1 (122 : Int)) then (some (Sum.inl (s0.1, (s0.2.1, ((Go.Eng.wr Go.IntKind.i64 (Go.Eng.addI s0.2.2.1 (1 : Int))), ()))))) else (bif (Go.Eng.leI (65 : Int) x1) then (bif (Go.Eng.leI x1 (90 : Int)) then (some (Sum.inl (s0.1, (s0.2.1, ((Go.Eng.wr Go.IntKind.i64 (Go.Eng.addI s0.2.2.1 (1 : Int))), ()))))) else (bif (Go.Eng.leI (48 : Int) x1) then (bif (Go.Eng.leI x1 (57 : Int)) then (some (Sum.inl (s0.1, (s0.2.1, ((Go.Eng.wr Go.IntKind.i64 (Go.Eng.addI s0.2.2.1 (1 : Int))), ()))))) else (bif (Go.Eng.eqI x1 (95 : Int)) then (some (Sum.inl (s0.1, (s0.2.1, ((Go.Eng.wr Go.IntKind.i64 (Go.Eng.addI s0.2.2.1 (1 : Int))), ()))))) else (bif s0.2.1 then (bif (Bool.not (Go.Eng.eqI x1 (46 : Int))) then (some (Sum.inr (Sum.inl (Bool.false, ())))) else (some (Sum.inl (s0.1, (s0.2.1, ((Go.Eng.wr Go.IntKind.i64 (Go.Eng.addI s0.2.2.1 (1 : Int))), ())))))) else (some (Sum.inr (Sum.inl (Bool.false, ()))))))) else (bif (Go.Eng.eqI x1 (95 : Int)) then (some (Sum.inl (s0.1, (s0.2.1, ((Go.Eng.wr Go.IntKind.i64 (Go.Eng.addI s0.2.2.1 (1 : Int))), ()))))) else (bif s0.2.1 then (bif (Bool.not (Go.Eng.eqI x1 (46 : Int))) then (some (Sum.inr (Sum.inl (Bool.false, ())))) else (some (Sum.inl (s0.1, (s0.2.1, ((Go.Eng.wr Go.IntKind.i64 (Go.Eng.addI s0.2.2.1 (1 : Int))), ())))))) else (some (Sum.inr (Sum.inl (Bool.false, ())))))))) else (bif (Go.Eng.leI (48 : Int) x1) then (bif (Go.Eng.leI x1 (57 : Int)) then (some (Sum.inl (s0.1, (s0.2.1, ((Go.Eng.wr Go.IntKind.i64 (Go.Eng.addI s0.2.2.1 (1 : Int))), ()))))) else (bif (Go.Eng.eqI x1 (95 : Int)) then (some (Sum.inl (s0.1, (s0.2.1, ((Go.Eng.wr Go.IntKind.i64 (Go.Eng.addI s0.2.2.1 (1 : Int))), ()))))) else (bif s0.2.1 then (bif (Bool.not (Go.Eng.eqI x1 (46 : Int))) then (some (Sum.inr (Sum.inl (Bool.false, ())))) else (some (Sum.inl (s0.1, (s0.2.1, ((Go.Eng.wr Go.IntKind.i64 (Go.Eng.addI s0.2.2.1 (1 : Int))), ())))))) else (some (Sum.inr (Sum.inl (Bool.false, ()))))))) else (bif (Go.Eng.eqI x1 (95 : Int)) then (some (Sum.inl (s0.1, (s0.2.1, ((Go.Eng.wr Go.IntKind.i64 (Go.Eng.addI s0.2.2.1 (1 : Int))), ()))))) else (bif s0.2.1 then (bif (Bool.not (Go.Eng.eqI x1 (46 : Int))) then (some (Sum.inr (Sum.inl (Bool.false, ())))) else (some (Sum.inl (s0.1, (s0.2.1, ((Go.Eng.wr Go.IntKind.i64 (Go.Eng.addI s0.2.2.1 (1 : Int))), ())))))) else (some (Sum.inr (Sum.inl (Bool.false, ()))))))))) else (bif (Go.Eng.leI (65 : Int) x1) then (bif (Go.Eng.leI x1 (90 : Int)) then (some (Sum.inl (s0.1, (s0.2.1, ((Go.Eng.wr Go.IntKind.i64 (Go.Eng.addI s0.2.2.1 (1 : Int))), ()))))) else (bif (Go.Eng.leI (48 : Int) x1) then (bif (Go.Eng.leI x1 (57 : Int)) then (some (Sum.inl (s0.1, (s0.2.1, ((Go.Eng.wr Go.IntKind.i64 (Go.Eng.addI s0.2.2.1 (1 : Int))), ()))))) else (bif (Go.Eng.eqI x1 (95 : Int)) then (some (Sum.inl (s0.1, (s0.2.1, ((Go.Eng.wr Go.IntKind.i64 (Go.Eng.addI s0.2.2.1 (1 : Int))), ()))))) else (bif s0.2.1 then (bif (Bool.not (Go.Eng.eqI x1 (46 : Int))) then (some (Sum.inr (Sum.inl (Bool.false, ())))) else (some (Sum.inl (s0.1, (s0.2.1, ((Go.Eng.wr Go.IntKind.i64 (Go.Eng.addI s0.2.2.1 (1 : Int))), ())))))) else (some (Sum.inr (Sum.inl (Bool.false, ()))))))) else (bif (Go.Eng.eqI x1 (95 : Int)) then (some (Sum.inl (s0.1, (s0.2.1, ((Go.Eng.wr Go.IntKind.i64 (Go.Eng.addI s0.2.2.1 (1 : Int))), ()))))) else (bif s0.2.1 then (bif (Bool.not (Go.Eng.eqI x1 (46 : Int))) then (some (Sum.inr (Sum.inl (Bool.false, ())))) else (some (Sum.inl (s0.1, (s0.2.1, ((Go.Eng.wr Go.IntKind.i64 (Go.Eng.addI s0.2.2.1 (1 : Int))), ())))))) else (some (Sum.inr (Sum.inl (Bool.false, ())))))))) else (bif (Go.Eng.leI (48 : Int) x1) then (bif (Go.Eng.leI x1 (57 : Int)) then (some (Sum.inl (s0.1, (s0.2.1, ((Go.Eng.wr Go.IntKind.i64 (Go.Eng.addI s0.2.2.1 (1 : Int))), ()))))) else (bif (Go.Eng.eqI x1 (95 : Int)) then (some (Sum.inl (s0.1, (s0.2.1, ((Go.Eng.wr Go.IntKind.i64 (Go.Eng.addI s0.2.2.1 (1 : Int))), ()))))) else (bif s0.2.1 then (bif (Bool.not (Go.Eng.eqI x1 (46 : Int))) then (some (Sum.inr (Sum.inl (Bool.false, ())))) else (some (Sum.inl (s0.1, (s0.2.1, ((Go.Eng.wr Go.IntKind.i64 (Go.Eng.addI s0.2.2.1 (1 : Int))), ())))))) else (some (Sum.inr (Sum.inl (Bool.false, ()))))))) else (bif (Go.Eng.eqI x1 (95 : Int)) then (some (Sum.inl (s0.1, (s0.2.1, ((Go.Eng.wr Go.IntKind.i64 (Go.Eng.addI s0.2.2.1 (1 : Int))), ()))))) else (bif s0.2.1 then (bif (Bool.not (Go.Eng.eqI x1 (46 : Int))) then (some (Sum.inr (Sum.inl (Bool.false, ())))) else (some (Sum.inl (s0.1, (s0.2.1, ((Go.Eng.wr Go.IntKind.i64 (Go.Eng.addI s0.2.2.1 (1 : Int))), ())))))) else (some (Sum.inr (Sum.inl (Bool.false, ())))))))))) else (some (Sum.inr (Sum.inr (Sum.inl (s0.1, ()))))))
noncomputable def u_ref43_Word (t : (ByteArray × (Bool × Unit))) : Option (Bool × Unit) :=
  (ob (loopU u_ref43_Word_l0 (t.1, (t.2.1, ((0 : Int), ())))) fun q2 => onS q2 (fun t3 => (some (t3.1, ()))) fun q4 => onS q4 (fun t5 => (some ((Bool.not (Go.Eng.eqS t5.1 (ByteArray.mk #[]))), ()))) fun q6 => noS q6)
def h_ref43_Word : HT := (.seq .leaf (.seq (.seq .leaf (.one (.loop { items := [.slot 0, .slot 1, .slot 5], shapes := [.str, .bool, .int Go.IntKind.i64] } [(AEx.ret, { items := [.slot 4], shapes := [.bool] }), ((AEx.exit 0), { items := [.slot 0], shapes := [.str] })] .leaf))) .leaf))
theorem ok_ref43_Word : TabOK Tryd.prog [] g_ref43_Word := TabOK.nil
theorem e_ref43_Word : ∀ t, bodyG Tryd.prog g_ref43_Word [] h_ref43_Word Tryd.f19 sg_ref43_Word t = u_ref43_Word t := by
  intro t
  kernel_rfl
theorem k_ref43_Word : (calleeOf sg_ref43_Word u_ref43_Word).OK Tryd.prog 19 := calleeG_ok mixed ok_ref43_Word Tryd.func19 (by kernel_rfl) (by kernel_rfl) e_ref43_Word

/-! ref43_Feature -/
def sg_ref43_Feature : Sig := { ps := [.one], bs := [], psh := [.str], rs := [.one, .one], rsh := [.str, .str] }
noncomputable def g_ref43_Feature : List (Go.FuncId × Callee) := [(19, (calleeOf sg_ref43_Word u_ref43_Word))]
noncomputable def u_ref43_Feature_l0 (s0 : (ByteArray × Int × Unit)) : Option ((ByteArray × Int × Unit) ⊕ ((ByteArray × ByteArray × Unit) ⊕ ((Unit) ⊕ Empty))) :=
  (bif (Go.Eng.ltI s0.2.1 (Go.Eng.lenS s0.1)) then (ob (Go.Eng.idxS s0.1 s0.2.1) fun x1 => (bif (Go.Eng.eqI x1 (46 : Int)) then (ob (Go.Eng.subS s0.1 (0 : Int) s0.2.1) fun x2 => (ob (Go.Eng.u_ref43_Word (x2, (Bool.false, ()))) fun x3 => (bif x3.1 then (ob (Go.Eng.subS s0.1 (Go.Eng.wr Go.IntKind.i64 (Go.Eng.addI s0.2.1 (1 : Int))) (Go.Eng.lenS s0.1)) fun x4 => (ob (Go.Eng.u_ref43_Word (x4, (Bool.true, ()))) fun x5 => (bif x5.1 then (ob (Go.Eng.subS s0.1 (0 : Int) s0.2.1) fun x6 => (ob (Go.Eng.subS s0.1 (Go.Eng.wr Go.IntKind.i64 (Go.Eng.addI s0.2.1 (1 : Int))) (Go.Eng.lenS s0.1)) fun x7 => (some (Sum.inr (Sum.inl (x6, (x7, ()))))))) else (some (Sum.inr (Sum.inl ((ByteArray.mk #[]), ((ByteArray.mk #[]), ())))))))) else (some (Sum.inr (Sum.inl ((ByteArray.mk #[]), ((ByteArray.mk #[]), ())))))))) else (some (Sum.inl (s0.1, ((Go.Eng.wr Go.IntKind.i64 (Go.Eng.addI s0.2.1 (1 : Int))), ())))))) else (some (Sum.inr (Sum.inr (Sum.inl ())))))
noncomputable def u_ref43_Feature (t : (ByteArray × Unit)) : Option (ByteArray × (ByteArray × Unit)) :=
  (ob (loopU u_ref43_Feature_l0 (t.1, ((0 : Int), ()))) fun q8 => onS q8 (fun t9 => (some (t9.1, (t9.2.1, ())))) fun q10 => onS q10 (fun t11 => (some ((ByteArray.mk #[]), ((ByteArray.mk #[]), ())))) fun q12 => noS q12)
def h_ref43_Feature : HT := (.seq .leaf (.seq (.seq .leaf (.one (.loop { items := [.slot 0, .slot 4], shapes := [.str, .int Go.IntKind.i64] } [(AEx.ret, { items := [.slot 2, .slot 3], shapes := [.str, .str] }), ((AEx.exit 0), { items := [], shapes := [] })] .leaf))) .leaf))
theorem ok_ref43_Feature : TabOK Tryd.prog [19] g_ref43_Feature := (TabOK.cons ⟨_, Tryd.func19, by kernel_rfl, by kernel_rfl⟩ k_ref43_Word (calleeOf_nat _ _) (fun _ => (calleeOf_pure (by kernel_rfl))) TabOK.nil)
theorem e_ref43_Feature : ∀ t, bodyG Tryd.prog g_ref43_Feature [19] h_ref43_Feature Tryd.f9 sg_ref43_Feature t = u_ref43_Feature t := by
  intro t
  kernel_rfl
theorem k_ref43_Feature : (calleeOf sg_ref43_Feature u_ref43_Feature).OK Tryd.prog 9 := calleeG_ok mixed ok_ref43_Feature Tryd.func9 (by kernel_rfl) (by kernel_rfl) e_ref43_Feature

/-! ref43_split -/
def sg_ref43_split : Sig := { ps := [.one], bs := [], psh := [.str], rs := [.one], rsh := [.sl 1] }
noncomputable def g_ref43_split : List (Go.FuncId × Callee) := []
noncomputable def u_ref43_split_l0 (s0 : (ByteArray × List T × Int × Unit)) : Option ((ByteArray × List T × Int × Unit) ⊕ ((List T × Unit) ⊕ Empty)) :=
  (bif (Go.Eng.ltI s0.2.2.1 (Go.Eng.lenS s0.1)) then (ob (α := ((ByteArray × List T × Int × Unit) ⊕ Empty)) (ob (Go.Eng.idxS s0.1 s0.2.2.1) fun x1 => (bif (Go.Eng.eqI x1 (43 : Int)) then (ob (Go.Eng.room s0.2.1 [(Go.Eng.T.v (Go.Value.string (ByteArray.mk #[])))] 16) fun x2 => (some (Sum.inl (s0.1, (x2, (s0.2.2.1, ())))))) else (ob (Go.Eng.chkI (Go.Eng.lenL s0.2.1) (Go.Eng.wr Go.IntKind.i64 (Go.Eng.subI (Go.Eng.lenL s0.2.1) (1 : Int)))) fun x3 => (ob (Go.Eng.idxN s0.2.1 x3) fun x4 => (ob (Go.Eng.subS s0.1 s0.2.2.1 (Go.Eng.wr Go.IntKind.i64 (Go.Eng.addI s0.2.2.1 (1 : Int)))) fun x5 => (ob (Go.Eng.T.str? (Go.Eng.T.cell x4 0)) fun x6 => (ob (Go.Eng.catS x6 x5) fun x7 => (ob (Go.Eng.chkI (Go.Eng.lenL s0.2.1) (Go.Eng.wr Go.IntKind.i64 (Go.Eng.subI (Go.Eng.lenL s0.2.1) (1 : Int)))) fun x8 => (ob (Go.Eng.idxN s0.2.1 x8) fun x9 => (some (Sum.inl (s0.1, ((List.set s0.2.1 x8 (Go.Eng.T.upd 1 x9 0 [(Go.Eng.T.v (Go.Value.string x7))])), (s0.2.2.1, ())))))))))))))) fun q10 => onS q10 (fun t11 => (some (Sum.inl (t11.1, (t11.2.1, ((Go.Eng.wr Go.IntKind.i64 (Go.Eng.addI t11.2.2.1 (1 : Int))), ())))))) fun q12 => noS q12) else (some (Sum.inr (Sum.inl (s0.2.1, ())))))
noncomputable def u_ref43_split (t : (ByteArray × Unit)) : Option ((List T) × Unit) :=
  (ob (loopU u_ref43_split_l0 (t.1, ([(Go.Eng.T.v (Go.Value.string (ByteArray.mk #[])))], ((0 : Int), ())))) fun q13 => onS q13 (fun t14 => (some (t14.1, ()))) fun q15 => noS q15)
def h_ref43_split : HT := (.seq .leaf (.seq .leaf (.seq (.seq .leaf (.one (.loop { items := [.slot 0, .slot 3, .slot 4], shapes := [.str, .row 9 1 5, .int Go.IntKind.i64] } [((AEx.exit 0), { items := [.slot 3], shapes := [.row 9 1 5] })] (.seq .leaf (.seq (.join [(AEx.normal, { items := [.slot 0, .slot 3, .slot 4], shapes := [.str, .row 9 1 18, .int Go.IntKind.i64] })] .leaf) .leaf))))) .leaf)))
theorem ok_ref43_split : TabOK Tryd.prog [] g_ref43_split := TabOK.nil
theorem e_ref43_split : ∀ t, bodyG Tryd.prog g_ref43_split [] h_ref43_split Tryd.f21 sg_ref43_split t = u_ref43_split t := by
  intro t
  kernel_rfl
theorem k_ref43_split : (calleeOf sg_ref43_split u_ref43_split).OK Tryd.prog 21 := calleeG_ok mixed ok_ref43_split Tryd.func21 (by kernel_rfl) (by kernel_rfl) e_ref43_split

/-! ref43_Valid -/
def sg_ref43_Valid : Sig := { ps := [.one], bs := [], psh := [.str], rs := [.one], rsh := [.bool] }
noncomputable def g_ref43_Valid : List (Go.FuncId × Callee) := [(21, (calleeOf sg_ref43_split u_ref43_split)), (9, (calleeOf sg_ref43_Feature u_ref43_Feature))]
noncomputable def u_ref43_Valid_l0 (s1 : (List T × Int × Unit)) : Option ((List T × Int × Unit) ⊕ ((Bool × Unit) ⊕ ((Unit) ⊕ Empty))) :=
  (bif (Go.Eng.ltI s1.2.1 (Go.Eng.lenL s1.1)) then (ob (Go.Eng.idxL s1.1 s1.2.1) fun x2 => (ob (Go.Eng.T.str? (Go.Eng.T.cell x2 0)) fun x3 => (ob (Go.Eng.u_ref43_Feature (x3, ())) fun x4 => (bif (Go.Eng.eqS x4.1 (ByteArray.mk #[])) then (some (Sum.inr (Sum.inl (Bool.false, ())))) else (bif (Go.Eng.ltI (0 : Int) s1.2.1) then (ob (Go.Eng.idxL s1.1 (Go.Eng.wr Go.IntKind.i64 (Go.Eng.subI s1.2.1 (1 : Int)))) fun x5 => (ob (Go.Eng.idxL s1.1 s1.2.1) fun x6 => (ob (Go.Eng.T.str? (Go.Eng.T.cell x5 0)) fun x7 => (ob (Go.Eng.T.str? (Go.Eng.T.cell x6 0)) fun x8 => (bif (Bool.not (Go.Eng.ltS x7 x8)) then (some (Sum.inr (Sum.inl (Bool.false, ())))) else (some (Sum.inl (s1.1, ((Go.Eng.wr Go.IntKind.i64 (Go.Eng.addI s1.2.1 (1 : Int))), ()))))))))) else (some (Sum.inl (s1.1, ((Go.Eng.wr Go.IntKind.i64 (Go.Eng.addI s1.2.1 (1 : Int))), ()))))))))) else (some (Sum.inr (Sum.inr (Sum.inl ())))))
noncomputable def u_ref43_Valid (t : (ByteArray × Unit)) : Option (Bool × Unit) :=
  (ob (Go.Eng.u_ref43_split (t.1, ())) fun x0 => (ob (loopU u_ref43_Valid_l0 (x0.1, ((0 : Int), ()))) fun q9 => onS q9 (fun t10 => (some (t10.1, ()))) fun q11 => onS q11 (fun t12 => (some (Bool.true, ()))) fun q13 => noS q13))
def h_ref43_Valid : HT := (.seq .leaf (.seq .leaf (.seq (.seq .leaf (.one (.loop { items := [.slot 3, .slot 4], shapes := [.sl 1, .int Go.IntKind.i64] } [(AEx.ret, { items := [.slot 2], shapes := [.bool] }), ((AEx.exit 0), { items := [], shapes := [] })] .leaf))) .leaf)))
theorem ok_ref43_Valid : TabOK Tryd.prog [9] g_ref43_Valid := (TabOK.cons ⟨_, Tryd.func21, by kernel_rfl, by kernel_rfl⟩ k_ref43_split (calleeOf_nat _ _) (fun h => by cases h) (TabOK.cons ⟨_, Tryd.func9, by kernel_rfl, by kernel_rfl⟩ k_ref43_Feature (calleeOf_nat _ _) (fun _ => (calleeOf_pure (by kernel_rfl))) TabOK.nil))
theorem e_ref43_Valid : ∀ t, bodyG Tryd.prog g_ref43_Valid [9] h_ref43_Valid Tryd.f11 sg_ref43_Valid t = u_ref43_Valid t := by
  intro t
  kernel_rfl
theorem k_ref43_Valid : (calleeOf sg_ref43_Valid u_ref43_Valid).OK Tryd.prog 11 := calleeG_ok mixed ok_ref43_Valid Tryd.func11 (by kernel_rfl) (by kernel_rfl) e_ref43_Valid

/-! ref43_Parts -/
def sg_ref43_Parts : Sig := { ps := [.one], bs := [], psh := [.str], rs := [.one], rsh := [.sl 1] }
noncomputable def g_ref43_Parts : List (Go.FuncId × Callee) := [(11, (calleeOf sg_ref43_Valid u_ref43_Valid)), (21, (calleeOf sg_ref43_split u_ref43_split))]
noncomputable def u_ref43_Parts (t : (ByteArray × Unit)) : Option ((List T) × Unit) :=
  (ob (Go.Eng.u_ref43_Valid (t.1, ())) fun x0 => (bif (Bool.not x0.1) then (some ([], ())) else (ob (Go.Eng.u_ref43_split (t.1, ())) fun x1 => (some (x1.1, ())))))
def h_ref43_Parts : HT := .leaf
theorem ok_ref43_Parts : TabOK Tryd.prog [11] g_ref43_Parts := (TabOK.cons ⟨_, Tryd.func11, by kernel_rfl, by kernel_rfl⟩ k_ref43_Valid (calleeOf_nat _ _) (fun _ => (calleeOf_pure (by kernel_rfl))) (TabOK.cons ⟨_, Tryd.func21, by kernel_rfl, by kernel_rfl⟩ k_ref43_split (calleeOf_nat _ _) (fun h => by cases h) TabOK.nil))
theorem e_ref43_Parts : ∀ t, bodyG Tryd.prog g_ref43_Parts [11] h_ref43_Parts Tryd.f14 sg_ref43_Parts t = u_ref43_Parts t := by
  intro t
  kernel_rfl
theorem k_ref43_Parts : (calleeOf sg_ref43_Parts u_ref43_Parts).OK Tryd.prog 14 := calleeG_ok mixed ok_ref43_Parts Tryd.func14 (by kernel_rfl) (by kernel_rfl) e_ref43_Parts

/-! ref43_Same -/
def sg_ref43_Same : Sig := { ps := [.one, .one], bs := [], psh := [.sl 1, .sl 1], rs := [.one], rsh := [.bool] }
noncomputable def g_ref43_Same : List (Go.FuncId × Callee) := []
noncomputable def u_ref43_Same_l0 (s0 : (List T × List T × Int × Unit)) : Option ((List T × List T × Int × Unit) ⊕ ((Bool × Unit) ⊕ ((Unit) ⊕ Empty))) :=
  (bif (Go.Eng.ltI s0.2.2.1 (Go.Eng.lenL s0.1)) then (ob (Go.Eng.idxL s0.1 s0.2.2.1) fun x1 => (ob (Go.Eng.idxL s0.2.1 s0.2.2.1) fun x2 => (ob (Go.Eng.T.str? (Go.Eng.T.cell x1 0)) fun x3 => (ob (Go.Eng.T.str? (Go.Eng.T.cell x2 0)) fun x4 => (bif (Bool.not (Go.Eng.eqS x3 x4)) then (some (Sum.inr (Sum.inl (Bool.false, ())))) else (some (Sum.inl (s0.1, (s0.2.1, ((Go.Eng.wr Go.IntKind.i64 (Go.Eng.addI s0.2.2.1 (1 : Int))), ())))))))))) else (some (Sum.inr (Sum.inr (Sum.inl ())))))
noncomputable def u_ref43_Same (t : ((List T) × ((List T) × Unit))) : Option (Bool × Unit) :=
  (bif (Bool.not (Go.Eng.eqI (Go.Eng.lenL t.1) (Go.Eng.lenL t.2.1))) then (some (Bool.false, ())) else (ob (loopU u_ref43_Same_l0 (t.1, (t.2.1, ((0 : Int), ())))) fun q5 => onS q5 (fun t6 => (some (t6.1, ()))) fun q7 => onS q7 (fun t8 => (some (Bool.true, ()))) fun q9 => noS q9))
def h_ref43_Same : HT := (.seq .leaf (.seq .leaf (.seq (.seq .leaf (.one (.loop { items := [.slot 0, .slot 1, .slot 5], shapes := [.sl 1, .sl 1, .int Go.IntKind.i64] } [(AEx.ret, { items := [.slot 4], shapes := [.bool] }), ((AEx.exit 0), { items := [], shapes := [] })] .leaf))) .leaf)))
theorem ok_ref43_Same : TabOK Tryd.prog [] g_ref43_Same := TabOK.nil
theorem e_ref43_Same : ∀ t, bodyG Tryd.prog g_ref43_Same [] h_ref43_Same Tryd.f12 sg_ref43_Same t = u_ref43_Same t := by
  intro t
  kernel_rfl
theorem k_ref43_Same : (calleeOf sg_ref43_Same u_ref43_Same).OK Tryd.prog 12 := calleeG_ok mixed ok_ref43_Same Tryd.func12 (by kernel_rfl) (by kernel_rfl) e_ref43_Same

/-! ref43_From -/
def sg_ref43_From : Sig := { ps := [.one, .one], bs := [], psh := [.str, .str], rs := [.one], rsh := [.bool] }
noncomputable def g_ref43_From : List (Go.FuncId × Callee) := [(14, (calleeOf sg_ref43_Parts u_ref43_Parts)), (9, (calleeOf sg_ref43_Feature u_ref43_Feature))]
noncomputable def u_ref43_From_l0 (s1 : (ByteArray × List T × Int × Unit)) : Option ((ByteArray × List T × Int × Unit) ⊕ ((Bool × Unit) ⊕ ((Unit) ⊕ Empty))) :=
  (bif (Go.Eng.ltI s1.2.2.1 (Go.Eng.lenL s1.2.1)) then (ob (Go.Eng.idxL s1.2.1 s1.2.2.1) fun x2 => (ob (Go.Eng.T.str? (Go.Eng.T.cell x2 0)) fun x3 => (ob (Go.Eng.u_ref43_Feature (x3, ())) fun x4 => (bif (Go.Eng.eqS x4.1 s1.1) then (some (Sum.inr (Sum.inl (Bool.true, ())))) else (some (Sum.inl (s1.1, (s1.2.1, ((Go.Eng.wr Go.IntKind.i64 (Go.Eng.addI s1.2.2.1 (1 : Int))), ()))))))))) else (some (Sum.inr (Sum.inr (Sum.inl ())))))
noncomputable def u_ref43_From (t : (ByteArray × (ByteArray × Unit))) : Option (Bool × Unit) :=
  (ob (Go.Eng.u_ref43_Parts (t.1, ())) fun x0 => (ob (loopU u_ref43_From_l0 (t.2.1, (x0.1, ((0 : Int), ())))) fun q5 => onS q5 (fun t6 => (some (t6.1, ()))) fun q7 => onS q7 (fun t8 => (some (Bool.false, ()))) fun q9 => noS q9))
def h_ref43_From : HT := (.seq .leaf (.seq .leaf (.seq (.seq .leaf (.one (.loop { items := [.slot 1, .slot 5, .slot 6], shapes := [.str, .sl 1, .int Go.IntKind.i64] } [(AEx.ret, { items := [.slot 4], shapes := [.bool] }), ((AEx.exit 0), { items := [], shapes := [] })] .leaf))) .leaf)))
theorem ok_ref43_From : TabOK Tryd.prog [9] g_ref43_From := (TabOK.cons ⟨_, Tryd.func14, by kernel_rfl, by kernel_rfl⟩ k_ref43_Parts (calleeOf_nat _ _) (fun h => by cases h) (TabOK.cons ⟨_, Tryd.func9, by kernel_rfl, by kernel_rfl⟩ k_ref43_Feature (calleeOf_nat _ _) (fun _ => (calleeOf_pure (by kernel_rfl))) TabOK.nil))
theorem e_ref43_From : ∀ t, bodyG Tryd.prog g_ref43_From [9] h_ref43_From Tryd.f16 sg_ref43_From t = u_ref43_From t := by
  intro t
  kernel_rfl
theorem k_ref43_From : (calleeOf sg_ref43_From u_ref43_From).OK Tryd.prog 16 := calleeG_ok mixed ok_ref43_From Tryd.func16 (by kernel_rfl) (by kernel_rfl) e_ref43_From

/-! names_From_1 -/
def sg_names_From_1 : Sig := { ps := [.one, .one], bs := [1], psh := [.str, .lit (.box 0 0), .str], rs := [.one], rsh := [.bool, .str] }
noncomputable def g_names_From_1 : List (Go.FuncId × Callee) := [(8, (calleeOf sg_names_Feature u_names_Feature))]
noncomputable def u_names_From_1 (t : (ByteArray × (Unit × (ByteArray × Unit)))) : Option (Bool × (ByteArray × Unit)) :=
  (ob (Go.Eng.u_names_Feature (t.1, ())) fun x0 => (some ((Go.Eng.eqS x0.1 t.2.2.1), (t.2.2.1, ()))))
def h_names_From_1 : HT := .leaf
theorem ok_names_From_1 : TabOK Tryd.prog [8] g_names_From_1 := (TabOK.cons ⟨_, Tryd.func8, by kernel_rfl, by kernel_rfl⟩ k_names_Feature (calleeOf_nat _ _) (fun _ => (calleeOf_pure (by kernel_rfl))) TabOK.nil)
theorem e_names_From_1 : ∀ t, bodyG Tryd.prog g_names_From_1 [8] h_names_From_1 Tryd.f23 sg_names_From_1 t = u_names_From_1 t := by
  intro t
  kernel_rfl
theorem k_names_From_1 : (calleeOf sg_names_From_1 u_names_From_1).OK Tryd.prog 23 := calleeG_ok mixed ok_names_From_1 Tryd.func23 (by kernel_rfl) (by kernel_rfl) e_names_From_1

/-! slices_IndexFunc___string_string__From -/
def sg_slices_IndexFunc___string_string__From : Sig := { ps := [.one, .one], bs := [1], psh := [.sl 1, .lit (.fn 23 [(0, 0)]), .str], rs := [.one], rsh := [.int Go.IntKind.i64, .str] }
noncomputable def g_slices_IndexFunc___string_string__From : List (Go.FuncId × Callee) := [(23, (calleeOf sg_names_From_1 u_names_From_1))]
noncomputable def u_slices_IndexFunc___string_string__From_l0 (s0 : (List T × Unit × Int × Int × ByteArray × Unit)) : Option ((List T × Unit × Int × Int × ByteArray × Unit) ⊕ ((Int × ByteArray × Unit) ⊕ ((ByteArray × Unit) ⊕ Empty))) :=
  (bif (Go.Eng.ltI s0.2.2.2.1 s0.2.2.1) then (ob (Go.Eng.idxL s0.1 s0.2.2.2.1) fun x1 => (ob (Go.Eng.T.str? (Go.Eng.T.cell x1 0)) fun x2 => (ob (Go.Eng.u_names_From_1 (x2, ((), (s0.2.2.2.2.1, ())))) fun x3 => (bif x3.1 then (some (Sum.inr (Sum.inl (s0.2.2.2.1, (x3.2.1, ()))))) else (some (Sum.inl (s0.1, ((), (s0.2.2.1, ((Go.Eng.wr Go.IntKind.i64 (Go.Eng.addI s0.2.2.2.1 (1 : Int))), (x3.2.1, ()))))))))))) else (some (Sum.inr (Sum.inr (Sum.inl (s0.2.2.2.2.1, ()))))))
noncomputable def u_slices_IndexFunc___string_string__From (t : ((List T) × (Unit × (ByteArray × Unit)))) : Option (Int × (ByteArray × Unit)) :=
  (ob (loopU u_slices_IndexFunc___string_string__From_l0 (t.1, ((), ((Go.Eng.lenL t.1), ((0 : Int), (t.2.2.1, ())))))) fun q4 => onS q4 (fun t5 => (some (t5.1, (t5.2.1, ())))) fun q6 => onS q6 (fun t7 => (some ((-1 : Int), (t7.1, ())))) fun q8 => noS q8)
def h_slices_IndexFunc___string_string__From : HT := (.seq .leaf (.seq (.seq .leaf (.one (.loop { items := [.slot 0, .slot 1, .slot 7, .slot 8, .box 0 1], shapes := [.sl 1, .lit (Go.Eng.C.fn 23 [(0, 0)]), .int Go.IntKind.i64, .int Go.IntKind.i64, .str] } [(AEx.ret, { items := [.slot 4, .box 0 1], shapes := [.int Go.IntKind.i64, .str] }), ((AEx.exit 0), { items := [.box 0 1], shapes := [.str] })] .leaf))) .leaf))
theorem ok_slices_IndexFunc___string_string__From : TabOK Tryd.prog [] g_slices_IndexFunc___string_string__From := (TabOK.cons ⟨_, Tryd.func23, by kernel_rfl, by kernel_rfl⟩ k_names_From_1 (calleeOf_nat _ _) (fun h => by cases h) TabOK.nil)
theorem e_slices_IndexFunc___string_string__From : ∀ t, bodyG Tryd.prog g_slices_IndexFunc___string_string__From [] h_slices_IndexFunc___string_string__From Tryd.f29 sg_slices_IndexFunc___string_string__From t = u_slices_IndexFunc___string_string__From t := by
  intro t
  kernel_rfl
theorem k_slices_IndexFunc___string_string__From : (calleeOf sg_slices_IndexFunc___string_string__From u_slices_IndexFunc___string_string__From).OK Tryd.prog 29 := calleeG_ok mixed ok_slices_IndexFunc___string_string__From Tryd.func29 (by kernel_rfl) (by kernel_rfl) e_slices_IndexFunc___string_string__From

/-! slices_ContainsFunc___string_string__From -/
def sg_slices_ContainsFunc___string_string__From : Sig := { ps := [.one, .one], bs := [1], psh := [.sl 1, .lit (.fn 23 [(0, 0)]), .str], rs := [.one], rsh := [.bool, .str] }
noncomputable def g_slices_ContainsFunc___string_string__From : List (Go.FuncId × Callee) := [(23, (calleeOf sg_names_From_1 u_names_From_1)), (29, (calleeOf sg_slices_IndexFunc___string_string__From u_slices_IndexFunc___string_string__From))]
noncomputable def u_slices_ContainsFunc___string_string__From (t : ((List T) × (Unit × (ByteArray × Unit)))) : Option (Bool × (ByteArray × Unit)) :=
  (ob (Go.Eng.u_slices_IndexFunc___string_string__From (t.1, ((), (t.2.2.1, ())))) fun x0 => (some ((Go.Eng.leI (0 : Int) x0.1), (x0.2.1, ()))))
def h_slices_ContainsFunc___string_string__From : HT := .leaf
theorem ok_slices_ContainsFunc___string_string__From : TabOK Tryd.prog [] g_slices_ContainsFunc___string_string__From := (TabOK.cons ⟨_, Tryd.func23, by kernel_rfl, by kernel_rfl⟩ k_names_From_1 (calleeOf_nat _ _) (fun h => by cases h) (TabOK.cons ⟨_, Tryd.func29, by kernel_rfl, by kernel_rfl⟩ k_slices_IndexFunc___string_string__From (calleeOf_nat _ _) (fun h => by cases h) TabOK.nil))
theorem e_slices_ContainsFunc___string_string__From : ∀ t, bodyG Tryd.prog g_slices_ContainsFunc___string_string__From [] h_slices_ContainsFunc___string_string__From Tryd.f22 sg_slices_ContainsFunc___string_string__From t = u_slices_ContainsFunc___string_string__From t := by
  intro t
  kernel_rfl
theorem k_slices_ContainsFunc___string_string__From : (calleeOf sg_slices_ContainsFunc___string_string__From u_slices_ContainsFunc___string_string__From).OK Tryd.prog 22 := calleeG_ok mixed ok_slices_ContainsFunc___string_string__From Tryd.func22 (by kernel_rfl) (by kernel_rfl) e_slices_ContainsFunc___string_string__From

/-! names_From -/
def sg_names_From : Sig := { ps := [.one, .one], bs := [], psh := [.str, .str], rs := [.one], rsh := [.bool] }
noncomputable def g_names_From : List (Go.FuncId × Callee) := [(13, (calleeOf sg_names_Parts u_names_Parts)), (22, (calleeOf sg_slices_ContainsFunc___string_string__From u_slices_ContainsFunc___string_string__From)), (23, (calleeOf sg_names_From_1 u_names_From_1))]
noncomputable def u_names_From (t : (ByteArray × (ByteArray × Unit))) : Option (Bool × Unit) :=
  (ob (Go.Eng.u_names_Parts (t.1, ())) fun x0 => (ob (Go.Eng.u_slices_ContainsFunc___string_string__From (x0.1, ((), (t.2.1, ())))) fun x1 => (some (x1.1, ()))))
def h_names_From : HT := .leaf
theorem ok_names_From : TabOK Tryd.prog [] g_names_From := (TabOK.cons ⟨_, Tryd.func13, by kernel_rfl, by kernel_rfl⟩ k_names_Parts (calleeOf_nat _ _) (fun h => by cases h) (TabOK.cons ⟨_, Tryd.func22, by kernel_rfl, by kernel_rfl⟩ k_slices_ContainsFunc___string_string__From (calleeOf_nat _ _) (fun h => by cases h) (TabOK.cons ⟨_, Tryd.func23, by kernel_rfl, by kernel_rfl⟩ k_names_From_1 (calleeOf_nat _ _) (fun h => by cases h) TabOK.nil)))
theorem e_names_From : ∀ t, bodyG Tryd.prog g_names_From [] h_names_From Tryd.f15 sg_names_From t = u_names_From t := by
  intro t
  kernel_rfl
theorem k_names_From : (calleeOf sg_names_From u_names_From).OK Tryd.prog 15 := calleeG_ok mixed ok_names_From Tryd.func15 (by kernel_rfl) (by kernel_rfl) e_names_From

/-! brepkernellaw43_sane -/
def sg_brepkernellaw43_sane : Sig := { ps := [], bs := [], psh := [], rs := [.one], rsh := [.bool] }
noncomputable def g_brepkernellaw43_sane : List (Go.FuncId × Callee) := [(13, (calleeOf sg_names_Parts u_names_Parts)), (15, (calleeOf sg_names_From u_names_From))]
noncomputable def u_brepkernellaw43_sane (t : Unit) : Option (Bool × Unit) :=
  (ob (Go.Eng.u_names_Parts ((ByteArray.mk #[97, 46, 120, 48, 43, 98, 46, 122, 49]), ())) fun x0 => (bif (Go.Eng.eqI (Go.Eng.lenL x0.1) (2 : Int)) then (ob (Go.Eng.idxL x0.1 (0 : Int)) fun x1 => (ob (Go.Eng.T.str? (Go.Eng.T.cell x1 0)) fun x2 => (bif (Go.Eng.eqS x2 (ByteArray.mk #[97, 46, 120, 48])) then (ob (Go.Eng.idxL x0.1 (1 : Int)) fun x3 => (ob (Go.Eng.T.str? (Go.Eng.T.cell x3 0)) fun x4 => (bif (Go.Eng.eqS x4 (ByteArray.mk #[98, 46, 122, 49])) then (ob (Go.Eng.u_names_From ((ByteArray.mk #[97, 46, 120, 48, 43, 98, 46, 122, 49]), ((ByteArray.mk #[98]), ()))) fun x5 => (bif x5.1 then (ob (Go.Eng.u_names_From ((ByteArray.mk #[97, 46, 120, 48, 43, 98, 46, 122, 49]), ((ByteArray.mk #[120, 48]), ()))) fun x6 => (some ((Bool.not x6.1), ()))) else (some (Bool.false, ())))) else (some (Bool.false, ()))))) else (some (Bool.false, ()))))) else (some (Bool.false, ()))))
def h_brepkernellaw43_sane : HT := .leaf
theorem ok_brepkernellaw43_sane : TabOK Tryd.prog [15] g_brepkernellaw43_sane := (TabOK.cons ⟨_, Tryd.func13, by kernel_rfl, by kernel_rfl⟩ k_names_Parts (calleeOf_nat _ _) (fun h => by cases h) (TabOK.cons ⟨_, Tryd.func15, by kernel_rfl, by kernel_rfl⟩ k_names_From (calleeOf_nat _ _) (fun _ => (calleeOf_pure (by kernel_rfl))) TabOK.nil))
theorem e_brepkernellaw43_sane : ∀ t, bodyG Tryd.prog g_brepkernellaw43_sane [15] h_brepkernellaw43_sane Tryd.f5 sg_brepkernellaw43_sane t = u_brepkernellaw43_sane t := by
  intro t
  kernel_rfl
theorem k_brepkernellaw43_sane : (calleeOf sg_brepkernellaw43_sane u_brepkernellaw43_sane).OK Tryd.prog 5 := calleeG_ok mixed ok_brepkernellaw43_sane Tryd.func5 (by kernel_rfl) (by kernel_rfl) e_brepkernellaw43_sane

/-! brepkernellaw43_NamesParts -/
def sg_brepkernellaw43_NamesParts : Sig := { ps := [.one, .one, .one], bs := [], psh := [.str, .str, .sl 1], rs := [.one], rsh := [.bool] }
noncomputable def g_brepkernellaw43_NamesParts : List (Go.FuncId × Callee) := [(4, (calleeOf sg_brepkernelmade_Light u_brepkernelmade_Light)), (5, (calleeOf sg_brepkernellaw43_sane u_brepkernellaw43_sane)), (6, (calleeOf sg_brepkernelmade_Roll u_brepkernelmade_Roll)), (7, (calleeOf sg_brepkernellaw43_word u_brepkernellaw43_word)), (8, (calleeOf sg_names_Feature u_names_Feature)), (9, (calleeOf sg_ref43_Feature u_ref43_Feature)), (10, (calleeOf sg_names_Valid u_names_Valid)), (11, (calleeOf sg_ref43_Valid u_ref43_Valid)), (13, (calleeOf sg_names_Parts u_names_Parts)), (14, (calleeOf sg_ref43_Parts u_ref43_Parts)), (12, (calleeOf sg_ref43_Same u_ref43_Same)), (15, (calleeOf sg_names_From u_names_From)), (16, (calleeOf sg_ref43_From u_ref43_From))]
noncomputable def u_brepkernellaw43_NamesParts_l0 (s6 : (ByteArray × List T × Int × Int × Unit)) : Option ((ByteArray × List T × Int × Int × Unit) ⊕ ((Bool × Unit) ⊕ ((Unit) ⊕ Empty))) :=
  (bif (Go.Eng.ltI s6.2.2.2.1 s6.2.2.1) then (ob (Go.Eng.chkI (Go.Eng.lenL s6.2.1) s6.2.2.2.1) fun x7 => (ob (Go.Eng.idxN s6.2.1 x7) fun x8 => (ob (Go.Eng.T.str? (Go.Eng.T.cell x8 0)) fun x9 => (ob (Go.Eng.u_names_Feature (x9, ())) fun x10 => (ob (Go.Eng.T.str? (Go.Eng.T.cell x8 0)) fun x11 => (ob (Go.Eng.u_ref43_Feature (x11, ())) fun x12 => (bif (Bool.not (Go.Eng.eqS x10.1 x12.1)) then (some (Sum.inr (Sum.inl (Bool.false, ())))) else (bif (Bool.not (Go.Eng.eqS x10.2.1 x12.2.1)) then (some (Sum.inr (Sum.inl (Bool.false, ())))) else (ob (Go.Eng.T.str? (Go.Eng.T.cell x8 0)) fun x13 => (ob (Go.Eng.u_names_Valid (x13, ())) fun x14 => (ob (Go.Eng.T.str? (Go.Eng.T.cell x8 0)) fun x15 => (ob (Go.Eng.u_ref43_Valid (x15, ())) fun x16 => (bif (Bool.not (Go.Eng.eqB x14.1 x16.1)) then (some (Sum.inr (Sum.inl (Bool.false, ())))) else (ob (Go.Eng.T.str? (Go.Eng.T.cell x8 0)) fun x17 => (ob (Go.Eng.u_names_Parts (x17, ())) fun x18 => (ob (Go.Eng.T.str? (Go.Eng.T.cell x8 0)) fun x19 => (ob (Go.Eng.u_ref43_Parts (x19, ())) fun x20 => (ob (Go.Eng.u_ref43_Same (x18.1, (x20.1, ()))) fun x21 => (bif (Bool.not x21.1) then (some (Sum.inr (Sum.inl (Bool.false, ())))) else (ob (Go.Eng.T.str? (Go.Eng.T.cell x8 0)) fun x22 => (ob (Go.Eng.u_names_From (x22, ((ByteArray.mk #[97]), ()))) fun x23 => (ob (Go.Eng.T.str? (Go.Eng.T.cell x8 0)) fun x24 => (ob (Go.Eng.u_ref43_From (x24, ((ByteArray.mk #[97]), ()))) fun x25 => (bif (Bool.not (Go.Eng.eqB x23.1 x25.1)) then (some (Sum.inr (Sum.inl (Bool.false, ())))) else (ob (Go.Eng.T.str? (Go.Eng.T.cell x8 0)) fun x26 => (ob (Go.Eng.u_names_From (x26, (s6.1, ()))) fun x27 => (ob (Go.Eng.T.str? (Go.Eng.T.cell x8 0)) fun x28 => (ob (Go.Eng.u_ref43_From (x28, (s6.1, ()))) fun x29 => (bif (Bool.not (Go.Eng.eqB x27.1 x29.1)) then (some (Sum.inr (Sum.inl (Bool.false, ())))) else (some (Sum.inl (s6.1, (s6.2.1, (s6.2.2.1, ((Go.Eng.wr Go.IntKind.i64 (Go.Eng.addI s6.2.2.2.1 (1 : Int))), ()))))))))))))))))))))))))))))))))))) else (some (Sum.inr (Sum.inr (Sum.inl ())))))
noncomputable def u_brepkernellaw43_NamesParts (t : (ByteArray × (ByteArray × ((List T) × Unit)))) : Option (Bool × Unit) :=
  (bif (Go.Eng.ltI (300 : Int) (Go.Eng.lenS t.1)) then (ob (Go.Eng.u_brepkernellaw43_sane ()) fun x0 => (some (x0.1, ()))) else (ob (Go.Eng.u_brepkernelmade_Light (t.2.2.1, ())) fun x1 => (bif (Bool.not x1.1) then (ob (Go.Eng.u_brepkernellaw43_sane ()) fun x2 => (some (x2.1, ()))) else (ob (Go.Eng.u_brepkernelmade_Roll (t.2.2.1, ())) fun x3 => (ob (Go.Eng.u_brepkernellaw43_word ((), (x3.1, (x3.2.1, ())))) fun x4 => (ob (Go.Eng.u_brepkernellaw43_word ((), (x4.2.1, (x4.2.2.1, ())))) fun x5 => (ob (loopU u_brepkernellaw43_NamesParts_l0 (t.2.1, ([(Go.Eng.T.v (Go.Value.string t.1)), (Go.Eng.T.v (Go.Value.string x4.1)), (Go.Eng.T.v (Go.Value.string x5.1))], ((Go.Eng.lenL [(Go.Eng.T.v (Go.Value.string t.1)), (Go.Eng.T.v (Go.Value.string x4.1)), (Go.Eng.T.v (Go.Value.string x5.1))]), ((0 : Int), ()))))) fun q30 => onS q30 (fun t31 => (some (t31.1, ()))) fun q32 => onS q32 (fun t33 => (ob (Go.Eng.u_brepkernellaw43_sane ()) fun x34 => (some (x34.1, ())))) fun q35 => noS q35)))))))
def h_brepkernellaw43_NamesParts : HT := (.seq .leaf (.seq .leaf (.seq .leaf (.seq (.seq .leaf (.one (.loop { items := [.slot 1, .slot 30, .slot 31, .slot 32], shapes := [.str, .row 9 1 30, .int Go.IntKind.i64, .int Go.IntKind.i64] } [(AEx.ret, { items := [.slot 6], shapes := [.bool] }), ((AEx.exit 0), { items := [], shapes := [] })] .leaf))) .leaf))))
theorem ok_brepkernellaw43_NamesParts : TabOK Tryd.prog [4, 5, 8, 9, 10, 11, 12, 15, 16] g_brepkernellaw43_NamesParts := (TabOK.cons ⟨_, Tryd.func4, by kernel_rfl, by kernel_rfl⟩ k_brepkernelmade_Light (calleeOf_nat _ _) (fun _ => (calleeOf_pure (by kernel_rfl))) (TabOK.cons ⟨_, Tryd.func5, by kernel_rfl, by kernel_rfl⟩ k_brepkernellaw43_sane (calleeOf_nat _ _) (fun _ => (calleeOf_pure (by kernel_rfl))) (TabOK.cons ⟨_, Tryd.func6, by kernel_rfl, by kernel_rfl⟩ k_brepkernelmade_Roll (calleeOf_nat _ _) (fun h => by cases h) (TabOK.cons ⟨_, Tryd.func7, by kernel_rfl, by kernel_rfl⟩ k_brepkernellaw43_word (calleeOf_nat _ _) (fun h => by cases h) (TabOK.cons ⟨_, Tryd.func8, by kernel_rfl, by kernel_rfl⟩ k_names_Feature (calleeOf_nat _ _) (fun _ => (calleeOf_pure (by kernel_rfl))) (TabOK.cons ⟨_, Tryd.func9, by kernel_rfl, by kernel_rfl⟩ k_ref43_Feature (calleeOf_nat _ _) (fun _ => (calleeOf_pure (by kernel_rfl))) (TabOK.cons ⟨_, Tryd.func10, by kernel_rfl, by kernel_rfl⟩ k_names_Valid (calleeOf_nat _ _) (fun _ => (calleeOf_pure (by kernel_rfl))) (TabOK.cons ⟨_, Tryd.func11, by kernel_rfl, by kernel_rfl⟩ k_ref43_Valid (calleeOf_nat _ _) (fun _ => (calleeOf_pure (by kernel_rfl))) (TabOK.cons ⟨_, Tryd.func13, by kernel_rfl, by kernel_rfl⟩ k_names_Parts (calleeOf_nat _ _) (fun h => by cases h) (TabOK.cons ⟨_, Tryd.func14, by kernel_rfl, by kernel_rfl⟩ k_ref43_Parts (calleeOf_nat _ _) (fun h => by cases h) (TabOK.cons ⟨_, Tryd.func12, by kernel_rfl, by kernel_rfl⟩ k_ref43_Same (calleeOf_nat _ _) (fun _ => (calleeOf_pure (by kernel_rfl))) (TabOK.cons ⟨_, Tryd.func15, by kernel_rfl, by kernel_rfl⟩ k_names_From (calleeOf_nat _ _) (fun _ => (calleeOf_pure (by kernel_rfl))) (TabOK.cons ⟨_, Tryd.func16, by kernel_rfl, by kernel_rfl⟩ k_ref43_From (calleeOf_nat _ _) (fun _ => (calleeOf_pure (by kernel_rfl))) TabOK.nil)))))))))))))
theorem e_brepkernellaw43_NamesParts : ∀ t, bodyG Tryd.prog g_brepkernellaw43_NamesParts [4, 5, 8, 9, 10, 11, 12, 15, 16] h_brepkernellaw43_NamesParts Tryd.f3 sg_brepkernellaw43_NamesParts t = u_brepkernellaw43_NamesParts t := by
  intro t
  kernel_rfl
theorem k_brepkernellaw43_NamesParts : (calleeOf sg_brepkernellaw43_NamesParts u_brepkernellaw43_NamesParts).OK Tryd.prog 3 := calleeG_ok mixed ok_brepkernellaw43_NamesParts Tryd.func3 (by kernel_rfl) (by kernel_rfl) e_brepkernellaw43_NamesParts

end Go.Eng
