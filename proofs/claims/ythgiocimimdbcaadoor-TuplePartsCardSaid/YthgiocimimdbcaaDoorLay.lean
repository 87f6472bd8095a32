/- The library's own functions that this program calls, by the shelf's contracts. Conditions: none. -/
import Derived.Test.YthgiocimimdbcaaDoorSem
import Derived.Test.YthgiocimimdbcaaDoorSxX
import Derived.Shelf.Lays
import Derived.Shelf.Strings.Replace
import Derived.Shelf.Small.Strs
set_option linter.unusedVariables false
namespace Go.Proofs.YthgiocimimdbcaaDoor
open Go Go.Sx Go.Shelf Go.Proofs Go.RowKit

def ren155 : Ren :=
{
  f := fun x =>
    match x with
    | 155 => 23
    | 154 => 33
    | 138 => 21
    | 165 => 39
    | 143 => 31
    | 166 => 22
    | 197 => 40
    | 169 => 24
    | 195 => 29
    | 218 => 30
    | 240 => 32
    | 241 => 47
    | 219 => 37
    | 260 => 48
    | 276 => 38
    | 277 => 51
    | 217 => 43
    | 225 => 44
    | 224 => 45
    | 267 => 46
    | 266 => 49
    | 314 => 50
    | n => n,
  t := fun x =>
    match x with
    | 9 => 9
    | 3 => 3
    | 4 => 4
    | 72 => 46
    | 0 => 0
    | 76 => 49
    | 105 => 64
    | 21 => 21
    | 5 => 5
    | 70 => 44
    | 20 => 20
    | 37 => 42
    | 75 => 48
    | 127 => 59
    | 164 => 61
    | 46 => 68
    | 119 => 73
    | 139 => 76
    | 138 => 75
    | 146 => 70
    | 51 => 69
    | 80 => 52
    | n => n,
  g := fun x =>
    match x with
    | 1 => 0
    | 3 => 1
    | 4 => 2
    | n => n }
set_option maxRecDepth 100000 in
theorem lays155 : Lays.n155 Tryd.prog ren155 :=
{ mixed := Tryd.checked.mixed, f138 := Eq.trans Tryd.func21 (by kernel_rfl),
  f143 := Eq.trans Tryd.func31 (by kernel_rfl),
  f154 := Eq.trans Tryd.func33 (by kernel_rfl),
  f155 := Eq.trans Tryd.func23 (by kernel_rfl),
  f165 := Eq.trans Tryd.func39 (by kernel_rfl),
  f166 := Eq.trans Tryd.func22 (by kernel_rfl),
  f169 := Eq.trans Tryd.func24 (by kernel_rfl),
  f195 := Eq.trans Tryd.func29 (by kernel_rfl),
  f197 := Eq.trans Tryd.func40 (by kernel_rfl),
  f217 := Eq.trans Tryd.func43 (by kernel_rfl),
  f218 := Eq.trans Tryd.func30 (by kernel_rfl),
  f219 := Eq.trans Tryd.func37 (by kernel_rfl),
  f224 := Eq.trans Tryd.func45 (by kernel_rfl),
  f225 := Eq.trans Tryd.func44 (by kernel_rfl),
  f240 := Eq.trans Tryd.func32 (by kernel_rfl),
  f241 := Eq.trans Tryd.func47 (by kernel_rfl),
  f260 := Eq.trans Tryd.func48 (by kernel_rfl),
  f266 := Eq.trans Tryd.func49 (by kernel_rfl),
  f267 := Eq.trans Tryd.func46 (by kernel_rfl),
  f276 := Eq.trans Tryd.func38 (by kernel_rfl),
  f277 := Eq.trans Tryd.func51 (by kernel_rfl),
  f314 := Eq.trans Tryd.func50 (by kernel_rfl), t0 := Tryd.underlying0,
  a0 := Tryd.isAgg0, z0 := Tryd.sizeOf0, v0 := Tryd.zeroValue0, t3 := Tryd.underlying3, a3 := Tryd.isAgg3,
  z3 := Tryd.sizeOf3, v3 := Tryd.zeroValue3, t4 := Tryd.underlying4, a4 := Tryd.isAgg4, z4 := Tryd.sizeOf4,
  v4 := Tryd.zeroValue4, t5 := Tryd.underlying5, a5 := Tryd.isAgg5, z5 := Tryd.sizeOf5, v5 := Tryd.zeroValue5,
  t9 := Tryd.underlying9, a9 := Tryd.isAgg9, z9 := Tryd.sizeOf9, v9 := Tryd.zeroValue9, t20 := Tryd.underlying20,
  a20 := Tryd.isAgg20, z20 := Tryd.sizeOf20, v20 := Tryd.zeroValue20, t21 := Tryd.underlying21, a21 := Tryd.isAgg21,
  z21 := Tryd.sizeOf21, v21 := Tryd.zeroValue21, t37 := Tryd.underlying42, a37 := Tryd.isAgg42, z37 := Tryd.sizeOf42,
  v37 := Tryd.zeroValue42, t46 := Tryd.underlying68, a46 := Tryd.isAgg68, z46 := Tryd.sizeOf68, v46 := Tryd.zeroValue68,
  t51 := Tryd.underlying69, a51 := Tryd.isAgg69, z51 := Tryd.sizeOf69, v51 := Tryd.zeroValue69,
  t70 := Tryd.underlying44, a70 := Tryd.isAgg44, z70 := Tryd.sizeOf44, v70 := Tryd.zeroValue44,
  t72 := Tryd.underlying46, a72 := Tryd.isAgg46, z72 := Tryd.sizeOf46, v72 := Tryd.zeroValue46,
  t75 := Tryd.underlying48, a75 := Tryd.isAgg48, z75 := Tryd.sizeOf48, v75 := Tryd.zeroValue48,
  t76 := Tryd.underlying49, a76 := Tryd.isAgg49, z76 := Tryd.sizeOf49, v76 := Tryd.zeroValue49,
  t105 := Tryd.underlying64, a105 := Tryd.isAgg64, z105 := Tryd.sizeOf64, v105 := Tryd.zeroValue64,
  t119 := Tryd.underlying73, a119 := Tryd.isAgg73, z119 := Tryd.sizeOf73, t127 := Tryd.underlying59,
  a127 := Tryd.isAgg59, z127 := Tryd.sizeOf59, v127 := Tryd.zeroValue59, t138 := Tryd.underlying75,
  a138 := Tryd.isAgg75, z138 := Tryd.sizeOf75, v138 := Tryd.zeroValue75, t139 := Tryd.underlying76,
  a139 := Tryd.isAgg76, z139 := Tryd.sizeOf76, v139 := Tryd.zeroValue76, t146 := Tryd.underlying70,
  a146 := Tryd.isAgg70, z146 := Tryd.sizeOf70, v146 := Tryd.zeroValue70, t164 := Tryd.underlying61,
  a164 := Tryd.isAgg61, z164 := Tryd.sizeOf61, v164 := Tryd.zeroValue61, g1 := by kernel_rfl,
  g3 := by kernel_rfl, g4 := by kernel_rfl }

def ren106 : Ren :=
{
  f := fun x =>
    match x with
    | 106 => 25
    | 213 => 34
    | 265 => 41
    | n => n,
  t := fun x =>
    match x with
    | 9 => 9
    | 3 => 3
    | n => n,
  g := fun x =>
    have n := x;
    n }
set_option maxRecDepth 100000 in
theorem lays106 : Lays.n106 Tryd.prog ren106 :=
{ mixed := Tryd.checked.mixed, f106 := Eq.trans Tryd.func25 (by kernel_rfl),
  f213 := Eq.trans Tryd.func34 (by kernel_rfl),
  f265 := Eq.trans Tryd.func41 (by kernel_rfl), t3 := Tryd.underlying3,
  a3 := Tryd.isAgg3, z3 := Tryd.sizeOf3, v3 := Tryd.zeroValue3, t9 := Tryd.underlying9, a9 := Tryd.isAgg9,
  z9 := Tryd.sizeOf9, v9 := Tryd.zeroValue9 }

theorem extra155 : Builder.Extra Tryd.prog ren155 where
  sizeBuilder := by kernel_rfl
  liesBuilder := by kernel_rfl
  t5 := Tryd.underlying5
  a5 := Tryd.isAgg5
  z5 := Tryd.sizeOf5
  v5 := Tryd.zeroValue5
  infoByte := by kernel_rfl
  cellsByte := by kernel_rfl
  sizeByte := by kernel_rfl
  neB5 := by decide

theorem below_keeps {B : Nat} {w w' : World} (h : Below B w w') (hB : w.heap.size ≤ B) : Keeps [] w w' := ⟨h.os, h.tape, h.output, h.size, fun k hk _ => h.block k (by omega)⟩

/-- 'strings.Count' of one byte. -/
theorem Count_ok (s : ByteArray) (c : UInt8) (w : World) : Cl Tryd.prog 21 [.string s, .string (BA [c])] false [.sc (.i .i64)] (fun r w' => r.1 = ((s.data.toList.count c : Nat) : Int) ∧ w = w') w :=
  ⟨by kernel_rfl, (Any.strings_Count_one (P := Tryd.prog) (ρ := ren155) { lays155 with } s c w).mono fun e w' h => by
    obtain ⟨rfl, rfl⟩ := h
    exact ⟨(_, ()), rfl, rfl, rfl⟩⟩

/-- 'strings.ReplaceAll' of a text of some bytes. -/
theorem ReplaceAll_ok (s old new : ByteArray) (m : Int) (w : World) (hs : s.size < 4294967281) (hm : w.cell? ⟨0, 0, none⟩ = some (.int .i64 m)) (h1 : 1 ≤ old.size) (hn : new.size ≤ 16) :
    Cl Tryd.prog 23 [.string s, .string old, .string new] false [.sc .s] (fun r w' => r.1 = BA (Lib.replaceAll s.data.toList old.data.toList new.data.toList) ∧ Keeps [] w w') w := by
  have hlen : s.size + Lib.countB s old * new.size ≤ 140737488355328 := by
    have h := Lib.countB_mul_le old h1 s.size s (Nat.le_refl _)
    have h2 : Lib.countB s old ≤ s.size := Nat.le_trans (Nat.le_mul_of_pos_right _ (by omega)) h
    have h3 : Lib.countB s old * new.size ≤ s.size * 16 := Nat.mul_le_mul h2 hn
    omega
  exact ⟨by kernel_rfl, (Any.strings_ReplaceAll (P := Tryd.prog) (ρ := ren155) lays155 extra155 s old new m w hs hm h1 hlen).mono fun e w' h => by
    obtain ⟨rfl, h⟩ := h
    exact ⟨(_, ()), rfl, rfl, below_keeps h (Nat.le_refl _)⟩⟩

/-- 'strings.Compare'. -/
theorem CompareS_ok (a b : ByteArray) (w : World) : Cl Tryd.prog 25 [.string a, .string b] false [.sc (.i .i64)] (fun r w' => r.1 = Lib.compareBytes a.data.toList b.data.toList ∧ w = w') w :=
  ⟨by kernel_rfl, (Any.strings_Compare (P := Tryd.prog) (ρ := ren106) lays106 a b w).mono fun e w' h => by
    obtain ⟨rfl, rfl⟩ := h
    exact ⟨(_, ()), rfl, rfl, rfl⟩⟩

/-- A strings.Builder that holds some bytes, its memory from B on. -/
def Bld (B b : Nat) (l : List UInt8) (w : World) : Prop := Lib.IsBuilder 46 5 B b (Lib.byteCells l) w

theorem Bld_new {w : World} {b : Nat} (h : w.heap[b]? = some (.cells #[.pointer none, .slice none 0 0] 46)) : Bld b b [] w :=
  .inl ⟨Nat.le_refl _, _, h, ⟨by simp, .inl ⟨rfl, rfl⟩⟩, by simp [Value.ownBlock]⟩

theorem Write_ok {B b : Nat} {l : List UInt8} {w : World} (s : ByteArray) (h : Bld B b l w) (hlen : l.length + s.size ≤ 140737488355328) (hB : B ≤ w.heap.size) :
    Cl Tryd.prog 22 [.pointer (some ⟨b, 0, none⟩), .string s] true [.sc (.i .i64), .sc .v] (fun r w' => Bld B b (l ++ s.data.toList) w' ∧ Below B w w') w :=
  ⟨by kernel_rfl, (Any.Builder_WriteString (P := Tryd.prog) (ρ := ren155) { lays155 with } extra155 B b _ s w h (by rw [Lib.byteCells_length]; exact hlen) hB).mono fun e w' h => by
    obtain ⟨rfl, h, hb⟩ := h
    exact ⟨(_, _, ()), rfl, .inr (by rw [Lib.byteCells_append]; exact h), hb⟩⟩

theorem String_ok {B b : Nat} {l : List UInt8} {w : World} (h : Bld B b l w) (hB : B ≤ w.heap.size) :
    Cl Tryd.prog 24 [.pointer (some ⟨b, 0, none⟩)] false [.sc .s] (fun r w' => r.1 = BA l ∧ Below B w w') w :=
  ⟨by kernel_rfl, (Any.Builder_String_any (P := Tryd.prog) (ρ := ren155) { lays155 with } extra155 B b l w h hB).mono fun e w' h => by
    obtain ⟨rfl, hb⟩ := h
    exact ⟨(_, ()), rfl, rfl, hb⟩⟩

end Go.Proofs.YthgiocimimdbcaaDoor
