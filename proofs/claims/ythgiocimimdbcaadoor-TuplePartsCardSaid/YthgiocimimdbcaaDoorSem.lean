import Derived.Test.YthgiocimimdbcaaDoorChecked
import Derived.Test.YthgiocimimdbcaaDoorSxM
set_option linter.unusedVariables false
namespace Go.Proofs.YthgiocimimdbcaaDoor
open Go Go.Sx

/-- sumpter/sumpterlaw03.TupleParts -/
abbrev i_sumpterlaw03_TupleParts : FuncId := 3
def sumpterlaw03_TupleParts (p_key : ByteArray) (R : TR [.sc .b] → Pr) : Pr :=
  Cl Tryd.prog 8 [] false [.sc .b] fun r1 =>
  Lp (σ := Bool × Int × Unit) (fun L2 s3 =>
  Br (decide ((s3.2.1 : Int) < 2)) (
  Cl Tryd.prog 9 [(.string p_key)] true [.sc .sl, .sc (.i .i64)] fun r4 =>
  Cl Tryd.prog 10 [(.string p_key)] true [.sc .sl, .sc (.i .i64)] fun r5 =>
  Jp (σ := Bool × Unit) (fun s7 =>
  Br s7.1 (
  R (false, ())) (
  Lp (σ := Int × Unit) (fun L8 s9 =>
  Br (decide ((s9.1 : Int) < ((r4.1.len : Nat) : Int))) (
  Ix r4.1 s9.1 1 fun a10 =>
  St a10 (.string (BA [122, 122])) <|
  L8 ((w64 (s9.1 + 1)), ())) (
  L2 (s3.1, (w64 (s3.2.1 + 1)), ()))) (0, ()))) fun J6 =>
  Br ((r4.2.1 : Int) != r5.2.1) (
  J6 (true, ())) (
  Cl Tryd.prog 11 [(.slice r4.1.p r4.1.len r4.1.cap), (.slice r5.1.p r5.1.len r5.1.cap)] false [.sc .b] fun r11 =>
  J6 ((!r11.1), ()))) (
  R (r1.1, ()))) (false, 0, ())
def sumpterlaw03_TupleParts_ann : Ann := .seq .leaf (.seq .leaf (.seq (.seq .leaf (.block (.loop [(2, .sc .b), (10, .sc (.i .i64))] (.seq .leaf (.seq (.cond .leaf .leaf) (.seq (.block (.seq .leaf (.seq .leaf (.seq (.seq (.join [(30, .sc .b)] .leaf) (.cond (.seq .leaf .leaf) .leaf)) (.seq .leaf (.block (.loop [(33, .sc (.i .i64))] (.seq .leaf (.seq (.cond .leaf .leaf) (.seq (.block (.seq .leaf .leaf)) .leaf)))))))))) .leaf)))))) (.seq .leaf .leaf)))
set_option maxRecDepth 100000 in
theorem sumpterlaw03_TupleParts_den (p_key : ByteArray) (R : TR [.sc .b] → Pr) : den Tryd.prog sumpterlaw03_TupleParts_ann (Tryd.f3.body.getD .skip) (retQ Tryd.prog Tryd.f3.results.toList false [.sc .b] R) [] (env0 42 [(.string p_key)]) = sumpterlaw03_TupleParts p_key R := by
  kernel_rfl
set_option maxRecDepth 100000 in
theorem sumpterlaw03_TupleParts_call (p_key : ByteArray) {R : TR [.sc .b] → Pr} {w : World} (h : sumpterlaw03_TupleParts p_key R w) : Cl Tryd.prog 3 [(.string p_key)] false [.sc .b] R w :=
  call_of (P := Tryd.prog) (tup := false) (rs := [.sc .b]) Tryd.checked.mixed sumpterlaw03_TupleParts_ann (by kernel_rfl) Tryd.func3 (by kernel_rfl) Tryd.ntmps3 (by show Tryd.f3.results.size = 1; kernel_rfl) (by rw [← sumpterlaw03_TupleParts_den] at h; exact h)

/-- sumpter/sumpterlaw03.TupleOrder -/
abbrev i_sumpterlaw03_TupleOrder : FuncId := 4
def sumpterlaw03_TupleOrder (p_a : Sl) (p_b : Sl) (R : TR [.sc .b] → Pr) : Pr :=
  Cl Tryd.prog 8 [] false [.sc .b] fun r1 =>
  Cl Tryd.prog 12 [(.slice p_a.p p_a.len p_a.cap)] true [.sc .s, .sc (.i .i64)] fun r2 =>
  Cl Tryd.prog 12 [(.slice p_b.p p_b.len p_b.cap)] true [.sc .s, .sc (.i .i64)] fun r3 =>
  Jp (σ := Bool × Unit) (fun s5 =>
  Br s5.1 (
  R (r1.1, ())) (
  Cl Tryd.prog 9 [(.string r2.1)] true [.sc .sl, .sc (.i .i64)] fun r6 =>
  Jp (σ := Int × Unit) (fun s8 =>
  Jp (σ := Int × Unit) (fun s10 =>
  Br r1.1 (
  Br ((r6.2.1 : Int) == 0) (
  Cl Tryd.prog 11 [(.slice r6.1.p r6.1.len r6.1.cap), (.slice p_a.p p_a.len p_a.cap)] false [.sc .b] fun r11 =>
  Br r11.1 (
  Cl Tryd.prog 13 [(.slice p_a.p p_a.len p_a.cap), (.slice p_b.p p_b.len p_b.cap)] false [.sc (.i .i64)] fun r12 =>
  R (((r12.1 : Int) == s10.1), ())) (
  R (false, ()))) (
  R (false, ()))) (
  R (false, ()))) fun J9 =>
  Br (!(slt r2.1 r3.1 || seq r2.1 r3.1)) (
  J9 (1, ())) (
  J9 (s8.1, ()))) fun J7 =>
  Br (slt r2.1 r3.1) (
  J7 ((-1), ())) (
  J7 (0, ())))) fun J4 =>
  Br ((r2.2.1 : Int) != 0) (
  J4 (true, ())) (
  J4 (((r3.2.1 : Int) != 0), ()))
def sumpterlaw03_TupleOrder_ann : Ann := .seq .leaf (.seq .leaf (.seq .leaf (.seq .leaf (.seq (.seq (.join [(29, .sc .b)] .leaf) (.cond (.seq .leaf .leaf) .leaf)) (.seq .leaf (.seq .leaf (.seq (.join [(12, .sc (.i .i64))] (.seq .leaf (.cond .leaf .leaf))) (.seq (.join [(12, .sc (.i .i64))] (.seq .leaf (.cond .leaf .leaf))) (.seq .leaf .leaf)))))))))
set_option maxRecDepth 100000 in
theorem sumpterlaw03_TupleOrder_den (p_a : Sl) (p_b : Sl) (R : TR [.sc .b] → Pr) : den Tryd.prog sumpterlaw03_TupleOrder_ann (Tryd.f4.body.getD .skip) (retQ Tryd.prog Tryd.f4.results.toList false [.sc .b] R) [] (env0 59 [(.slice p_a.p p_a.len p_a.cap), (.slice p_b.p p_b.len p_b.cap)]) = sumpterlaw03_TupleOrder p_a p_b R := by
  kernel_rfl
set_option maxRecDepth 100000 in
theorem sumpterlaw03_TupleOrder_call (p_a : Sl) (p_b : Sl) {R : TR [.sc .b] → Pr} {w : World} (h : sumpterlaw03_TupleOrder p_a p_b R w) : Cl Tryd.prog 4 [(.slice p_a.p p_a.len p_a.cap), (.slice p_b.p p_b.len p_b.cap)] false [.sc .b] R w :=
  call_of (P := Tryd.prog) (tup := false) (rs := [.sc .b]) Tryd.checked.mixed sumpterlaw03_TupleOrder_ann (by kernel_rfl) Tryd.func4 (by kernel_rfl) Tryd.ntmps4 (by show Tryd.f4.results.size = 1; kernel_rfl) (by rw [← sumpterlaw03_TupleOrder_den] at h; exact h)

/-- sumpter/sumpterlaw03.TupleCompare -/
abbrev i_sumpterlaw03_TupleCompare : FuncId := 5
def sumpterlaw03_TupleCompare (p_a : Sl) (p_b : Sl) (p_c : Sl) (R : TR [.sc .b] → Pr) : Pr :=
  Cl Tryd.prog 8 [] false [.sc .b] fun r1 =>
  Cl Tryd.prog 13 [(.slice p_a.p p_a.len p_a.cap), (.slice p_b.p p_b.len p_b.cap)] false [.sc (.i .i64)] fun r2 =>
  Cl Tryd.prog 13 [(.slice p_b.p p_b.len p_b.cap), (.slice p_c.p p_c.len p_c.cap)] false [.sc (.i .i64)] fun r3 =>
  Cl Tryd.prog 13 [(.slice p_a.p p_a.len p_a.cap), (.slice p_c.p p_c.len p_c.cap)] false [.sc (.i .i64)] fun r4 =>
  Jp (σ := Bool × Unit) (fun s6 =>
  Br s6.1 (
  R (false, ())) (
  Br r1.1 (
  Br ((r2.1 : Int) != r3.1) (
  Br ((r2.1 : Int) != 0) (
  R (true, ())) (
  R (((r4.1 : Int) == r3.1), ()))) (
  Br ((r4.1 : Int) == r2.1) (
  Br ((r2.1 : Int) != 0) (
  R (true, ())) (
  R (((r4.1 : Int) == r3.1), ()))) (
  R (false, ())))) (
  R (false, ())))) fun J5 =>
  Br (decide ((r2.1 : Int) < (-1))) (
  J5 (true, ())) (
  Br (decide ((r2.1 : Int) > 1)) (
  J5 (true, ())) (
  Cl Tryd.prog 13 [(.slice p_b.p p_b.len p_b.cap), (.slice p_a.p p_a.len p_a.cap)] false [.sc (.i .i64)] fun r7 =>
  Br ((r2.1 : Int) != (w64 (0 - r7.1))) (
  J5 (true, ())) (
  Cl Tryd.prog 13 [(.slice p_a.p p_a.len p_a.cap), (.slice p_a.p p_a.len p_a.cap)] false [.sc (.i .i64)] fun r8 =>
  Br ((r8.1 : Int) != 0) (
  J5 (true, ())) (
  Cl Tryd.prog 11 [(.slice p_a.p p_a.len p_a.cap), (.slice p_b.p p_b.len p_b.cap)] false [.sc .b] fun r9 =>
  J5 ((!(((r2.1 : Int) == 0) == r9.1)), ())))))
def sumpterlaw03_TupleCompare_ann : Ann := .seq .leaf (.seq .leaf (.seq .leaf (.seq .leaf (.seq .leaf (.seq (.seq (.join [(48, .sc .b)] .leaf) (.cond (.seq .leaf .leaf) .leaf)) (.seq .leaf .leaf))))))
set_option maxRecDepth 100000 in
theorem sumpterlaw03_TupleCompare_den (p_a : Sl) (p_b : Sl) (p_c : Sl) (R : TR [.sc .b] → Pr) : den Tryd.prog sumpterlaw03_TupleCompare_ann (Tryd.f5.body.getD .skip) (retQ Tryd.prog Tryd.f5.results.toList false [.sc .b] R) [] (env0 69 [(.slice p_a.p p_a.len p_a.cap), (.slice p_b.p p_b.len p_b.cap), (.slice p_c.p p_c.len p_c.cap)]) = sumpterlaw03_TupleCompare p_a p_b p_c R := by
  kernel_rfl
set_option maxRecDepth 100000 in
theorem sumpterlaw03_TupleCompare_call (p_a : Sl) (p_b : Sl) (p_c : Sl) {R : TR [.sc .b] → Pr} {w : World} (h : sumpterlaw03_TupleCompare p_a p_b p_c R w) : Cl Tryd.prog 5 [(.slice p_a.p p_a.len p_a.cap), (.slice p_b.p p_b.len p_b.cap), (.slice p_c.p p_c.len p_c.cap)] false [.sc .b] R w :=
  call_of (P := Tryd.prog) (tup := false) (rs := [.sc .b]) Tryd.checked.mixed sumpterlaw03_TupleCompare_ann (by kernel_rfl) Tryd.func5 (by kernel_rfl) Tryd.ntmps5 (by show Tryd.f5.results.size = 1; kernel_rfl) (by rw [← sumpterlaw03_TupleCompare_den] at h; exact h)

/-- sumpter/sumpterlaw03.TupleMore -/
abbrev i_sumpterlaw03_TupleMore : FuncId := 6
def sumpterlaw03_TupleMore (p_a : Sl) (p_more : ByteArray) (R : TR [.sc .b] → Pr) : Pr :=
  Cl Tryd.prog 8 [] false [.sc .b] fun r1 =>
  Cl Tryd.prog 12 [(.slice p_a.p p_a.len p_a.cap)] true [.sc .s, .sc (.i .i64)] fun r2 =>
  App 9 1 16 (zc Tryd.prog 9) ⟨none, 0, 0⟩ p_a.len (srcS p_a.p p_a.len 1) fun r3 =>
  New #[(.string p_more)] 9 fun a4 =>
  App 9 1 16 (zc Tryd.prog 9) r3 1 (srcS (some a4) 1 1) fun r5 =>
  Cl Tryd.prog 12 [(.slice r5.p r5.len r5.cap)] true [.sc .s, .sc (.i .i64)] fun r6 =>
  Jp (σ := Bool × Unit) (fun s8 =>
  Br s8.1 (
  Br r1.1 (
  Br ((r6.2.1 : Int) != 0) (
  R (true, ())) (
  R (((((p_a.len : Nat) : Int) : Int) == 0), ()))) (
  R (false, ()))) (
  Br r1.1 (
  Br (decide ((((r6.1.size : Nat) : Int) : Int) > ((r2.1.size : Nat) : Int))) (
  Req ((0 : Int) ≤ ((r2.1.size : Nat) : Int) ∧ ((r2.1.size : Nat) : Int) ≤ ((r6.1.size : Nat) : Int)) <|
  R ((seq (r6.1.extract 0 (Int.toNat ((r2.1.size : Nat) : Int))) r2.1), ())) (
  R (false, ()))) (
  R (false, ())))) fun J7 =>
  Br ((r2.2.1 : Int) != 0) (
  J7 (true, ())) (
  J7 (((r6.2.1 : Int) != 0), ()))
def sumpterlaw03_TupleMore_ann : Ann := .seq .leaf (.seq .leaf (.seq .leaf (.seq .leaf (.seq (.seq (.join [(30, .sc .b)] .leaf) (.cond (.seq .leaf .leaf) .leaf)) (.seq .leaf .leaf)))))
set_option maxRecDepth 100000 in
theorem sumpterlaw03_TupleMore_den (p_a : Sl) (p_more : ByteArray) (R : TR [.sc .b] → Pr) : den Tryd.prog sumpterlaw03_TupleMore_ann (Tryd.f6.body.getD .skip) (retQ Tryd.prog Tryd.f6.results.toList false [.sc .b] R) [] (env0 57 [(.slice p_a.p p_a.len p_a.cap), (.string p_more)]) = sumpterlaw03_TupleMore p_a p_more R := by
  kernel_rfl
set_option maxRecDepth 100000 in
theorem sumpterlaw03_TupleMore_call (p_a : Sl) (p_more : ByteArray) {R : TR [.sc .b] → Pr} {w : World} (h : sumpterlaw03_TupleMore p_a p_more R w) : Cl Tryd.prog 6 [(.slice p_a.p p_a.len p_a.cap), (.string p_more)] false [.sc .b] R w :=
  call_of (P := Tryd.prog) (tup := false) (rs := [.sc .b]) Tryd.checked.mixed sumpterlaw03_TupleMore_ann (by kernel_rfl) Tryd.func6 (by kernel_rfl) Tryd.ntmps6 (by show Tryd.f6.results.size = 1; kernel_rfl) (by rw [← sumpterlaw03_TupleMore_den] at h; exact h)

/-- sumpter/sumpterlaw03.TupleJoins -/
abbrev i_sumpterlaw03_TupleJoins : FuncId := 7
def sumpterlaw03_TupleJoins (p_a : Sl) (p_b : Sl) (R : TR [.sc .b] → Pr) : Pr :=
  Cl Tryd.prog 8 [] false [.sc .b] fun r1 =>
  Cl Tryd.prog 12 [(.slice p_a.p p_a.len p_a.cap)] true [.sc .s, .sc (.i .i64)] fun r2 =>
  Cl Tryd.prog 14 [(.slice p_a.p p_a.len p_a.cap)] true [.sc .s, .sc (.i .i64)] fun r3 =>
  Cl Tryd.prog 15 [(.slice p_a.p p_a.len p_a.cap)] true [.ag [.s, .s], .sc (.i .i64)] fun r4 =>
  New #[(.string (BA [])), (.string (BA []))] 35 fun a5 =>
  St (a5.add 0) (.string r4.1.1) <|
  St (a5.add 1) (.string r4.1.2.1) <|
  Cl Tryd.prog 16 [(.slice p_a.p p_a.len p_a.cap)] true [.ag [.s, .s], .sc (.i .i64)] fun r6 =>
  New #[(.string (BA [])), (.string (BA []))] 35 fun a7 =>
  St (a7.add 0) (.string r6.1.1) <|
  St (a7.add 1) (.string r6.1.2.1) <|
  Br r1.1 (
  Br (seq r2.1 r3.1) (
  Br ((r2.2.1 : Int) == r3.2.1) (
  LdS (a5.add 0) fun x8 =>
  LdS (a5.add 1) fun x9 =>
  LdS (a7.add 0) fun x10 =>
  LdS (a7.add 1) fun x11 =>
  Br ((seq x8 x10) && ((seq x9 x11) && true)) (
  Br ((r4.2.1 : Int) == r6.2.1) (
  Cl Tryd.prog 13 [(.slice p_a.p p_a.len p_a.cap), (.slice p_b.p p_b.len p_b.cap)] false [.sc (.i .i64)] fun r12 =>
  Cl Tryd.prog 17 [(.slice p_a.p p_a.len p_a.cap), (.slice p_b.p p_b.len p_b.cap)] false [.sc (.i .i64)] fun r13 =>
  R (((r12.1 : Int) == r13.1), ())) (
  R (false, ()))) (
  R (false, ()))) (
  R (false, ()))) (
  R (false, ()))) (
  R (false, ()))
def sumpterlaw03_TupleJoins_ann : Ann := .seq .leaf (.seq .leaf (.seq .leaf (.seq .leaf (.seq .leaf (.seq .leaf (.seq .leaf .leaf))))))
set_option maxRecDepth 100000 in
theorem sumpterlaw03_TupleJoins_den (p_a : Sl) (p_b : Sl) (R : TR [.sc .b] → Pr) : den Tryd.prog sumpterlaw03_TupleJoins_ann (Tryd.f7.body.getD .skip) (retQ Tryd.prog Tryd.f7.results.toList false [.sc .b] R) [] (env0 65 [(.slice p_a.p p_a.len p_a.cap), (.slice p_b.p p_b.len p_b.cap)]) = sumpterlaw03_TupleJoins p_a p_b R := by
  kernel_rfl
set_option maxRecDepth 100000 in
theorem sumpterlaw03_TupleJoins_call (p_a : Sl) (p_b : Sl) {R : TR [.sc .b] → Pr} {w : World} (h : sumpterlaw03_TupleJoins p_a p_b R w) : Cl Tryd.prog 7 [(.slice p_a.p p_a.len p_a.cap), (.slice p_b.p p_b.len p_b.cap)] false [.sc .b] R w :=
  call_of (P := Tryd.prog) (tup := false) (rs := [.sc .b]) Tryd.checked.mixed sumpterlaw03_TupleJoins_ann (by kernel_rfl) Tryd.func7 (by kernel_rfl) Tryd.ntmps7 (by show Tryd.f7.results.size = 1; kernel_rfl) (by rw [← sumpterlaw03_TupleJoins_den] at h; exact h)

/-- sumpter/sumpterlaw03.live -/
abbrev i_sumpterlaw03_live : FuncId := 8
def sumpterlaw03_live  (R : TR [.sc .b] → Pr) : Pr :=
  New #[(.string (BA [97])), (.string (BA [98]))] 9 fun a1 =>
  Cl Tryd.prog 12 [(.slice (some a1) 2 2)] true [.sc .s, .sc (.i .i64)] fun r2 =>
  New #[(.string (BA [0]))] 9 fun a3 =>
  Cl Tryd.prog 12 [(.slice (some a3) 1 1)] true [.sc .s, .sc (.i .i64)] fun r4 =>
  Cl Tryd.prog 9 [(.string r2.1)] true [.sc .sl, .sc (.i .i64)] fun r5 =>
  Cl Tryd.prog 9 [(.string (BA [97]))] true [.sc .sl, .sc (.i .i64)] fun r6 =>
  Br (seq r2.1 (BA [97, 0, 1, 98, 0, 1])) (
  Br ((r2.2.1 : Int) == 0) (
  Br (seq r4.1 (BA [0, 255, 0, 1])) (
  Br ((r4.2.1 : Int) == 0) (
  New #[(.string (BA [97])), (.string (BA [98]))] 9 fun a7 =>
  Cl Tryd.prog 11 [(.slice r5.1.p r5.1.len r5.1.cap), (.slice (some a7) 2 2)] false [.sc .b] fun r8 =>
  Br r8.1 (
  Br ((r5.2.1 : Int) == 0) (
  Br ((r6.2.1 : Int) == 11) (
  New #[(.string (BA [97]))] 9 fun a9 =>
  Cl Tryd.prog 13 [(.slice (some a9) 1 1), (.slice r5.1.p r5.1.len r5.1.cap)] false [.sc (.i .i64)] fun r10 =>
  R (((r10.1 : Int) == (-1)), ())) (
  R (false, ()))) (
  R (false, ()))) (
  R (false, ()))) (
  R (false, ()))) (
  R (false, ()))) (
  R (false, ()))) (
  R (false, ()))
def sumpterlaw03_live_ann : Ann := .seq .leaf (.seq .leaf (.seq .leaf (.seq .leaf (.seq .leaf (.seq .leaf .leaf)))))
set_option maxRecDepth 100000 in
theorem sumpterlaw03_live_den  (R : TR [.sc .b] → Pr) : den Tryd.prog sumpterlaw03_live_ann (Tryd.f8.body.getD .skip) (retQ Tryd.prog Tryd.f8.results.toList false [.sc .b] R) [] (env0 61 []) = sumpterlaw03_live  R := by
  kernel_rfl
set_option maxRecDepth 100000 in
theorem sumpterlaw03_live_call  {R : TR [.sc .b] → Pr} {w : World} (h : sumpterlaw03_live  R w) : Cl Tryd.prog 8 [] false [.sc .b] R w :=
  call_of (P := Tryd.prog) (tup := false) (rs := [.sc .b]) Tryd.checked.mixed sumpterlaw03_live_ann (by kernel_rfl) Tryd.func8 (by kernel_rfl) Tryd.ntmps8 (by show Tryd.f8.results.size = 1; kernel_rfl) (by rw [← sumpterlaw03_live_den] at h; exact h)

/-- sumpter/tuple.Parts -/
abbrev i_tuple_Parts : FuncId := 9
def tuple_Parts (p_key : ByteArray) (R : TR [.sc .sl, .sc (.i .i64)] → Pr) : Pr :=
  New #[(.slice none 0 0)] 23 fun a1 =>
  New #[(.int .i64 0)] 24 fun a2 =>
  Cl Tryd.prog 18 [(.string p_key)] false [.sc (.i .i64)] fun r3 =>
  Br ((r3.1 : Int) != 0) (
  St a1 (.slice none 0 0) <|
  St a2 (.int .i64 r3.1) <|
  LdL a1 fun x4 =>
  LdI .i64 a2 fun x5 =>
  R (x4, x5, ())) (
  New #[(.slice none 0 0)] 23 fun a6 =>
  Cl Tryd.prog 19 [(.string p_key)] false [.sc .v] fun r7 =>
  RgV Tryd.prog (r7.1) [.sc .s, .sc .b] (fun s8 bg9 en10 =>
  bg9 <|
  Jp (σ := Bool × Unit) (fun s12 =>
  Br s12.1 (
  St a1 (.slice none 0 0) <|
  St a2 (.int .i64 11) <|
  en10 (some .ret)) (
  LdL a6 fun x13 =>
  New #[(.string s8.1)] 9 fun a14 =>
  App 9 1 16 (zc Tryd.prog 9) x13 1 (srcS (some a14) 1 1) fun r15 =>
  St a6 (.slice r15.p r15.len r15.cap) <|
  en10 none)) fun J11 =>
  Br (!s8.2.1) (
  J11 (true, ())) (
  LdL a6 fun x16 =>
  J11 (((((x16.len : Nat) : Int) : Int) == 4), ()))) fun D17 => Jm (
  LdL a6 fun x18 =>
  St a1 (.slice x18.p x18.len x18.cap) <|
  St a2 (.int .i64 0) <|
  Md [D17] <|
  LdL a1 fun x19 =>
  LdI .i64 a2 fun x20 =>
  R (x19, x20, ())) (
  Md [D17] <|
  LdL a1 fun x21 =>
  LdI .i64 a2 fun x22 =>
  R (x21, x22, ())) (fun _ => F))
def tuple_Parts_ann : Ann := .seq .leaf (.seq (.seq .leaf (.seq .leaf (.cond (.seq .leaf .leaf) .leaf))) (.seq .leaf (.seq (.seq .leaf (.block (.range [(15, .sc .s), (16, .sc .b)] [] (.seq .leaf .leaf) (.block (.seq (.seq (.join [(23, .sc .b)] .leaf) (.cond (.seq .leaf .leaf) .leaf)) .leaf))))) (.seq .leaf .leaf))))
set_option maxRecDepth 100000 in
theorem tuple_Parts_den (p_key : ByteArray) (R : TR [.sc .sl, .sc (.i .i64)] → Pr) : den Tryd.prog tuple_Parts_ann (Tryd.f9.body.getD .skip) (retQ Tryd.prog Tryd.f9.results.toList true [.sc .sl, .sc (.i .i64)] R) [] (env0 29 [(.string p_key)]) = tuple_Parts p_key R := by
  kernel_rfl
set_option maxRecDepth 100000 in
theorem tuple_Parts_call (p_key : ByteArray) {R : TR [.sc .sl, .sc (.i .i64)] → Pr} {w : World} (h : tuple_Parts p_key R w) : Cl Tryd.prog 9 [(.string p_key)] true [.sc .sl, .sc (.i .i64)] R w :=
  call_of (P := Tryd.prog) (tup := true) (rs := [.sc .sl, .sc (.i .i64)]) Tryd.checked.mixed tuple_Parts_ann (by kernel_rfl) Tryd.func9 (by kernel_rfl) Tryd.ntmps9 (by show Nat.beq Tryd.f9.results.size 1 = false; kernel_rfl) (by rw [← tuple_Parts_den] at h; exact h)

/-- sumpter/sumpterref03.Parts -/
abbrev i_sumpterref03_Parts : FuncId := 10
def sumpterref03_Parts (p_key : ByteArray) (R : TR [.sc .sl, .sc (.i .i64)] → Pr) : Pr :=
  Cl Tryd.prog 20 [(.string p_key)] false [.sc (.i .i64)] fun r1 =>
  Br ((r1.1 : Int) != 0) (
  R (⟨none, 0, 0⟩, r1.1, ())) (
  Lp (σ := Sl × Int × Sl × Sl × Int × Unit) (fun L2 s3 =>
  Br (decide ((s3.2.2.2.2.1 : Int) < ((p_key.size : Nat) : Int))) (
  Jp (σ := Sl × Int × Sl × Sl × Int × Unit) (fun s5 =>
  L2 (s5.1, s5.2.1, s5.2.2.1, s5.2.2.2.1, (w64 (s5.2.2.2.2.1 + 1)), ())) fun J4 =>
  IxS p_key s3.2.2.2.2.1 fun c6 =>
  Br ((c6 : Int) != 0) (
  IxS p_key s3.2.2.2.2.1 fun c7 =>
  New #[(.int .u8 c7)] 5 fun a8 =>
  App 5 1 1 (zc Tryd.prog 5) s3.2.2.2.1 1 (srcS (some a8) 1 1) fun r9 =>
  J4 (s3.1, s3.2.1, s3.2.2.1, r9, s3.2.2.2.2.1, ())) (
  Jp (σ := Bool × Unit) (fun s11 =>
  Br s11.1 (
  New #[(.int .u8 0)] 5 fun a12 =>
  App 5 1 1 (zc Tryd.prog 5) s3.2.2.2.1 1 (srcS (some a12) 1 1) fun r13 =>
  J4 (s3.1, s3.2.1, s3.2.2.1, r13, (w64 (s3.2.2.2.2.1 + 1)), ())) (
  Jp (σ := Bool × Unit) (fun s15 =>
  Br s15.1 (
  BtoS s3.2.2.2.1 fun s16 =>
  New #[(.string s16)] 9 fun a17 =>
  App 9 1 16 (zc Tryd.prog 9) s3.2.2.1 1 (srcS (some a17) 1 1) fun r18 =>
  J4 (s3.1, s3.2.1, r18, ⟨none, 0, 0⟩, (w64 (s3.2.2.2.2.1 + 1)), ())) (
  R (⟨none, 0, 0⟩, 11, ()))) fun J14 =>
  Br (decide (((w64 (s3.2.2.2.2.1 + 1)) : Int) < ((p_key.size : Nat) : Int))) (
  IxS p_key (w64 (s3.2.2.2.2.1 + 1)) fun c19 =>
  J14 (((c19 : Int) == 1), ())) (
  J14 (false, ())))) fun J10 =>
  Br (decide (((w64 (s3.2.2.2.2.1 + 1)) : Int) < ((p_key.size : Nat) : Int))) (
  IxS p_key (w64 (s3.2.2.2.2.1 + 1)) fun c20 =>
  J10 (((c20 : Int) == 255), ())) (
  J10 (false, ())))) (
  Cl Tryd.prog 14 [(.slice s3.2.2.1.p s3.2.2.1.len s3.2.2.1.cap)] true [.sc .s, .sc (.i .i64)] fun r21 =>
  Jp (σ := Bool × Unit) (fun s23 =>
  Br s23.1 (
  R (⟨none, 0, 0⟩, 11, ())) (
  R (s3.2.2.1, 0, ()))) fun J22 =>
  Br ((r21.2.1 : Int) != 0) (
  J22 (true, ())) (
  J22 ((!(seq r21.1 p_key)), ())))) (⟨none, 0, 0⟩, 0, ⟨none, 0, 0⟩, ⟨none, 0, 0⟩, 0, ()))
def sumpterref03_Parts_ann : Ann := .seq .leaf (.seq (.seq .leaf (.seq .leaf (.cond (.seq .leaf .leaf) .leaf))) (.seq .leaf (.seq .leaf (.seq (.seq .leaf (.block (.loop [(2, .sc .sl), (3, .sc (.i .i64)), (5, .sc .sl), (6, .sc .sl), (7, .sc (.i .i64))] (.seq (.seq .leaf (.cond .leaf .leaf)) (.seq (.join [(2, .sc .sl), (3, .sc (.i .i64)), (5, .sc .sl), (6, .sc .sl), (7, .sc (.i .i64))] (.block (.block (.seq .leaf (.cond .leaf (.seq (.join [(32, .sc .b)] .leaf) (.cond (.seq .leaf .leaf) (.seq (.join [(50, .sc .b)] .leaf) (.cond (.seq .leaf (.seq .leaf .leaf)) (.seq .leaf .leaf)))))))))) .leaf))))) (.seq .leaf (.seq (.seq (.join [(81, .sc .b)] .leaf) (.cond (.seq .leaf .leaf) .leaf)) (.seq .leaf .leaf)))))))
set_option maxRecDepth 100000 in
theorem sumpterref03_Parts_den (p_key : ByteArray) (R : TR [.sc .sl, .sc (.i .i64)] → Pr) : den Tryd.prog sumpterref03_Parts_ann (Tryd.f10.body.getD .skip) (retQ Tryd.prog Tryd.f10.results.toList true [.sc .sl, .sc (.i .i64)] R) [] (env0 83 [(.string p_key)]) = sumpterref03_Parts p_key R := by
  kernel_rfl
set_option maxRecDepth 100000 in
theorem sumpterref03_Parts_call (p_key : ByteArray) {R : TR [.sc .sl, .sc (.i .i64)] → Pr} {w : World} (h : sumpterref03_Parts p_key R w) : Cl Tryd.prog 10 [(.string p_key)] true [.sc .sl, .sc (.i .i64)] R w :=
  call_of (P := Tryd.prog) (tup := true) (rs := [.sc .sl, .sc (.i .i64)]) Tryd.checked.mixed sumpterref03_Parts_ann (by kernel_rfl) Tryd.func10 (by kernel_rfl) Tryd.ntmps10 (by show Nat.beq Tryd.f10.results.size 1 = false; kernel_rfl) (by rw [← sumpterref03_Parts_den] at h; exact h)

/-- sumpter/sumpterlaw03.same -/
abbrev i_sumpterlaw03_same : FuncId := 11
def sumpterlaw03_same (p_a : Sl) (p_b : Sl) (R : TR [.sc .b] → Pr) : Pr :=
  Br ((((p_a.len : Nat) : Int) : Int) != ((p_b.len : Nat) : Int)) (
  R (false, ())) (
  Lp (σ := Bool × Int × Unit) (fun L1 s2 =>
  Br (decide ((s2.2.1 : Int) < ((p_a.len : Nat) : Int))) (
  Dr <|
  Ix p_a s2.2.1 1 fun a3 =>
  LdS a3 fun x4 =>
  Ix p_b s2.2.1 1 fun a5 =>
  LdS a5 fun x6 =>
  Br (!(seq x4 x6)) (
  R (false, ())) (
  L1 (s2.1, (w64 (s2.2.1 + 1)), ()))) (
  R (true, ()))) (false, 0, ()))
def sumpterlaw03_same_ann : Ann := .seq .leaf (.seq (.seq .leaf (.cond (.seq .leaf .leaf) .leaf)) (.seq (.seq .leaf (.block (.loop [(4, .sc .b), (13, .sc (.i .i64))] (.seq .leaf (.seq (.cond .leaf .leaf) (.seq (.block (.seq .leaf (.seq .leaf (.cond (.seq .leaf .leaf) .leaf)))) .leaf)))))) (.seq .leaf .leaf)))
set_option maxRecDepth 100000 in
theorem sumpterlaw03_same_den (p_a : Sl) (p_b : Sl) (R : TR [.sc .b] → Pr) : den Tryd.prog sumpterlaw03_same_ann (Tryd.f11.body.getD .skip) (retQ Tryd.prog Tryd.f11.results.toList false [.sc .b] R) [] (env0 26 [(.slice p_a.p p_a.len p_a.cap), (.slice p_b.p p_b.len p_b.cap)]) = sumpterlaw03_same p_a p_b R := by
  kernel_rfl
set_option maxRecDepth 100000 in
theorem sumpterlaw03_same_call (p_a : Sl) (p_b : Sl) {R : TR [.sc .b] → Pr} {w : World} (h : sumpterlaw03_same p_a p_b R w) : Cl Tryd.prog 11 [(.slice p_a.p p_a.len p_a.cap), (.slice p_b.p p_b.len p_b.cap)] false [.sc .b] R w :=
  call_of (P := Tryd.prog) (tup := false) (rs := [.sc .b]) Tryd.checked.mixed sumpterlaw03_same_ann (by kernel_rfl) Tryd.func11 (by kernel_rfl) Tryd.ntmps11 (by show Tryd.f11.results.size = 1; kernel_rfl) (by rw [← sumpterlaw03_same_den] at h; exact h)

/-- sumpter/tuple.Join -/
abbrev i_tuple_Join : FuncId := 12
def tuple_Join (p_parts : Sl) (R : TR [.sc .s, .sc (.i .i64)] → Pr) : Pr :=
  Jp (σ := Bool × Unit) (fun s2 =>
  Br s2.1 (
  R ((BA []), 3, ())) (
  Lp (σ := ByteArray × Int × Int × Int × Unit) (fun L3 s4 =>
  Br (decide ((s4.2.2.2.1 : Int) < ((p_parts.len : Nat) : Int))) (
  Ix p_parts s4.2.2.2.1 1 fun a5 =>
  LdS a5 fun x6 =>
  Cl Tryd.prog 21 [(.string x6), (.string (BA [0]))] false [.sc (.i .i64)] fun r7 =>
  Br (decide (((w64 (s4.2.2.1 + (w64 ((w64 (((x6.size : Nat) : Int) + r7.1)) + 2)))) : Int) > 12)) (
  R ((BA []), 2, ())) (
  L3 (s4.1, s4.2.1, (w64 (s4.2.2.1 + (w64 ((w64 (((x6.size : Nat) : Int) + r7.1)) + 2)))), (w64 (s4.2.2.2.1 + 1)), ()))) (
  New #[(.pointer none), (.slice none 0 0)] 46 fun a8 =>
  Lp (σ := Int × Unit) (fun L9 s10 =>
  Br (decide ((s10.1 : Int) < ((p_parts.len : Nat) : Int))) (
  Ix p_parts s10.1 1 fun a11 =>
  LdS a11 fun x12 =>
  Cl Tryd.prog 23 [(.string x12), (.string (BA [0])), (.string (BA [0, 255]))] false [.sc .s] fun r13 =>
  Req (((r13.1.size + (BA [0, 1]).size : Nat) : Int) ≤ 9223372036854775807) <|
  Cl Tryd.prog 22 [(.pointer (some a8)), (.string (r13.1 ++ (BA [0, 1])))] true [.sc (.i .i64), .sc .v] fun r14 =>
  L9 ((w64 (s10.1 + 1)), ())) (
  Cl Tryd.prog 24 [(.pointer (some a8))] false [.sc .s] fun r15 =>
  R (r15.1, 0, ()))) (0, ()))) ((BA []), 0, 0, 0, ()))) fun J1 =>
  Br ((((p_parts.len : Nat) : Int) : Int) == 0) (
  J1 (true, ())) (
  J1 ((decide ((((p_parts.len : Nat) : Int) : Int) > 4)), ()))
def tuple_Join_ann : Ann := .seq .leaf (.seq (.seq (.join [(17, .sc .b)] .leaf) (.cond (.seq .leaf .leaf) .leaf)) (.seq .leaf (.seq (.seq .leaf (.block (.loop [(2, .sc .s), (3, .sc (.i .i64)), (4, .sc (.i .i64)), (20, .sc (.i .i64))] (.seq .leaf (.seq (.cond .leaf .leaf) (.seq (.block (.seq .leaf (.seq .leaf (.seq .leaf (.cond (.seq .leaf .leaf) .leaf))))) .leaf)))))) (.seq .leaf (.seq (.seq .leaf (.block (.loop [(37, .sc (.i .i64))] (.seq .leaf (.seq (.cond .leaf .leaf) (.seq (.block (.seq .leaf .leaf)) .leaf)))))) (.seq .leaf .leaf))))))
set_option maxRecDepth 100000 in
theorem tuple_Join_den (p_parts : Sl) (R : TR [.sc .s, .sc (.i .i64)] → Pr) : den Tryd.prog tuple_Join_ann (Tryd.f12.body.getD .skip) (retQ Tryd.prog Tryd.f12.results.toList true [.sc .s, .sc (.i .i64)] R) [] (env0 47 [(.slice p_parts.p p_parts.len p_parts.cap)]) = tuple_Join p_parts R := by
  kernel_rfl
set_option maxRecDepth 100000 in
theorem tuple_Join_call (p_parts : Sl) {R : TR [.sc .s, .sc (.i .i64)] → Pr} {w : World} (h : tuple_Join p_parts R w) : Cl Tryd.prog 12 [(.slice p_parts.p p_parts.len p_parts.cap)] true [.sc .s, .sc (.i .i64)] R w :=
  call_of (P := Tryd.prog) (tup := true) (rs := [.sc .s, .sc (.i .i64)]) Tryd.checked.mixed tuple_Join_ann (by kernel_rfl) Tryd.func12 (by kernel_rfl) Tryd.ntmps12 (by show Nat.beq Tryd.f12.results.size 1 = false; kernel_rfl) (by rw [← tuple_Join_den] at h; exact h)

/-- sumpter/tuple.Compare -/
abbrev i_tuple_Compare : FuncId := 13
def tuple_Compare (p_a : Sl) (p_b : Sl) (R : TR [.sc (.i .i64)] → Pr) : Pr :=
  Lp (σ := Int × Int × Unit) (fun L1 s2 =>
  Br (decide ((s2.2.1 : Int) < (if (((p_b.len : Nat) : Int) : Int) < ((p_a.len : Nat) : Int) then ((p_b.len : Nat) : Int) else ((p_a.len : Nat) : Int)))) (
  Dr <|
  Ix p_a s2.2.1 1 fun a3 =>
  LdS a3 fun x4 =>
  Ix p_b s2.2.1 1 fun a5 =>
  LdS a5 fun x6 =>
  Cl Tryd.prog 25 [(.string x4), (.string x6)] false [.sc (.i .i64)] fun r7 =>
  Br ((r7.1 : Int) != 0) (
  R (r7.1, ())) (
  L1 (s2.1, (w64 (s2.2.1 + 1)), ()))) (
  Cl Tryd.prog 26 [(.int .i64 ((p_a.len : Nat) : Int)), (.int .i64 ((p_b.len : Nat) : Int))] false [.sc (.i .i64)] fun r8 =>
  R (r8.1, ()))) (0, 0, ())
def tuple_Compare_ann : Ann := .seq .leaf (.seq (.seq .leaf (.block (.loop [(4, .sc (.i .i64)), (12, .sc (.i .i64))] (.seq .leaf (.seq (.cond .leaf .leaf) (.seq (.block (.seq .leaf (.seq .leaf (.seq .leaf (.cond (.seq .leaf .leaf) .leaf))))) .leaf)))))) (.seq .leaf .leaf))
set_option maxRecDepth 100000 in
theorem tuple_Compare_den (p_a : Sl) (p_b : Sl) (R : TR [.sc (.i .i64)] → Pr) : den Tryd.prog tuple_Compare_ann (Tryd.f13.body.getD .skip) (retQ Tryd.prog Tryd.f13.results.toList false [.sc (.i .i64)] R) [] (env0 33 [(.slice p_a.p p_a.len p_a.cap), (.slice p_b.p p_b.len p_b.cap)]) = tuple_Compare p_a p_b R := by
  kernel_rfl
set_option maxRecDepth 100000 in
theorem tuple_Compare_call (p_a : Sl) (p_b : Sl) {R : TR [.sc (.i .i64)] → Pr} {w : World} (h : tuple_Compare p_a p_b R w) : Cl Tryd.prog 13 [(.slice p_a.p p_a.len p_a.cap), (.slice p_b.p p_b.len p_b.cap)] false [.sc (.i .i64)] R w :=
  call_of (P := Tryd.prog) (tup := false) (rs := [.sc (.i .i64)]) Tryd.checked.mixed tuple_Compare_ann (by kernel_rfl) Tryd.func13 (by kernel_rfl) Tryd.ntmps13 (by show Tryd.f13.results.size = 1; kernel_rfl) (by rw [← tuple_Compare_den] at h; exact h)

/-- sumpter/sumpterref03.Join -/
abbrev i_sumpterref03_Join : FuncId := 14
def sumpterref03_Join (p_parts : Sl) (R : TR [.sc .s, .sc (.i .i64)] → Pr) : Pr :=
  Jp (σ := Bool × Unit) (fun s2 =>
  Br s2.1 (
  R ((BA []), 3, ())) (
  Lp (σ := ByteArray × Int × Sl × Int × Unit) (fun L3 s4 =>
  Br (decide ((s4.2.2.2.1 : Int) < ((p_parts.len : Nat) : Int))) (
  Ix p_parts s4.2.2.2.1 1 fun a5 =>
  LdS a5 fun x6 =>
  Lp (σ := ByteArray × Int × Sl × Int × Unit) (fun L7 s8 =>
  Br (decide ((s8.2.2.2.1 : Int) < ((x6.size : Nat) : Int))) (
  IxS x6 s8.2.2.2.1 fun c9 =>
  New #[(.int .u8 c9)] 5 fun a10 =>
  App 5 1 1 (zc Tryd.prog 5) s8.2.2.1 1 (srcS (some a10) 1 1) fun r11 =>
  Jp (σ := Sl × Unit) (fun s13 =>
  Br (decide ((((s13.1.len : Nat) : Int) : Int) > 12)) (
  R ((BA []), 2, ())) (
  L7 (s8.1, s8.2.1, s13.1, (w64 (s8.2.2.2.1 + 1)), ()))) fun J12 =>
  IxS x6 s8.2.2.2.1 fun c14 =>
  Br ((c14 : Int) == 0) (
  New #[(.int .u8 255)] 5 fun a15 =>
  App 5 1 1 (zc Tryd.prog 5) r11 1 (srcS (some a15) 1 1) fun r16 =>
  J12 (r16, ())) (
  J12 (r11, ()))) (
  New #[(.int .u8 0), (.int .u8 1)] 5 fun a17 =>
  App 5 1 1 (zc Tryd.prog 5) s8.2.2.1 2 (srcS (some a17) 2 1) fun r18 =>
  L3 (s8.1, s8.2.1, r18, (w64 (s4.2.2.2.1 + 1)), ()))) (s4.1, s4.2.1, s4.2.2.1, 0, ())) (
  Br (decide ((((s4.2.2.1.len : Nat) : Int) : Int) > 12)) (
  R ((BA []), 2, ())) (
  BtoS s4.2.2.1 fun s19 =>
  R (s19, 0, ())))) ((BA []), 0, ⟨none, 0, 0⟩, 0, ()))) fun J1 =>
  Br (decide ((((p_parts.len : Nat) : Int) : Int) < 1)) (
  J1 (true, ())) (
  J1 ((decide ((((p_parts.len : Nat) : Int) : Int) > 4)), ()))
def sumpterref03_Join_ann : Ann := .seq .leaf (.seq (.seq (.join [(15, .sc .b)] .leaf) (.cond (.seq .leaf .leaf) .leaf)) (.seq .leaf (.seq (.seq .leaf (.block (.loop [(2, .sc .s), (3, .sc (.i .i64)), (4, .sc .sl), (18, .sc (.i .i64))] (.seq .leaf (.seq (.cond .leaf .leaf) (.seq (.block (.seq .leaf (.seq (.seq .leaf (.block (.loop [(2, .sc .s), (3, .sc (.i .i64)), (4, .sc .sl), (7, .sc (.i .i64))] (.seq (.seq .leaf (.cond .leaf .leaf)) (.seq (.block (.seq .leaf (.seq (.join [(4, .sc .sl)] (.seq .leaf (.cond .leaf .leaf))) (.seq .leaf (.cond (.seq .leaf .leaf) .leaf))))) .leaf))))) .leaf))) .leaf)))))) (.seq (.seq .leaf (.cond (.seq .leaf .leaf) .leaf)) (.seq .leaf .leaf)))))
set_option maxRecDepth 100000 in
theorem sumpterref03_Join_den (p_parts : Sl) (R : TR [.sc .s, .sc (.i .i64)] → Pr) : den Tryd.prog sumpterref03_Join_ann (Tryd.f14.body.getD .skip) (retQ Tryd.prog Tryd.f14.results.toList true [.sc .s, .sc (.i .i64)] R) [] (env0 53 [(.slice p_parts.p p_parts.len p_parts.cap)]) = sumpterref03_Join p_parts R := by
  kernel_rfl
set_option maxRecDepth 100000 in
theorem sumpterref03_Join_call (p_parts : Sl) {R : TR [.sc .s, .sc (.i .i64)] → Pr} {w : World} (h : sumpterref03_Join p_parts R w) : Cl Tryd.prog 14 [(.slice p_parts.p p_parts.len p_parts.cap)] true [.sc .s, .sc (.i .i64)] R w :=
  call_of (P := Tryd.prog) (tup := true) (rs := [.sc .s, .sc (.i .i64)]) Tryd.checked.mixed sumpterref03_Join_ann (by kernel_rfl) Tryd.func14 (by kernel_rfl) Tryd.ntmps14 (by show Nat.beq Tryd.f14.results.size 1 = false; kernel_rfl) (by rw [← sumpterref03_Join_den] at h; exact h)

/-- sumpter/tuple.Under -/
abbrev i_tuple_Under : FuncId := 15
def tuple_Under (p_parts : Sl) (R : TR [.ag [.s, .s], .sc (.i .i64)] → Pr) : Pr :=
  New #[(.string (BA [])), (.string (BA []))] 35 fun a1 =>
  Cl Tryd.prog 12 [(.slice p_parts.p p_parts.len p_parts.cap)] true [.sc .s, .sc (.i .i64)] fun r2 =>
  Br ((r2.2.1 : Int) != 0) (
  St (a1.add 0) (.string (BA [])) <|
  St (a1.add 1) (.string (BA [])) <|
  LdS (a1.add 0) fun x3 =>
  LdS (a1.add 1) fun x4 =>
  R ((x3, x4, ()), r2.2.1, ())) (
  Cl Tryd.prog 27 [(.string r2.1), (.string (BA [1]))] false [.sc .s] fun r5 =>
  Req (((r5.1.size + (BA [2]).size : Nat) : Int) ≤ 9223372036854775807) <|
  St (a1.add 0) (.string r2.1) <|
  St (a1.add 1) (.string (r5.1 ++ (BA [2]))) <|
  LdS (a1.add 0) fun x6 =>
  LdS (a1.add 1) fun x7 =>
  R ((x6, x7, ()), 0, ()))
def tuple_Under_ann : Ann := .seq .leaf (.seq .leaf (.seq (.seq .leaf (.cond (.seq .leaf .leaf) .leaf)) (.seq .leaf .leaf)))
set_option maxRecDepth 100000 in
theorem tuple_Under_den (p_parts : Sl) (R : TR [.ag [.s, .s], .sc (.i .i64)] → Pr) : den Tryd.prog tuple_Under_ann (Tryd.f15.body.getD .skip) (retQ Tryd.prog Tryd.f15.results.toList true [.ag [.s, .s], .sc (.i .i64)] R) [] (env0 20 [(.slice p_parts.p p_parts.len p_parts.cap)]) = tuple_Under p_parts R := by
  kernel_rfl
set_option maxRecDepth 100000 in
theorem tuple_Under_call (p_parts : Sl) {R : TR [.ag [.s, .s], .sc (.i .i64)] → Pr} {w : World} (h : tuple_Under p_parts R w) : Cl Tryd.prog 15 [(.slice p_parts.p p_parts.len p_parts.cap)] true [.ag [.s, .s], .sc (.i .i64)] R w :=
  call_of (P := Tryd.prog) (tup := true) (rs := [.ag [.s, .s], .sc (.i .i64)]) Tryd.checked.mixed tuple_Under_ann (by kernel_rfl) Tryd.func15 (by kernel_rfl) Tryd.ntmps15 (by show Nat.beq Tryd.f15.results.size 1 = false; kernel_rfl) (by rw [← tuple_Under_den] at h; exact h)

/-- sumpter/sumpterref03.Under -/
abbrev i_sumpterref03_Under : FuncId := 16
def sumpterref03_Under (p_parts : Sl) (R : TR [.ag [.s, .s], .sc (.i .i64)] → Pr) : Pr :=
  New #[(.string (BA [])), (.string (BA []))] 35 fun a1 =>
  Cl Tryd.prog 14 [(.slice p_parts.p p_parts.len p_parts.cap)] true [.sc .s, .sc (.i .i64)] fun r2 =>
  Br ((r2.2.1 : Int) != 0) (
  St (a1.add 0) (.string (BA [])) <|
  St (a1.add 1) (.string (BA [])) <|
  LdS (a1.add 0) fun x3 =>
  LdS (a1.add 1) fun x4 =>
  R ((x3, x4, ()), r2.2.1, ())) (
  Req ((0 : Int) ≤ (w64 (((r2.1.size : Nat) : Int) - 1)) ∧ (w64 (((r2.1.size : Nat) : Int) - 1)) ≤ ((r2.1.size : Nat) : Int)) <|
  Req ((((r2.1.extract 0 (Int.toNat (w64 (((r2.1.size : Nat) : Int) - 1)))).size + (BA [2]).size : Nat) : Int) ≤ 9223372036854775807) <|
  St (a1.add 0) (.string r2.1) <|
  St (a1.add 1) (.string ((r2.1.extract 0 (Int.toNat (w64 (((r2.1.size : Nat) : Int) - 1)))) ++ (BA [2]))) <|
  LdS (a1.add 0) fun x5 =>
  LdS (a1.add 1) fun x6 =>
  R ((x5, x6, ()), 0, ()))
def sumpterref03_Under_ann : Ann := .seq .leaf (.seq .leaf (.seq (.seq .leaf (.cond (.seq .leaf .leaf) .leaf)) (.seq .leaf .leaf)))
set_option maxRecDepth 100000 in
theorem sumpterref03_Under_den (p_parts : Sl) (R : TR [.ag [.s, .s], .sc (.i .i64)] → Pr) : den Tryd.prog sumpterref03_Under_ann (Tryd.f16.body.getD .skip) (retQ Tryd.prog Tryd.f16.results.toList true [.ag [.s, .s], .sc (.i .i64)] R) [] (env0 23 [(.slice p_parts.p p_parts.len p_parts.cap)]) = sumpterref03_Under p_parts R := by
  kernel_rfl
set_option maxRecDepth 100000 in
theorem sumpterref03_Under_call (p_parts : Sl) {R : TR [.ag [.s, .s], .sc (.i .i64)] → Pr} {w : World} (h : sumpterref03_Under p_parts R w) : Cl Tryd.prog 16 [(.slice p_parts.p p_parts.len p_parts.cap)] true [.ag [.s, .s], .sc (.i .i64)] R w :=
  call_of (P := Tryd.prog) (tup := true) (rs := [.ag [.s, .s], .sc (.i .i64)]) Tryd.checked.mixed sumpterref03_Under_ann (by kernel_rfl) Tryd.func16 (by kernel_rfl) Tryd.ntmps16 (by show Nat.beq Tryd.f16.results.size 1 = false; kernel_rfl) (by rw [← sumpterref03_Under_den] at h; exact h)

/-- sumpter/sumpterref03.Compare -/
abbrev i_sumpterref03_Compare : FuncId := 17
def sumpterref03_Compare (p_a : Sl) (p_b : Sl) (R : TR [.sc (.i .i64)] → Pr) : Pr :=
  Lp (σ := Int × Int × Unit) (fun L1 s2 =>
  Br (decide ((s2.2.1 : Int) < ((p_a.len : Nat) : Int))) (
  Jp (σ := Bool × Unit) (fun s4 =>
  Br s4.1 (
  R ((-1), ())) (
  Jp (σ := Bool × Unit) (fun s6 =>
  Br s6.1 (
  R (1, ())) (
  L1 (s2.1, (w64 (s2.2.1 + 1)), ()))) fun J5 =>
  Dr <|
  Br (decide ((s2.2.1 : Int) < ((p_b.len : Nat) : Int))) (
  Ix p_a s2.2.1 1 fun a7 =>
  LdS a7 fun x8 =>
  Ix p_b s2.2.1 1 fun a9 =>
  LdS a9 fun x10 =>
  J5 ((!(slt x8 x10 || seq x8 x10)), ())) (
  J5 (false, ())))) fun J3 =>
  Dr <|
  Br (decide ((s2.2.1 : Int) < ((p_b.len : Nat) : Int))) (
  Ix p_a s2.2.1 1 fun a11 =>
  LdS a11 fun x12 =>
  Ix p_b s2.2.1 1 fun a13 =>
  LdS a13 fun x14 =>
  J3 ((slt x12 x14), ())) (
  J3 (false, ()))) (
  Br (decide ((((p_a.len : Nat) : Int) : Int) < ((p_b.len : Nat) : Int))) (
  R ((-1), ())) (
  Br (decide ((((p_a.len : Nat) : Int) : Int) > ((p_b.len : Nat) : Int))) (
  R (1, ())) (
  R (0, ()))))) (0, 0, ())
def sumpterref03_Compare_ann : Ann := .seq .leaf (.seq (.seq .leaf (.block (.loop [(4, .sc (.i .i64)), (8, .sc (.i .i64))] (.seq .leaf (.seq (.cond .leaf .leaf) (.seq (.block (.seq .leaf (.seq (.seq (.join [(25, .sc .b)] .leaf) (.cond (.seq .leaf .leaf) .leaf)) (.seq (.join [(40, .sc .b)] .leaf) (.cond (.seq .leaf .leaf) .leaf))))) .leaf)))))) (.seq (.seq .leaf (.cond (.seq .leaf .leaf) .leaf)) (.seq (.seq .leaf (.cond (.seq .leaf .leaf) .leaf)) (.seq .leaf .leaf))))
set_option maxRecDepth 100000 in
theorem sumpterref03_Compare_den (p_a : Sl) (p_b : Sl) (R : TR [.sc (.i .i64)] → Pr) : den Tryd.prog sumpterref03_Compare_ann (Tryd.f17.body.getD .skip) (retQ Tryd.prog Tryd.f17.results.toList false [.sc (.i .i64)] R) [] (env0 52 [(.slice p_a.p p_a.len p_a.cap), (.slice p_b.p p_b.len p_b.cap)]) = sumpterref03_Compare p_a p_b R := by
  kernel_rfl
set_option maxRecDepth 100000 in
theorem sumpterref03_Compare_call (p_a : Sl) (p_b : Sl) {R : TR [.sc (.i .i64)] → Pr} {w : World} (h : sumpterref03_Compare p_a p_b R w) : Cl Tryd.prog 17 [(.slice p_a.p p_a.len p_a.cap), (.slice p_b.p p_b.len p_b.cap)] false [.sc (.i .i64)] R w :=
  call_of (P := Tryd.prog) (tup := false) (rs := [.sc (.i .i64)]) Tryd.checked.mixed sumpterref03_Compare_ann (by kernel_rfl) Tryd.func17 (by kernel_rfl) Tryd.ntmps17 (by show Tryd.f17.results.size = 1; kernel_rfl) (by rw [← sumpterref03_Compare_den] at h; exact h)

/-- sumpter/span.CheckKey -/
abbrev i_span_CheckKey : FuncId := 18
def span_CheckKey (p_k : ByteArray) (R : TR [.sc (.i .i64)] → Pr) : Pr :=
  Jp (σ := Bool × Unit) (fun s2 =>
  Br s2.1 (
  R (20, ())) (
  R (0, ()))) fun J1 =>
  Br (seq p_k (BA [])) (
  J1 (true, ())) (
  J1 ((decide ((((p_k.size : Nat) : Int) : Int) > 12)), ()))
def span_CheckKey_ann : Ann := .seq .leaf (.seq (.seq (.join [(9, .sc .b)] .leaf) (.cond (.seq .leaf .leaf) .leaf)) (.seq .leaf .leaf))
set_option maxRecDepth 100000 in
theorem span_CheckKey_den (p_k : ByteArray) (R : TR [.sc (.i .i64)] → Pr) : den Tryd.prog span_CheckKey_ann (Tryd.f18.body.getD .skip) (retQ Tryd.prog Tryd.f18.results.toList false [.sc (.i .i64)] R) [] (env0 10 [(.string p_k)]) = span_CheckKey p_k R := by
  kernel_rfl
set_option maxRecDepth 100000 in
theorem span_CheckKey_call (p_k : ByteArray) {R : TR [.sc (.i .i64)] → Pr} {w : World} (h : span_CheckKey p_k R w) : Cl Tryd.prog 18 [(.string p_k)] false [.sc (.i .i64)] R w :=
  call_of (P := Tryd.prog) (tup := false) (rs := [.sc (.i .i64)]) Tryd.checked.mixed span_CheckKey_ann (by kernel_rfl) Tryd.func18 (by kernel_rfl) Tryd.ntmps18 (by show Tryd.f18.results.size = 1; kernel_rfl) (by rw [← span_CheckKey_den] at h; exact h)

/-- sumpter/tuple.pieces -/
abbrev i_tuple_pieces : FuncId := 19
def tuple_pieces (p_key : ByteArray) (R : TR [.sc .v] → Pr) : Pr :=
  New #[(.string p_key)] 9 fun a1 =>
  R ((.func (.func 28) #[] #[(.pointer (some a1))]), ())
def tuple_pieces_ann : Ann := .seq .leaf (.seq .leaf .leaf)
set_option maxRecDepth 100000 in
theorem tuple_pieces_den (p_key : ByteArray) (R : TR [.sc .v] → Pr) : den Tryd.prog tuple_pieces_ann (Tryd.f19.body.getD .skip) (retQ Tryd.prog Tryd.f19.results.toList false [.sc .v] R) [] (env0 4 [(.string p_key)]) = tuple_pieces p_key R := by
  kernel_rfl
set_option maxRecDepth 100000 in
theorem tuple_pieces_call (p_key : ByteArray) {R : TR [.sc .v] → Pr} {w : World} (h : tuple_pieces p_key R w) : Cl Tryd.prog 19 [(.string p_key)] false [.sc .v] R w :=
  call_of (P := Tryd.prog) (tup := false) (rs := [.sc .v]) Tryd.checked.mixed tuple_pieces_ann (by kernel_rfl) Tryd.func19 (by kernel_rfl) Tryd.ntmps19 (by show Tryd.f19.results.size = 1; kernel_rfl) (by rw [← tuple_pieces_den] at h; exact h)

/-- sumpter/sumpterref02.CheckKey -/
abbrev i_sumpterref02_CheckKey : FuncId := 20
def sumpterref02_CheckKey (p_k : ByteArray) (R : TR [.sc (.i .i64)] → Pr) : Pr :=
  Jp (σ := Bool × Unit) (fun s2 =>
  Br s2.1 (
  R (20, ())) (
  R (0, ()))) fun J1 =>
  Br (decide ((((p_k.size : Nat) : Int) : Int) < 1)) (
  J1 (true, ())) (
  J1 ((decide ((((p_k.size : Nat) : Int) : Int) > 12)), ()))
def sumpterref02_CheckKey_ann : Ann := .seq .leaf (.seq (.seq (.join [(10, .sc .b)] .leaf) (.cond (.seq .leaf .leaf) .leaf)) (.seq .leaf .leaf))
set_option maxRecDepth 100000 in
theorem sumpterref02_CheckKey_den (p_k : ByteArray) (R : TR [.sc (.i .i64)] → Pr) : den Tryd.prog sumpterref02_CheckKey_ann (Tryd.f20.body.getD .skip) (retQ Tryd.prog Tryd.f20.results.toList false [.sc (.i .i64)] R) [] (env0 11 [(.string p_k)]) = sumpterref02_CheckKey p_k R := by
  kernel_rfl
set_option maxRecDepth 100000 in
theorem sumpterref02_CheckKey_call (p_k : ByteArray) {R : TR [.sc (.i .i64)] → Pr} {w : World} (h : sumpterref02_CheckKey p_k R w) : Cl Tryd.prog 20 [(.string p_k)] false [.sc (.i .i64)] R w :=
  call_of (P := Tryd.prog) (tup := false) (rs := [.sc (.i .i64)]) Tryd.checked.mixed sumpterref02_CheckKey_ann (by kernel_rfl) Tryd.func20 (by kernel_rfl) Tryd.ntmps20 (by show Tryd.f20.results.size = 1; kernel_rfl) (by rw [← sumpterref02_CheckKey_den] at h; exact h)

/-- strings.Count -/
abbrev i_strings_Count : FuncId := 21
def strings_Count (p_s : ByteArray) (p_substr : ByteArray) (R : TR [.sc (.i .i64)] → Pr) : Pr :=
  Br ((((p_substr.size : Nat) : Int) : Int) == 0) (
  Cl Tryd.prog 29 [(.string p_s)] false [.sc (.i .i64)] fun r1 =>
  R ((w64 (r1.1 + 1)), ())) (
  Br ((((p_substr.size : Nat) : Int) : Int) == 1) (
  IxS p_substr 0 fun c2 =>
  Cl Tryd.prog 30 [(.string p_s), (.int .u8 c2)] false [.sc (.i .i64)] fun r3 =>
  R (r3.1, ())) (
  Lp (σ := ByteArray × Int × Int × Unit) (fun L4 s5 =>
  Cl Tryd.prog 31 [(.string s5.1), (.string p_substr)] false [.sc (.i .i64)] fun r6 =>
  Br ((r6.1 : Int) == (-1)) (
  R (s5.2.2.1, ())) (
  Req ((0 : Int) ≤ (w64 (r6.1 + ((p_substr.size : Nat) : Int))) ∧ (w64 (r6.1 + ((p_substr.size : Nat) : Int))) ≤ ((s5.1.size : Nat) : Int)) <|
  L4 ((s5.1.extract (Int.toNat (w64 (r6.1 + ((p_substr.size : Nat) : Int)))) s5.1.size), s5.2.1, (w64 (s5.2.2.1 + 1)), ()))) (p_s, 0, 0, ())))
def strings_Count_ann : Ann := .seq .leaf (.seq (.seq .leaf (.cond (.seq .leaf .leaf) .leaf)) (.seq (.seq .leaf (.cond (.seq .leaf .leaf) .leaf)) (.seq .leaf (.block (.loop [(0, .sc .s), (4, .sc (.i .i64)), (5, .sc (.i .i64))] (.block (.seq .leaf (.seq (.seq .leaf (.cond (.seq .leaf .leaf) .leaf)) (.seq .leaf .leaf)))))))))
set_option maxRecDepth 100000 in
theorem strings_Count_den (p_s : ByteArray) (p_substr : ByteArray) (R : TR [.sc (.i .i64)] → Pr) : den Tryd.prog strings_Count_ann (Tryd.f21.body.getD .skip) (retQ Tryd.prog Tryd.f21.results.toList false [.sc (.i .i64)] R) [] (env0 34 [(.string p_s), (.string p_substr)]) = strings_Count p_s p_substr R := by
  kernel_rfl
set_option maxRecDepth 100000 in
theorem strings_Count_call (p_s : ByteArray) (p_substr : ByteArray) {R : TR [.sc (.i .i64)] → Pr} {w : World} (h : strings_Count p_s p_substr R w) : Cl Tryd.prog 21 [(.string p_s), (.string p_substr)] false [.sc (.i .i64)] R w :=
  call_of (P := Tryd.prog) (tup := false) (rs := [.sc (.i .i64)]) Tryd.checked.mixed strings_Count_ann (by kernel_rfl) Tryd.func21 (by kernel_rfl) Tryd.ntmps21 (by show Tryd.f21.results.size = 1; kernel_rfl) (by rw [← strings_Count_den] at h; exact h)

/-- (*strings.Builder).WriteString -/
abbrev i_strings_Builder_WriteString : FuncId := 22
def strings_Builder_WriteString (p_b : Option Addr) (p_s : ByteArray) (R : TR [.sc (.i .i64), .sc .v] → Pr) : Pr :=
  Cl Tryd.prog 32 [(.pointer p_b)] true [] fun r1 =>
  Nn p_b fun a2 =>
  LdL (a2.add 1) fun x3 =>
  App 5 1 1 (zc Tryd.prog 5) x3 p_s.size (srcB p_s p_s.size) fun r4 =>
  Nn p_b fun a5 =>
  St (a5.add 1) (.slice r4.p r4.len r4.cap) <|
  R (((p_s.size : Nat) : Int), .nilIface, ())
def strings_Builder_WriteString_ann : Ann := .seq .leaf (.seq .leaf (.seq .leaf (.seq .leaf .leaf)))
set_option maxRecDepth 100000 in
theorem strings_Builder_WriteString_den (p_b : Option Addr) (p_s : ByteArray) (R : TR [.sc (.i .i64), .sc .v] → Pr) : den Tryd.prog strings_Builder_WriteString_ann (Tryd.f22.body.getD .skip) (retQ Tryd.prog Tryd.f22.results.toList true [.sc (.i .i64), .sc .v] R) [] (env0 19 [(.pointer p_b), (.string p_s)]) = strings_Builder_WriteString p_b p_s R := by
  kernel_rfl
set_option maxRecDepth 100000 in
theorem strings_Builder_WriteString_call (p_b : Option Addr) (p_s : ByteArray) {R : TR [.sc (.i .i64), .sc .v] → Pr} {w : World} (h : strings_Builder_WriteString p_b p_s R w) : Cl Tryd.prog 22 [(.pointer p_b), (.string p_s)] true [.sc (.i .i64), .sc .v] R w :=
  call_of (P := Tryd.prog) (tup := true) (rs := [.sc (.i .i64), .sc .v]) Tryd.checked.mixed strings_Builder_WriteString_ann (by kernel_rfl) Tryd.func22 (by kernel_rfl) Tryd.ntmps22 (by show Nat.beq Tryd.f22.results.size 1 = false; kernel_rfl) (by rw [← strings_Builder_WriteString_den] at h; exact h)

/-- strings.ReplaceAll -/
abbrev i_strings_ReplaceAll : FuncId := 23
def strings_ReplaceAll (p_s : ByteArray) (p_old : ByteArray) (p_new : ByteArray) (R : TR [.sc .s] → Pr) : Pr :=
  Cl Tryd.prog 33 [(.string p_s), (.string p_old), (.string p_new), (.int .i64 (-1))] false [.sc .s] fun r1 =>
  R (r1.1, ())
def strings_ReplaceAll_ann : Ann := .seq .leaf (.seq .leaf .leaf)
set_option maxRecDepth 100000 in
theorem strings_ReplaceAll_den (p_s : ByteArray) (p_old : ByteArray) (p_new : ByteArray) (R : TR [.sc .s] → Pr) : den Tryd.prog strings_ReplaceAll_ann (Tryd.f23.body.getD .skip) (retQ Tryd.prog Tryd.f23.results.toList false [.sc .s] R) [] (env0 11 [(.string p_s), (.string p_old), (.string p_new)]) = strings_ReplaceAll p_s p_old p_new R := by
  kernel_rfl
set_option maxRecDepth 100000 in
theorem strings_ReplaceAll_call (p_s : ByteArray) (p_old : ByteArray) (p_new : ByteArray) {R : TR [.sc .s] → Pr} {w : World} (h : strings_ReplaceAll p_s p_old p_new R w) : Cl Tryd.prog 23 [(.string p_s), (.string p_old), (.string p_new)] false [.sc .s] R w :=
  call_of (P := Tryd.prog) (tup := false) (rs := [.sc .s]) Tryd.checked.mixed strings_ReplaceAll_ann (by kernel_rfl) Tryd.func23 (by kernel_rfl) Tryd.ntmps23 (by show Tryd.f23.results.size = 1; kernel_rfl) (by rw [← strings_ReplaceAll_den] at h; exact h)

/-- strings.Compare -/
abbrev i_strings_Compare : FuncId := 25
def strings_Compare (p_a : ByteArray) (p_b : ByteArray) (R : TR [.sc (.i .i64)] → Pr) : Pr :=
  Cl Tryd.prog 34 [(.string p_a), (.string p_b)] false [.sc (.i .i64)] fun r1 =>
  R (r1.1, ())
def strings_Compare_ann : Ann := .seq .leaf (.seq .leaf .leaf)
set_option maxRecDepth 100000 in
theorem strings_Compare_den (p_a : ByteArray) (p_b : ByteArray) (R : TR [.sc (.i .i64)] → Pr) : den Tryd.prog strings_Compare_ann (Tryd.f25.body.getD .skip) (retQ Tryd.prog Tryd.f25.results.toList false [.sc (.i .i64)] R) [] (env0 8 [(.string p_a), (.string p_b)]) = strings_Compare p_a p_b R := by
  kernel_rfl
set_option maxRecDepth 100000 in
theorem strings_Compare_call (p_a : ByteArray) (p_b : ByteArray) {R : TR [.sc (.i .i64)] → Pr} {w : World} (h : strings_Compare p_a p_b R w) : Cl Tryd.prog 25 [(.string p_a), (.string p_b)] false [.sc (.i .i64)] R w :=
  call_of (P := Tryd.prog) (tup := false) (rs := [.sc (.i .i64)]) Tryd.checked.mixed strings_Compare_ann (by kernel_rfl) Tryd.func25 (by kernel_rfl) Tryd.ntmps25 (by show Tryd.f25.results.size = 1; kernel_rfl) (by rw [← strings_Compare_den] at h; exact h)

/-- cmp.Compare[int] -/
abbrev i_cmp_Compare : FuncId := 26
def cmp_Compare (p_x : Int) (p_y : Int) (R : TR [.sc (.i .i64)] → Pr) : Pr :=
  Cl Tryd.prog 35 [(.int .i64 p_x)] false [.sc .b] fun r1 =>
  Cl Tryd.prog 35 [(.int .i64 p_y)] false [.sc .b] fun r2 =>
  Br r1.1 (
  Br r2.1 (
  R (0, ())) (
  R ((-1), ()))) (
  Br r2.1 (
  R (1, ())) (
  Br (decide ((p_x : Int) < p_y)) (
  R ((-1), ())) (
  Br (decide ((p_x : Int) > p_y)) (
  R (1, ())) (
  R (0, ())))))
def cmp_Compare_ann : Ann := .seq .leaf (.seq .leaf (.seq .leaf (.seq (.seq .leaf (.cond (.seq (.seq .leaf (.cond (.seq .leaf .leaf) .leaf)) (.seq .leaf .leaf)) .leaf)) (.seq (.seq .leaf (.cond (.seq .leaf .leaf) .leaf)) (.seq (.seq .leaf (.cond (.seq .leaf .leaf) .leaf)) (.seq (.seq .leaf (.cond (.seq .leaf .leaf) .leaf)) (.seq .leaf .leaf)))))))
set_option maxRecDepth 100000 in
theorem cmp_Compare_den (p_x : Int) (p_y : Int) (R : TR [.sc (.i .i64)] → Pr) : den Tryd.prog cmp_Compare_ann (Tryd.f26.body.getD .skip) (retQ Tryd.prog Tryd.f26.results.toList false [.sc (.i .i64)] R) [] (env0 20 [(.int .i64 p_x), (.int .i64 p_y)]) = cmp_Compare p_x p_y R := by
  kernel_rfl
set_option maxRecDepth 100000 in
theorem cmp_Compare_call (p_x : Int) (p_y : Int) {R : TR [.sc (.i .i64)] → Pr} {w : World} (h : cmp_Compare p_x p_y R w) : Cl Tryd.prog 26 [(.int .i64 p_x), (.int .i64 p_y)] false [.sc (.i .i64)] R w :=
  call_of (P := Tryd.prog) (tup := false) (rs := [.sc (.i .i64)]) Tryd.checked.mixed cmp_Compare_ann (by kernel_rfl) Tryd.func26 (by kernel_rfl) Tryd.ntmps26 (by show Tryd.f26.results.size = 1; kernel_rfl) (by rw [← cmp_Compare_den] at h; exact h)

/-- strings.TrimSuffix -/
abbrev i_strings_TrimSuffix : FuncId := 27
def strings_TrimSuffix (p_s : ByteArray) (p_suffix : ByteArray) (R : TR [.sc .s] → Pr) : Pr :=
  Cl Tryd.prog 36 [(.string p_s), (.string p_suffix)] false [.sc .s] fun r1 =>
  R (r1.1, ())
def strings_TrimSuffix_ann : Ann := .seq .leaf (.seq .leaf .leaf)
set_option maxRecDepth 100000 in
theorem strings_TrimSuffix_den (p_s : ByteArray) (p_suffix : ByteArray) (R : TR [.sc .s] → Pr) : den Tryd.prog strings_TrimSuffix_ann (Tryd.f27.body.getD .skip) (retQ Tryd.prog Tryd.f27.results.toList false [.sc .s] R) [] (env0 8 [(.string p_s), (.string p_suffix)]) = strings_TrimSuffix p_s p_suffix R := by
  kernel_rfl
set_option maxRecDepth 100000 in
theorem strings_TrimSuffix_call (p_s : ByteArray) (p_suffix : ByteArray) {R : TR [.sc .s] → Pr} {w : World} (h : strings_TrimSuffix p_s p_suffix R w) : Cl Tryd.prog 27 [(.string p_s), (.string p_suffix)] false [.sc .s] R w :=
  call_of (P := Tryd.prog) (tup := false) (rs := [.sc .s]) Tryd.checked.mixed strings_TrimSuffix_ann (by kernel_rfl) Tryd.func27 (by kernel_rfl) Tryd.ntmps27 (by show Tryd.f27.results.size = 1; kernel_rfl) (by rw [← strings_TrimSuffix_den] at h; exact h)

/-- sumpter/tuple.pieces$1 -/
abbrev i_tuple_pieces_1 : FuncId := 28
def tuple_pieces_1 (p_yield : Value) (p_c0 : Addr) (R : TR [] → Pr) : Pr :=
  Lp (σ := Unit) (fun L1 s2 =>
  LdS p_c0 fun x3 =>
  Br (!(seq x3 (BA []))) (
  Jp (σ := Int × Unit) (fun s5 =>
  Jp (σ := Bool × Unit) (fun s7 =>
  Br s7.1 (
  CallV Tryd.prog p_yield [(.string (BA [])), (.bool false)] false [.sc .b] fun r8 =>
  R ()) (
  LdS p_c0 fun x9 =>
  Req ((0 : Int) ≤ s5.1 ∧ s5.1 ≤ ((x9.size : Nat) : Int)) <|
  Cl Tryd.prog 23 [(.string (x9.extract 0 (Int.toNat s5.1))), (.string (BA [0, 255])), (.string (BA [0]))] false [.sc .s] fun r10 =>
  CallV Tryd.prog p_yield [(.string r10.1), (.bool true)] false [.sc .b] fun r11 =>
  Br (!r11.1) (
  R ()) (
  LdS p_c0 fun x12 =>
  Req ((0 : Int) ≤ (w64 (s5.1 + 2)) ∧ (w64 (s5.1 + 2)) ≤ ((x12.size : Nat) : Int)) <|
  St p_c0 (.string (x12.extract (Int.toNat (w64 (s5.1 + 2))) x12.size)) <|
  L1 ()))) fun J6 =>
  LdS p_c0 fun x13 =>
  Br (decide (((w64 (s5.1 + 1)) : Int) ≥ ((x13.size : Nat) : Int))) (
  J6 (true, ())) (
  LdS p_c0 fun x14 =>
  IxS x14 s5.1 fun c15 =>
  Br ((c15 : Int) != 0) (
  J6 (true, ())) (
  LdS p_c0 fun x16 =>
  IxS x16 (w64 (s5.1 + 1)) fun c17 =>
  J6 (((c17 : Int) != 1), ())))) fun J4 =>
  Lp (σ := Int × Unit) (fun L18 s19 =>
  Jp (σ := Bool × Unit) (fun s21 =>
  Br s21.1 (
  Jp (σ := Bool × Unit) (fun s23 =>
  Br s23.1 (
  J4 (s19.1, ())) (
  L18 ((w64 (s19.1 + 1)), ()))) fun J22 =>
  LdS p_c0 fun x24 =>
  IxS x24 s19.1 fun c25 =>
  Br ((c25 : Int) == 0) (
  LdS p_c0 fun x26 =>
  IxS x26 (w64 (s19.1 + 1)) fun c27 =>
  J22 (((c27 : Int) != 255), ())) (
  J22 (false, ()))) (
  J4 (s19.1, ()))) fun J20 =>
  LdS p_c0 fun x28 =>
  Br (decide (((w64 (s19.1 + 1)) : Int) < ((x28.size : Nat) : Int))) (
  LdS p_c0 fun x29 =>
  IxS x29 s19.1 fun c30 =>
  Br ((c30 : Int) != 0) (
  J20 (true, ())) (
  LdS p_c0 fun x31 =>
  IxS x31 (w64 (s19.1 + 1)) fun c32 =>
  J20 (((c32 : Int) != 1), ()))) (
  J20 (false, ()))) (0, ())) (
  R ())) ()
def tuple_pieces_1_ann : Ann := .block (.loop [] (.seq (.seq .leaf (.cond .leaf .leaf)) (.block (.seq .leaf (.seq (.join [(3, .sc (.i .i64))] (.block (.loop [(3, .sc (.i .i64))] (.seq (.seq (.join [(23, .sc .b)] .leaf) (.cond .leaf .leaf)) (.block (.seq (.seq (.join [(34, .sc .b)] .leaf) (.cond .leaf .leaf)) .leaf)))))) (.seq (.seq (.join [(54, .sc .b)] .leaf) (.cond (.seq .leaf .leaf) .leaf)) (.seq (.seq .leaf (.cond .leaf .leaf)) .leaf)))))))
set_option maxRecDepth 100000 in
theorem tuple_pieces_1_den (p_yield : Value) (p_c0 : Addr) (R : TR [] → Pr) : den Tryd.prog tuple_pieces_1_ann (Tryd.f28.body.getD .skip) (retQ Tryd.prog Tryd.f28.results.toList true [] R) [] (env0 68 [p_yield, (.pointer (some p_c0))]) = tuple_pieces_1 p_yield p_c0 R := by
  kernel_rfl
set_option maxRecDepth 100000 in
theorem tuple_pieces_1_call (p_yield : Value) (p_c0 : Addr) {R : TR [] → Pr} {w : World} (h : tuple_pieces_1 p_yield p_c0 R w) : Cl Tryd.prog 28 [p_yield, (.pointer (some p_c0))] true [] R w :=
  call_of (P := Tryd.prog) (tup := true) (rs := []) Tryd.checked.mixed tuple_pieces_1_ann (by kernel_rfl) Tryd.func28 (by kernel_rfl) Tryd.ntmps28 (by show Nat.beq Tryd.f28.results.size 1 = false; kernel_rfl) (by rw [← tuple_pieces_1_den] at h; exact h)

/-- strings.Index -/
abbrev i_strings_Index : FuncId := 31
def strings_Index (p_s : ByteArray) (p_substr : ByteArray) (R : TR [.sc (.i .i64)] → Pr) : Pr :=
  Cl Tryd.prog 37 [(.string p_s), (.string p_substr)] false [.sc (.i .i64)] fun r1 =>
  R (r1.1, ())
def strings_Index_ann : Ann := .seq .leaf (.seq .leaf .leaf)
set_option maxRecDepth 100000 in
theorem strings_Index_den (p_s : ByteArray) (p_substr : ByteArray) (R : TR [.sc (.i .i64)] → Pr) : den Tryd.prog strings_Index_ann (Tryd.f31.body.getD .skip) (retQ Tryd.prog Tryd.f31.results.toList false [.sc (.i .i64)] R) [] (env0 8 [(.string p_s), (.string p_substr)]) = strings_Index p_s p_substr R := by
  kernel_rfl
set_option maxRecDepth 100000 in
theorem strings_Index_call (p_s : ByteArray) (p_substr : ByteArray) {R : TR [.sc (.i .i64)] → Pr} {w : World} (h : strings_Index p_s p_substr R w) : Cl Tryd.prog 31 [(.string p_s), (.string p_substr)] false [.sc (.i .i64)] R w :=
  call_of (P := Tryd.prog) (tup := false) (rs := [.sc (.i .i64)]) Tryd.checked.mixed strings_Index_ann (by kernel_rfl) Tryd.func31 (by kernel_rfl) Tryd.ntmps31 (by show Tryd.f31.results.size = 1; kernel_rfl) (by rw [← strings_Index_den] at h; exact h)

/-- strings.Replace -/
abbrev i_strings_Replace : FuncId := 33
def strings_Replace (p_s : ByteArray) (p_old : ByteArray) (p_new : ByteArray) (p_n : Int) (R : TR [.sc .s] → Pr) : Pr :=
  Jp (σ := Bool × Unit) (fun s2 =>
  Br s2.1 (
  R (p_s, ())) (
  Jp (σ := Int × ByteArray × Unit) (fun s4 =>
  New #[(.pointer none), (.slice none 0 0)] 46 fun a5 =>
  Cl Tryd.prog 39 [(.pointer (some a5)), (.int .i64 (w64 (((p_s.size : Nat) : Int) + (w64 (s4.1 * (w64 (((p_new.size : Nat) : Int) - ((p_old.size : Nat) : Int))))))))] true [] fun r6 =>
  Jp (σ := Int × Unit) (fun s8 =>
  Req ((0 : Int) ≤ s8.1 ∧ s8.1 ≤ ((p_s.size : Nat) : Int)) <|
  Cl Tryd.prog 22 [(.pointer (some a5)), (.string (p_s.extract (Int.toNat s8.1) p_s.size))] true [.sc (.i .i64), .sc .v] fun r9 =>
  Cl Tryd.prog 24 [(.pointer (some a5))] false [.sc .s] fun r10 =>
  R (r10.1, ())) fun J7 =>
  Br (decide ((((p_old.size : Nat) : Int) : Int) > 0)) (
  Lp (σ := Int × Int × Unit) (fun L11 s12 =>
  Br (decide ((s12.2.1 : Int) < s4.1)) (
  Req ((0 : Int) ≤ s12.1 ∧ s12.1 ≤ ((p_s.size : Nat) : Int)) <|
  Cl Tryd.prog 31 [(.string (p_s.extract (Int.toNat s12.1) p_s.size)), (.string p_old)] false [.sc (.i .i64)] fun r13 =>
  Req ((0 : Int) ≤ (w64 (s12.1 + r13.1)) ∧ (w64 (s12.1 + r13.1)) ≤ ((p_s.size : Nat) : Int)) <|
  Req ((0 : Int) ≤ s12.1 ∧ s12.1 ≤ (((Int.toNat (w64 (s12.1 + r13.1))) : Nat) : Int)) <|
  Cl Tryd.prog 22 [(.pointer (some a5)), (.string (p_s.extract (Int.toNat s12.1) (Int.toNat (w64 (s12.1 + r13.1)))))] true [.sc (.i .i64), .sc .v] fun r14 =>
  Cl Tryd.prog 22 [(.pointer (some a5)), (.string p_new)] true [.sc (.i .i64), .sc .v] fun r15 =>
  L11 ((w64 ((w64 (s12.1 + r13.1)) + ((p_old.size : Nat) : Int))), (w64 (s12.2.1 + 1)), ())) (
  J7 (s12.1, ()))) (0, 0, ())) (
  Cl Tryd.prog 22 [(.pointer (some a5)), (.string p_new)] true [.sc (.i .i64), .sc .v] fun r16 =>
  Lp (σ := Int × Int × Unit) (fun L17 s18 =>
  Br (decide ((s18.2.1 : Int) < (w64 (s4.1 - 1)))) (
  Req ((0 : Int) ≤ s18.1 ∧ s18.1 ≤ ((p_s.size : Nat) : Int)) <|
  Cl Tryd.prog 40 [(.string (p_s.extract (Int.toNat s18.1) p_s.size))] true [.sc (.i .i32), .sc (.i .i64)] fun r19 =>
  Req ((0 : Int) ≤ (w64 (s18.1 + r19.2.1)) ∧ (w64 (s18.1 + r19.2.1)) ≤ ((p_s.size : Nat) : Int)) <|
  Req ((0 : Int) ≤ s18.1 ∧ s18.1 ≤ (((Int.toNat (w64 (s18.1 + r19.2.1))) : Nat) : Int)) <|
  Cl Tryd.prog 22 [(.pointer (some a5)), (.string (p_s.extract (Int.toNat s18.1) (Int.toNat (w64 (s18.1 + r19.2.1)))))] true [.sc (.i .i64), .sc .v] fun r20 =>
  Cl Tryd.prog 22 [(.pointer (some a5)), (.string p_new)] true [.sc (.i .i64), .sc .v] fun r21 =>
  L17 ((w64 (s18.1 + r19.2.1)), (w64 (s18.2.1 + 1)), ())) (
  J7 (s18.1, ()))) (0, 0, ()))) fun J3 =>
  Cl Tryd.prog 21 [(.string p_s), (.string p_old)] false [.sc (.i .i64)] fun r22 =>
  Br ((r22.1 : Int) == 0) (
  R (p_s, ())) (
  Jp (σ := Bool × Unit) (fun s24 =>
  Br s24.1 (
  J3 (r22.1, (BA []), ())) (
  J3 (p_n, (BA []), ()))) fun J23 =>
  Br (decide ((p_n : Int) < 0)) (
  J23 (true, ())) (
  J23 ((decide ((r22.1 : Int) < p_n)), ()))))) fun J1 =>
  Br (seq p_old p_new) (
  J1 (true, ())) (
  J1 (((p_n : Int) == 0), ()))
def strings_Replace_ann : Ann := .seq .leaf (.seq (.seq (.join [(22, .sc .b)] .leaf) (.cond (.seq .leaf .leaf) .leaf)) (.seq (.join [(3, .sc (.i .i64)), (8, .sc .s)] (.seq .leaf (.seq .leaf (.cond (.seq .leaf .leaf) (.seq (.join [(36, .sc .b)] .leaf) (.cond .leaf .leaf)))))) (.seq .leaf (.seq .leaf (.seq .leaf (.seq (.join [(11, .sc (.i .i64))] (.seq .leaf (.cond (.seq .leaf (.block (.loop [(11, .sc (.i .i64)), (53, .sc (.i .i64))] (.seq .leaf (.seq (.cond .leaf .leaf) (.seq (.block (.seq .leaf (.seq .leaf (.seq .leaf .leaf)))) .leaf)))))) (.seq .leaf (.seq .leaf (.block (.loop [(11, .sc (.i .i64)), (78, .sc (.i .i64))] (.seq .leaf (.seq (.cond .leaf .leaf) (.seq (.block (.seq .leaf (.seq .leaf (.seq .leaf (.seq .leaf .leaf))))) .leaf)))))))))) (.seq .leaf (.seq .leaf .leaf))))))))
set_option maxRecDepth 100000 in
theorem strings_Replace_den (p_s : ByteArray) (p_old : ByteArray) (p_new : ByteArray) (p_n : Int) (R : TR [.sc .s] → Pr) : den Tryd.prog strings_Replace_ann (Tryd.f33.body.getD .skip) (retQ Tryd.prog Tryd.f33.results.toList false [.sc .s] R) [] (env0 104 [(.string p_s), (.string p_old), (.string p_new), (.int .i64 p_n)]) = strings_Replace p_s p_old p_new p_n R := by
  kernel_rfl
set_option maxRecDepth 100000 in
theorem strings_Replace_call (p_s : ByteArray) (p_old : ByteArray) (p_new : ByteArray) (p_n : Int) {R : TR [.sc .s] → Pr} {w : World} (h : strings_Replace p_s p_old p_new p_n R w) : Cl Tryd.prog 33 [(.string p_s), (.string p_old), (.string p_new), (.int .i64 p_n)] false [.sc .s] R w :=
  call_of (P := Tryd.prog) (tup := false) (rs := [.sc .s]) Tryd.checked.mixed strings_Replace_ann (by kernel_rfl) Tryd.func33 (by kernel_rfl) Tryd.ntmps33 (by show Tryd.f33.results.size = 1; kernel_rfl) (by rw [← strings_Replace_den] at h; exact h)

/-- internal/bytealg.CompareString -/
abbrev i_internal_bytealg_CompareString : FuncId := 34
def internal_bytealg_CompareString (p_a : ByteArray) (p_b : ByteArray) (R : TR [.sc (.i .i64)] → Pr) : Pr :=
  Cl Tryd.prog 41 [(.string p_a), (.string p_b)] false [.sc (.i .i64)] fun r1 =>
  R (r1.1, ())
def internal_bytealg_CompareString_ann : Ann := .seq .leaf (.seq .leaf .leaf)
set_option maxRecDepth 100000 in
theorem internal_bytealg_CompareString_den (p_a : ByteArray) (p_b : ByteArray) (R : TR [.sc (.i .i64)] → Pr) : den Tryd.prog internal_bytealg_CompareString_ann (Tryd.f34.body.getD .skip) (retQ Tryd.prog Tryd.f34.results.toList false [.sc (.i .i64)] R) [] (env0 8 [(.string p_a), (.string p_b)]) = internal_bytealg_CompareString p_a p_b R := by
  kernel_rfl
set_option maxRecDepth 100000 in
theorem internal_bytealg_CompareString_call (p_a : ByteArray) (p_b : ByteArray) {R : TR [.sc (.i .i64)] → Pr} {w : World} (h : internal_bytealg_CompareString p_a p_b R w) : Cl Tryd.prog 34 [(.string p_a), (.string p_b)] false [.sc (.i .i64)] R w :=
  call_of (P := Tryd.prog) (tup := false) (rs := [.sc (.i .i64)]) Tryd.checked.mixed internal_bytealg_CompareString_ann (by kernel_rfl) Tryd.func34 (by kernel_rfl) Tryd.ntmps34 (by show Tryd.f34.results.size = 1; kernel_rfl) (by rw [← internal_bytealg_CompareString_den] at h; exact h)

/-- cmp.isNaN[int] -/
abbrev i_cmp_isNaN : FuncId := 35
def cmp_isNaN (p_x : Int) (R : TR [.sc .b] → Pr) : Pr :=
  R (((p_x : Int) != p_x), ())
def cmp_isNaN_ann : Ann := .seq .leaf (.seq .leaf .leaf)
set_option maxRecDepth 100000 in
theorem cmp_isNaN_den (p_x : Int) (R : TR [.sc .b] → Pr) : den Tryd.prog cmp_isNaN_ann (Tryd.f35.body.getD .skip) (retQ Tryd.prog Tryd.f35.results.toList false [.sc .b] R) [] (env0 6 [(.int .i64 p_x)]) = cmp_isNaN p_x R := by
  kernel_rfl
set_option maxRecDepth 100000 in
theorem cmp_isNaN_call (p_x : Int) {R : TR [.sc .b] → Pr} {w : World} (h : cmp_isNaN p_x R w) : Cl Tryd.prog 35 [(.int .i64 p_x)] false [.sc .b] R w :=
  call_of (P := Tryd.prog) (tup := false) (rs := [.sc .b]) Tryd.checked.mixed cmp_isNaN_ann (by kernel_rfl) Tryd.func35 (by kernel_rfl) Tryd.ntmps35 (by show Tryd.f35.results.size = 1; kernel_rfl) (by rw [← cmp_isNaN_den] at h; exact h)

/-- internal/stringslite.TrimSuffix -/
abbrev i_internal_stringslite_TrimSuffix : FuncId := 36
def internal_stringslite_TrimSuffix (p_s : ByteArray) (p_suffix : ByteArray) (R : TR [.sc .s] → Pr) : Pr :=
  Cl Tryd.prog 42 [(.string p_s), (.string p_suffix)] false [.sc .b] fun r1 =>
  Br r1.1 (
  Req ((0 : Int) ≤ (w64 (((p_s.size : Nat) : Int) - ((p_suffix.size : Nat) : Int))) ∧ (w64 (((p_s.size : Nat) : Int) - ((p_suffix.size : Nat) : Int))) ≤ ((p_s.size : Nat) : Int)) <|
  R ((p_s.extract 0 (Int.toNat (w64 (((p_s.size : Nat) : Int) - ((p_suffix.size : Nat) : Int))))), ())) (
  R (p_s, ()))
def internal_stringslite_TrimSuffix_ann : Ann := .seq .leaf (.seq (.seq .leaf (.cond (.seq .leaf .leaf) .leaf)) (.seq .leaf .leaf))
set_option maxRecDepth 100000 in
theorem internal_stringslite_TrimSuffix_den (p_s : ByteArray) (p_suffix : ByteArray) (R : TR [.sc .s] → Pr) : den Tryd.prog internal_stringslite_TrimSuffix_ann (Tryd.f36.body.getD .skip) (retQ Tryd.prog Tryd.f36.results.toList false [.sc .s] R) [] (env0 16 [(.string p_s), (.string p_suffix)]) = internal_stringslite_TrimSuffix p_s p_suffix R := by
  kernel_rfl
set_option maxRecDepth 100000 in
theorem internal_stringslite_TrimSuffix_call (p_s : ByteArray) (p_suffix : ByteArray) {R : TR [.sc .s] → Pr} {w : World} (h : internal_stringslite_TrimSuffix p_s p_suffix R w) : Cl Tryd.prog 36 [(.string p_s), (.string p_suffix)] false [.sc .s] R w :=
  call_of (P := Tryd.prog) (tup := false) (rs := [.sc .s]) Tryd.checked.mixed internal_stringslite_TrimSuffix_ann (by kernel_rfl) Tryd.func36 (by kernel_rfl) Tryd.ntmps36 (by show Tryd.f36.results.size = 1; kernel_rfl) (by rw [← internal_stringslite_TrimSuffix_den] at h; exact h)

/-- unicode/utf8.DecodeRuneInString -/
abbrev i_unicode_utf8_DecodeRuneInString : FuncId := 40
def unicode_utf8_DecodeRuneInString (p_s : ByteArray) (R : TR [.sc (.i .i32), .sc (.i .i64)] → Pr) : Pr :=
  Jp (σ := Bool × Unit) (fun s2 =>
  Br s2.1 (
  IxS p_s 0 fun c3 =>
  R ((IntKind.i32.wrap (c3)), 1, ())) (
  Cl Tryd.prog 48 [(.string p_s)] true [.sc (.i .i32), .sc (.i .i64)] fun r4 =>
  R (r4.1, r4.2.1, ()))) fun J1 =>
  Br (!(seq p_s (BA []))) (
  IxS p_s 0 fun c5 =>
  J1 ((decide ((c5 : Int) < 128)), ())) (
  J1 (false, ()))
def unicode_utf8_DecodeRuneInString_ann : Ann := .seq .leaf (.seq (.seq (.join [(10, .sc .b)] .leaf) (.cond (.seq .leaf .leaf) .leaf)) .leaf)
set_option maxRecDepth 100000 in
theorem unicode_utf8_DecodeRuneInString_den (p_s : ByteArray) (R : TR [.sc (.i .i32), .sc (.i .i64)] → Pr) : den Tryd.prog unicode_utf8_DecodeRuneInString_ann (Tryd.f40.body.getD .skip) (retQ Tryd.prog Tryd.f40.results.toList true [.sc (.i .i32), .sc (.i .i64)] R) [] (env0 19 [(.string p_s)]) = unicode_utf8_DecodeRuneInString p_s R := by
  kernel_rfl
set_option maxRecDepth 100000 in
theorem unicode_utf8_DecodeRuneInString_call (p_s : ByteArray) {R : TR [.sc (.i .i32), .sc (.i .i64)] → Pr} {w : World} (h : unicode_utf8_DecodeRuneInString p_s R w) : Cl Tryd.prog 40 [(.string p_s)] true [.sc (.i .i32), .sc (.i .i64)] R w :=
  call_of (P := Tryd.prog) (tup := true) (rs := [.sc (.i .i32), .sc (.i .i64)]) Tryd.checked.mixed unicode_utf8_DecodeRuneInString_ann (by kernel_rfl) Tryd.func40 (by kernel_rfl) Tryd.ntmps40 (by show Nat.beq Tryd.f40.results.size 1 = false; kernel_rfl) (by rw [← unicode_utf8_DecodeRuneInString_den] at h; exact h)

/-- internal/stringslite.HasSuffix -/
abbrev i_internal_stringslite_HasSuffix : FuncId := 42
def internal_stringslite_HasSuffix (p_s : ByteArray) (p_suffix : ByteArray) (R : TR [.sc .b] → Pr) : Pr :=
  Br (decide ((((p_s.size : Nat) : Int) : Int) ≥ ((p_suffix.size : Nat) : Int))) (
  Req ((0 : Int) ≤ (w64 (((p_s.size : Nat) : Int) - ((p_suffix.size : Nat) : Int))) ∧ (w64 (((p_s.size : Nat) : Int) - ((p_suffix.size : Nat) : Int))) ≤ ((p_s.size : Nat) : Int)) <|
  R ((seq (p_s.extract (Int.toNat (w64 (((p_s.size : Nat) : Int) - ((p_suffix.size : Nat) : Int)))) p_s.size) p_suffix), ())) (
  R (false, ()))
def internal_stringslite_HasSuffix_ann : Ann := .seq .leaf (.seq .leaf .leaf)
set_option maxRecDepth 100000 in
theorem internal_stringslite_HasSuffix_den (p_s : ByteArray) (p_suffix : ByteArray) (R : TR [.sc .b] → Pr) : den Tryd.prog internal_stringslite_HasSuffix_ann (Tryd.f42.body.getD .skip) (retQ Tryd.prog Tryd.f42.results.toList false [.sc .b] R) [] (env0 21 [(.string p_s), (.string p_suffix)]) = internal_stringslite_HasSuffix p_s p_suffix R := by
  kernel_rfl
set_option maxRecDepth 100000 in
theorem internal_stringslite_HasSuffix_call (p_s : ByteArray) (p_suffix : ByteArray) {R : TR [.sc .b] → Pr} {w : World} (h : internal_stringslite_HasSuffix p_s p_suffix R w) : Cl Tryd.prog 42 [(.string p_s), (.string p_suffix)] false [.sc .b] R w :=
  call_of (P := Tryd.prog) (tup := false) (rs := [.sc .b]) Tryd.checked.mixed internal_stringslite_HasSuffix_ann (by kernel_rfl) Tryd.func42 (by kernel_rfl) Tryd.ntmps42 (by show Tryd.f42.results.size = 1; kernel_rfl) (by rw [← internal_stringslite_HasSuffix_den] at h; exact h)

/-- internal/stringslite.IndexByte -/
abbrev i_internal_stringslite_IndexByte : FuncId := 43
def internal_stringslite_IndexByte (p_s : ByteArray) (p_c : Int) (R : TR [.sc (.i .i64)] → Pr) : Pr :=
  Cl Tryd.prog 49 [(.string p_s), (.int .u8 p_c)] false [.sc (.i .i64)] fun r1 =>
  R (r1.1, ())
def internal_stringslite_IndexByte_ann : Ann := .seq .leaf (.seq .leaf .leaf)
set_option maxRecDepth 100000 in
theorem internal_stringslite_IndexByte_den (p_s : ByteArray) (p_c : Int) (R : TR [.sc (.i .i64)] → Pr) : den Tryd.prog internal_stringslite_IndexByte_ann (Tryd.f43.body.getD .skip) (retQ Tryd.prog Tryd.f43.results.toList false [.sc (.i .i64)] R) [] (env0 8 [(.string p_s), (.int .u8 p_c)]) = internal_stringslite_IndexByte p_s p_c R := by
  kernel_rfl
set_option maxRecDepth 100000 in
theorem internal_stringslite_IndexByte_call (p_s : ByteArray) (p_c : Int) {R : TR [.sc (.i .i64)] → Pr} {w : World} (h : internal_stringslite_IndexByte p_s p_c R w) : Cl Tryd.prog 43 [(.string p_s), (.int .u8 p_c)] false [.sc (.i .i64)] R w :=
  call_of (P := Tryd.prog) (tup := false) (rs := [.sc (.i .i64)]) Tryd.checked.mixed internal_stringslite_IndexByte_ann (by kernel_rfl) Tryd.func43 (by kernel_rfl) Tryd.ntmps43 (by show Tryd.f43.results.size = 1; kernel_rfl) (by rw [← internal_stringslite_IndexByte_den] at h; exact h)

/-- internal/bytealg.Cutover -/
abbrev i_internal_bytealg_Cutover : FuncId := 45
def internal_bytealg_Cutover (p_n : Int) (R : TR [.sc (.i .i64)] → Pr) : Pr :=
  Req (8 ≠ (0 : Int)) <|
  R ((w64 ((w64 (p_n + 16)).tdiv 8)), ())
def internal_bytealg_Cutover_ann : Ann := .seq .leaf (.seq .leaf .leaf)
set_option maxRecDepth 100000 in
theorem internal_bytealg_Cutover_den (p_n : Int) (R : TR [.sc (.i .i64)] → Pr) : den Tryd.prog internal_bytealg_Cutover_ann (Tryd.f45.body.getD .skip) (retQ Tryd.prog Tryd.f45.results.toList false [.sc (.i .i64)] R) [] (env0 6 [(.int .i64 p_n)]) = internal_bytealg_Cutover p_n R := by
  kernel_rfl
set_option maxRecDepth 100000 in
theorem internal_bytealg_Cutover_call (p_n : Int) {R : TR [.sc (.i .i64)] → Pr} {w : World} (h : internal_bytealg_Cutover p_n R w) : Cl Tryd.prog 45 [(.int .i64 p_n)] false [.sc (.i .i64)] R w :=
  call_of (P := Tryd.prog) (tup := false) (rs := [.sc (.i .i64)]) Tryd.checked.mixed internal_bytealg_Cutover_ann (by kernel_rfl) Tryd.func45 (by kernel_rfl) Tryd.ntmps45 (by show Tryd.f45.results.size = 1; kernel_rfl) (by rw [← internal_bytealg_Cutover_den] at h; exact h)

/-- internal/bytealg.IndexRabinKarp[string] -/
abbrev i_internal_bytealg_IndexRabinKarp : FuncId := 46
def internal_bytealg_IndexRabinKarp (p_s : ByteArray) (p_sep : ByteArray) (R : TR [.sc (.i .i64)] → Pr) : Pr :=
  Cl Tryd.prog 50 [(.string p_sep)] true [.sc (.i .u32), .sc (.i .u32)] fun r1 =>
  Lp (σ := Int × Int × Unit) (fun L2 s3 =>
  Br (decide ((s3.2.1 : Int) < ((p_sep.size : Nat) : Int))) (
  IxS p_s s3.2.1 fun c4 =>
  L2 ((IntKind.u32.wrap ((IntKind.u32.wrap (s3.1 * 16777619)) + (IntKind.u32.wrap (c4)))), (w64 (s3.2.1 + 1)), ())) (
  Jp (σ := Bool × Unit) (fun s6 =>
  Br s6.1 (
  R (0, ())) (
  Lp (σ := Int × Int × Int × Unit) (fun L7 s8 =>
  Br (decide ((s8.2.2.1 : Int) < ((p_s.size : Nat) : Int))) (
  IxS p_s s8.2.2.1 fun c9 =>
  IxS p_s (w64 (s8.2.2.1 - ((p_sep.size : Nat) : Int))) fun c10 =>
  Jp (σ := Bool × Unit) (fun s12 =>
  Br s12.1 (
  R ((w64 ((w64 (s8.2.2.1 + 1)) - ((p_sep.size : Nat) : Int))), ())) (
  L7 (s8.1, (IntKind.u32.wrap ((IntKind.u32.wrap ((IntKind.u32.wrap (s8.2.1 * 16777619)) + (IntKind.u32.wrap (c9)))) - (IntKind.u32.wrap (r1.2.1 * (IntKind.u32.wrap (c10)))))), (w64 (s8.2.2.1 + 1)), ()))) fun J11 =>
  Br (((IntKind.u32.wrap ((IntKind.u32.wrap ((IntKind.u32.wrap (s8.2.1 * 16777619)) + (IntKind.u32.wrap (c9)))) - (IntKind.u32.wrap (r1.2.1 * (IntKind.u32.wrap (c10)))))) : Int) == r1.1) (
  Req ((0 : Int) ≤ (w64 (s8.2.2.1 + 1)) ∧ (w64 (s8.2.2.1 + 1)) ≤ ((p_s.size : Nat) : Int)) <|
  Req ((0 : Int) ≤ (w64 ((w64 (s8.2.2.1 + 1)) - ((p_sep.size : Nat) : Int))) ∧ (w64 ((w64 (s8.2.2.1 + 1)) - ((p_sep.size : Nat) : Int))) ≤ (((Int.toNat (w64 (s8.2.2.1 + 1))) : Nat) : Int)) <|
  J11 ((seq (p_s.extract (Int.toNat (w64 ((w64 (s8.2.2.1 + 1)) - ((p_sep.size : Nat) : Int)))) (Int.toNat (w64 (s8.2.2.1 + 1)))) p_sep), ())) (
  J11 (false, ()))) (
  R ((-1), ()))) (0, s3.1, ((p_sep.size : Nat) : Int), ()))) fun J5 =>
  Br ((s3.1 : Int) == r1.1) (
  Req ((0 : Int) ≤ ((p_sep.size : Nat) : Int) ∧ ((p_sep.size : Nat) : Int) ≤ ((p_s.size : Nat) : Int)) <|
  J5 ((seq (p_s.extract 0 (Int.toNat ((p_sep.size : Nat) : Int))) p_sep), ())) (
  J5 (false, ())))) (0, 0, ())
def internal_bytealg_IndexRabinKarp_ann : Ann := .seq .leaf (.seq .leaf (.seq .leaf (.seq .leaf (.seq (.seq .leaf (.block (.loop [(8, .sc (.i .u32)), (9, .sc (.i .i64))] (.seq (.seq .leaf (.cond .leaf .leaf)) (.seq (.block .leaf) .leaf))))) (.seq (.seq (.join [(39, .sc .b)] .leaf) (.cond (.seq .leaf .leaf) .leaf)) (.seq (.seq .leaf (.block (.loop [(4, .sc (.i .i64)), (8, .sc (.i .u32)), (10, .sc (.i .i64))] (.seq (.seq .leaf (.cond .leaf .leaf)) (.block (.seq .leaf (.seq .leaf (.seq .leaf (.seq .leaf (.seq (.join [(77, .sc .b)] .leaf) (.cond (.seq .leaf .leaf) .leaf))))))))))) (.seq .leaf .leaf)))))))
set_option maxRecDepth 100000 in
theorem internal_bytealg_IndexRabinKarp_den (p_s : ByteArray) (p_sep : ByteArray) (R : TR [.sc (.i .i64)] → Pr) : den Tryd.prog internal_bytealg_IndexRabinKarp_ann (Tryd.f46.body.getD .skip) (retQ Tryd.prog Tryd.f46.results.toList false [.sc (.i .i64)] R) [] (env0 81 [(.string p_s), (.string p_sep)]) = internal_bytealg_IndexRabinKarp p_s p_sep R := by
  kernel_rfl
set_option maxRecDepth 100000 in
theorem internal_bytealg_IndexRabinKarp_call (p_s : ByteArray) (p_sep : ByteArray) {R : TR [.sc (.i .i64)] → Pr} {w : World} (h : internal_bytealg_IndexRabinKarp p_s p_sep R w) : Cl Tryd.prog 46 [(.string p_s), (.string p_sep)] false [.sc (.i .i64)] R w :=
  call_of (P := Tryd.prog) (tup := false) (rs := [.sc (.i .i64)]) Tryd.checked.mixed internal_bytealg_IndexRabinKarp_ann (by kernel_rfl) Tryd.func46 (by kernel_rfl) Tryd.ntmps46 (by show Tryd.f46.results.size = 1; kernel_rfl) (by rw [← internal_bytealg_IndexRabinKarp_den] at h; exact h)

/-- (*strings.Builder).grow -/
abbrev i_strings_Builder_grow : FuncId := 47
def strings_Builder_grow (p_b : Option Addr) (p_n : Int) (R : TR [] → Pr) : Pr :=
  Dr <|
  Nn p_b fun a1 =>
  LdL (a1.add 1) fun x2 =>
  Nn p_b fun a3 =>
  LdL (a3.add 1) fun x4 =>
  Cl Tryd.prog 51 [(.int .i64 (w64 ((w64 (2 * ((x2.cap : Nat) : Int))) + p_n)))] false [.sc .sl] fun r5 =>
  Both (LdL (a3.add 1) fun x6 =>
  fun _ => ((.slice x6.p x6.len x6.cap) : Value) = (.slice x4.p x4.len x4.cap)) <|
  Req ((0 : Int) ≤ ((x4.len : Nat) : Int) ∧ ((x4.len : Nat) : Int) ≤ ((r5.1.cap : Nat) : Int)) <|
  Nn p_b fun a7 =>
  LdL (a7.add 1) fun x8 =>
  Cpy 1 (slOff r5.1.p r5.1.cap 0 1) (Nat.min x8.len ((Int.toNat ((x4.len : Nat) : Int)) - 0)) (srcS x8.p (Nat.min x8.len ((Int.toNat ((x4.len : Nat) : Int)) - 0)) 1) <|
  Nn p_b fun a9 =>
  St (a9.add 1) (.slice (slOff r5.1.p r5.1.cap 0 1) ((Int.toNat ((x4.len : Nat) : Int)) - 0) (r5.1.cap - 0)) <|
  R ()
def strings_Builder_grow_ann : Ann := .seq .leaf (.seq .leaf .leaf)
set_option maxRecDepth 100000 in
theorem strings_Builder_grow_den (p_b : Option Addr) (p_n : Int) (R : TR [] → Pr) : den Tryd.prog strings_Builder_grow_ann (Tryd.f47.body.getD .skip) (retQ Tryd.prog Tryd.f47.results.toList true [] R) [] (env0 30 [(.pointer p_b), (.int .i64 p_n)]) = strings_Builder_grow p_b p_n R := by
  kernel_rfl
set_option maxRecDepth 100000 in
theorem strings_Builder_grow_call (p_b : Option Addr) (p_n : Int) {R : TR [] → Pr} {w : World} (h : strings_Builder_grow p_b p_n R w) : Cl Tryd.prog 47 [(.pointer p_b), (.int .i64 p_n)] true [] R w :=
  call_of (P := Tryd.prog) (tup := true) (rs := []) Tryd.checked.mixed strings_Builder_grow_ann (by kernel_rfl) Tryd.func47 (by kernel_rfl) Tryd.ntmps47 (by show Nat.beq Tryd.f47.results.size 1 = false; kernel_rfl) (by rw [← strings_Builder_grow_den] at h; exact h)

/-- internal/bytealg.hashStr[string] -/
abbrev i_internal_bytealg_hashStr : FuncId := 50
def internal_bytealg_hashStr (p_sep : ByteArray) (R : TR [.sc (.i .u32), .sc (.i .u32)] → Pr) : Pr :=
  Lp (σ := Int × Int × Unit) (fun L1 s2 =>
  Br (decide ((s2.2.1 : Int) < ((p_sep.size : Nat) : Int))) (
  IxS p_sep s2.2.1 fun c3 =>
  L1 ((IntKind.u32.wrap ((IntKind.u32.wrap (s2.1 * 16777619)) + (IntKind.u32.wrap (c3)))), (w64 (s2.2.1 + 1)), ())) (
  Lp (σ := Int × Int × Int × Unit) (fun L4 s5 =>
  Br (decide ((s5.2.2.1 : Int) > 0)) (
  Jp (σ := Int × Unit) (fun s7 =>
  Req ((0 : Int) ≤ 1) <|
  L4 (s7.1, (IntKind.u32.wrap (s5.2.1 * s5.2.1)), (ishr .i64 s5.2.2.1 1), ())) fun J6 =>
  Br (((iand .i64 s5.2.2.1 1) : Int) != 0) (
  J6 ((IntKind.u32.wrap (s5.1 * s5.2.1)), ())) (
  J6 (s5.1, ()))) (
  R (s2.1, s5.1, ()))) (1, 16777619, ((p_sep.size : Nat) : Int), ()))) (0, 0, ())
def internal_bytealg_hashStr_ann : Ann := .seq .leaf (.seq .leaf (.seq (.seq .leaf (.block (.loop [(4, .sc (.i .u32)), (5, .sc (.i .i64))] (.seq (.seq .leaf (.cond .leaf .leaf)) (.seq (.block .leaf) .leaf))))) (.seq .leaf (.seq (.seq .leaf (.block (.loop [(6, .sc (.i .u32)), (7, .sc (.i .u32)), (8, .sc (.i .i64))] (.seq (.seq .leaf (.cond .leaf .leaf)) (.seq (.block (.seq (.join [(6, .sc (.i .u32))] (.seq .leaf (.cond .leaf .leaf))) .leaf)) .leaf))))) (.seq .leaf .leaf)))))
set_option maxRecDepth 100000 in
theorem internal_bytealg_hashStr_den (p_sep : ByteArray) (R : TR [.sc (.i .u32), .sc (.i .u32)] → Pr) : den Tryd.prog internal_bytealg_hashStr_ann (Tryd.f50.body.getD .skip) (retQ Tryd.prog Tryd.f50.results.toList true [.sc (.i .u32), .sc (.i .u32)] R) [] (env0 39 [(.string p_sep)]) = internal_bytealg_hashStr p_sep R := by
  kernel_rfl
set_option maxRecDepth 100000 in
theorem internal_bytealg_hashStr_call (p_sep : ByteArray) {R : TR [.sc (.i .u32), .sc (.i .u32)] → Pr} {w : World} (h : internal_bytealg_hashStr p_sep R w) : Cl Tryd.prog 50 [(.string p_sep)] true [.sc (.i .u32), .sc (.i .u32)] R w :=
  call_of (P := Tryd.prog) (tup := true) (rs := [.sc (.i .u32), .sc (.i .u32)]) Tryd.checked.mixed internal_bytealg_hashStr_ann (by kernel_rfl) Tryd.func50 (by kernel_rfl) Tryd.ntmps50 (by show Nat.beq Tryd.f50.results.size 1 = false; kernel_rfl) (by rw [← internal_bytealg_hashStr_den] at h; exact h)

end Go.Proofs.YthgiocimimdbcaaDoor
