import Derived.Test.YtdpbgcplcjhjmaaChecked
import Derived.Test.YtdpbgcplcjhjmaaSxM
set_option linter.unusedVariables false
namespace Go.Proofs.Ytdpbgcplcjhjmaa
open Go Go.Sx

/-- sumpter/sumpterlaw08.AllocLeast -/
def sumpterlaw08_AllocLeast (p_places : Int) (p_l : Sl) (p_n : Int) (R : TR [.sc .b] → Pr) : Pr :=
  Cl Try.prog 7 [] false [.sc .b] fun r1 =>
  Cl Try.prog 8 [(.int .i64 p_places)] true [.sc .p, .sc (.i .i64)] fun r2 =>
  Br (Option.isNone r2.1) (
  Br r1.1 (
  R (((r2.2.1 : Int) == 1), ())) (
  R (false, ()))) (
  Lp (σ := Int × Unit) (fun L3 s4 =>
  Br (decide ((s4.1 : Int) < ((p_l.len : Nat) : Int))) (
  Jp (σ := Unit) (fun s6 =>
  L3 ((w64 (s4.1 + 1)), ())) fun J5 =>
  Ix p_l s4.1 3 fun a7 =>
  LdI .i64 (a7.add 0) fun x8 =>
  LdI .i64 (a7.add 1) fun x9 =>
  LdB (a7.add 2) fun x10 =>
  New #[(.int .i64 0), (.int .i64 0), (.bool false)] 29 fun a11 =>
  St (a11.add 0) (.int .i64 x8) <|
  St (a11.add 1) (.int .i64 x9) <|
  St (a11.add 2) (.bool x10) <|
  Br (decide ((s4.1 : Int) < 200)) (
  LdI .i64 (a11.add 1) fun x12 =>
  Cl Try.prog 9 [(.pointer r2.1), (.int .i64 x12)] false [.sc (.i .i64)] fun r13 =>
  J5 ()) (
  J5 ())) (
  Req (6 ≠ (0 : Int)) <|
  Req (6 ≠ (0 : Int)) <|
  Lp (σ := Int × Int × Unit) (fun L14 s15 =>
  Jp (σ := Bool × Unit) (fun s17 =>
  Br s17.1 (
  Jp (σ := Int × Unit) (fun s19 =>
  L14 (s19.1, (w64 (s15.2.1 + 1)), ())) fun J18 =>
  Lp (σ := Bool × Int × Unit) (fun L20 s21 =>
  Br (decide ((s21.2.1 : Int) < (w64 (s15.2.1 + (w64 (1 + ((w64 (((p_n : Int).tmod 6) + 6)).tmod 6))))))) (
  Jp (σ := Bool × Unit) (fun s23 =>
  L20 (s23.1, (w64 (s21.2.1 + 1)), ())) fun J22 =>
  Br s21.1 (
  Cl Try.prog 10 [(.pointer r2.1), (.int .i64 s21.2.1)] false [.sc .b] fun r24 =>
  J22 ((!r24.1), ())) (
  J22 (false, ()))) (
  Br s21.1 (
  J18 (s15.2.1, ())) (
  J18 (s15.1, ())))) (true, s15.2.1, ())) (
  Cl Try.prog 11 [(.pointer r2.1), (.int .i64 (w64 (1 + ((w64 (((p_n : Int).tmod 6) + 6)).tmod 6))))] true [.sc (.i .i64), .sc (.i .i64)] fun r25 =>
  Br (decide ((s15.1 : Int) < 0)) (
  Br r1.1 (
  Br ((r25.1 : Int) == 0) (
  R (((r25.2.1 : Int) == 62), ())) (
  R (false, ()))) (
  R (false, ()))) (
  Br r1.1 (
  Br ((r25.1 : Int) == s15.1) (
  R (((r25.2.1 : Int) == 0), ())) (
  R (false, ()))) (
  R (false, ()))))) fun J16 =>
  Br (decide (((w64 (s15.2.1 + (w64 (1 + ((w64 (((p_n : Int).tmod 6) + 6)).tmod 6))))) : Int) ≤ p_places)) (
  J16 ((decide ((s15.1 : Int) < 0)), ())) (
  J16 (false, ()))) ((-1), 0, ()))) (0, ()))
def sumpterlaw08_AllocLeast_ann : Ann := .seq .leaf (.seq .leaf (.seq .leaf (.seq (.seq .leaf (.cond (.seq .leaf .leaf) .leaf)) (.seq (.seq .leaf (.block (.loop [(33, .sc (.i .i64))] (.seq .leaf (.seq (.cond .leaf .leaf) (.seq (.join [] (.block (.seq .leaf (.seq .leaf (.cond .leaf .leaf))))) .leaf)))))) (.seq .leaf (.seq .leaf (.seq (.seq .leaf (.block (.loop [(12, .sc (.i .i64)), (13, .sc (.i .i64))] (.seq (.seq (.join [(58, .sc .b)] .leaf) (.cond .leaf .leaf)) (.seq (.join [(12, .sc (.i .i64))] (.block (.seq .leaf (.seq (.seq .leaf (.block (.loop [(14, .sc .b), (15, .sc (.i .i64))] (.seq (.seq .leaf (.cond .leaf .leaf)) (.seq (.join [(14, .sc .b)] (.block .leaf)) .leaf))))) (.seq .leaf (.cond .leaf .leaf)))))) .leaf))))) (.seq .leaf (.seq (.seq .leaf (.cond (.seq .leaf .leaf) .leaf)) (.seq .leaf .leaf))))))))))
set_option maxRecDepth 100000 in
theorem sumpterlaw08_AllocLeast_den (p_places : Int) (p_l : Sl) (p_n : Int) (R : TR [.sc .b] → Pr) : den Try.prog sumpterlaw08_AllocLeast_ann (Try.f3.body.getD .skip) (retQ Try.prog Try.f3.results.toList false [.sc .b] R) (env0 105 [(.int .i64 p_places), (.slice p_l.p p_l.len p_l.cap), (.int .i64 p_n)]) = sumpterlaw08_AllocLeast p_places p_l p_n R := by
  kernel_rfl
theorem sumpterlaw08_AllocLeast_call (p_places : Int) (p_l : Sl) (p_n : Int) {R : TR [.sc .b] → Pr} {w : World} (h : sumpterlaw08_AllocLeast p_places p_l p_n R w) : Cl Try.prog 3 [(.int .i64 p_places), (.slice p_l.p p_l.len p_l.cap), (.int .i64 p_n)] false [.sc .b] R w :=
  call_of (P := Try.prog) (tup := false) (rs := [.sc .b]) Try.checked.mixed sumpterlaw08_AllocLeast_ann (by kernel_rfl) Try.func3 (by kernel_rfl) Try.ntmps3 (by show Try.f3.results.size = 1; kernel_rfl) (by rw [← sumpterlaw08_AllocLeast_den] at h; exact h)

/-- sumpter/sumpterlaw08.AllocOnce -/
def sumpterlaw08_AllocOnce (p_places : Int) (p_l : Sl) (R : TR [.sc .b] → Pr) : Pr :=
  Cl Try.prog 7 [] false [.sc .b] fun r1 =>
  Cl Try.prog 8 [(.int .i64 p_places)] true [.sc .p, .sc (.i .i64)] fun r2 =>
  Br (Option.isNone r2.1) (
  Br r1.1 (
  R (((r2.2.1 : Int) == 1), ())) (
  R (false, ()))) (
  Br (decide ((((p_l.len : Nat) : Int) : Int) > 300)) (
  R (r1.1, ())) (
  Lp (σ := Bool × Int × Unit) (fun L3 s4 =>
  Br (decide ((s4.2.1 : Int) < ((p_l.len : Nat) : Int))) (
  Jp (σ := Bool × Unit) (fun s6 =>
  L3 (s6.1, (w64 (s4.2.1 + 1)), ())) fun J5 =>
  Ix p_l s4.2.1 3 fun a7 =>
  LdI .i64 (a7.add 0) fun x8 =>
  LdI .i64 (a7.add 1) fun x9 =>
  LdB (a7.add 2) fun x10 =>
  New #[(.int .i64 0), (.int .i64 0), (.bool false)] 29 fun a11 =>
  St (a11.add 0) (.int .i64 x8) <|
  St (a11.add 1) (.int .i64 x9) <|
  St (a11.add 2) (.bool x10) <|
  Cl Try.prog 12 [(.pointer r2.1)] false [.sc .p] fun r12 =>
  Br (Option.isNone r12.1) (
  R (false, ())) (
  LdI .i64 (a11.add 0) fun x13 =>
  Br ((x13 : Int) == 2) (
  Jp (σ := Bool × Unit) (fun s15 =>
  Br s15.1 (
  R (false, ())) (
  J5 (s4.1, ()))) fun J14 =>
  Dr <|
  LdI .i64 (a11.add 1) fun x16 =>
  LdI .i64 (a11.add 1) fun x17 =>
  Cl Try.prog 13 [(.pointer r2.1), (.int .i64 x16)] false [.sc (.i .i64)] fun r18 =>
  Both (LdI .i64 (a11.add 1) fun x19 =>
  fun _ => ((.int .i64 x19) : Value) = (.int .i64 x17)) <|
  Cl Try.prog 10 [(.pointer r12.1), (.int .i64 x17)] false [.sc .b] fun r20 =>
  Br (!(((r18.1 : Int) == 0) == r20.1)) (
  J14 (true, ())) (
  LdI .i64 (a11.add 1) fun x21 =>
  Cl Try.prog 10 [(.pointer r2.1), (.int .i64 x21)] false [.sc .b] fun r22 =>
  J14 (r22.1, ()))) (
  LdI .i64 (a11.add 1) fun x23 =>
  Req (5 ≠ (0 : Int)) <|
  Req (5 ≠ (0 : Int)) <|
  Cl Try.prog 11 [(.pointer r2.1), (.int .i64 (w64 (1 + ((w64 (((x23 : Int).tmod 5) + 5)).tmod 5))))] true [.sc (.i .i64), .sc (.i .i64)] fun r24 =>
  Br ((r24.2.1 : Int) != 0) (
  Cl Try.prog 14 [(.pointer r2.1)] false [.sc (.i .i64)] fun r25 =>
  Cl Try.prog 14 [(.pointer r12.1)] false [.sc (.i .i64)] fun r26 =>
  Br ((r25.1 : Int) != r26.1) (
  R (false, ())) (
  J5 (s4.1, ()))) (
  Lp (σ := Bool × Int × Unit) (fun L27 s28 =>
  Br (decide ((s28.2.1 : Int) < (w64 (r24.1 + (w64 (1 + ((w64 (((x23 : Int).tmod 5) + 5)).tmod 5))))))) (
  Jp (σ := Bool × Unit) (fun s30 =>
  Br s30.1 (
  R (false, ())) (
  L27 (s28.1, (w64 (s28.2.1 + 1)), ()))) fun J29 =>
  Cl Try.prog 10 [(.pointer r12.1), (.int .i64 s28.2.1)] false [.sc .b] fun r31 =>
  Br r31.1 (
  J29 (true, ())) (
  Cl Try.prog 10 [(.pointer r2.1), (.int .i64 s28.2.1)] false [.sc .b] fun r32 =>
  J29 ((!r32.1), ()))) (
  Cl Try.prog 14 [(.pointer r2.1)] false [.sc (.i .i64)] fun r33 =>
  Cl Try.prog 14 [(.pointer r12.1)] false [.sc (.i .i64)] fun r34 =>
  Br ((r33.1 : Int) != (w64 (r34.1 - (w64 (1 + ((w64 (((x23 : Int).tmod 5) + 5)).tmod 5)))))) (
  R (false, ())) (
  J5 (s28.1, ())))) (s4.1, r24.1, ()))))) (
  Cl Try.prog 16 [(.pointer r2.1)] false [.sc .sl] fun r35 =>
  Cl Try.prog 15 [(.int .i64 p_places), (.slice r35.1.p r35.1.len r35.1.cap)] true [.sc .p, .sc (.i .i64)] fun r36 =>
  Dr <|
  Br r1.1 (
  Br ((r36.2.1 : Int) == 0) (
  Br (!(Option.isNone r36.1)) (
  Cl Try.prog 16 [(.pointer r36.1)] false [.sc .sl] fun r37 =>
  BtoS r37.1 fun s38 =>
  Cl Try.prog 16 [(.pointer r2.1)] false [.sc .sl] fun r39 =>
  Both (BtoS r37.1 fun s40 =>
  fun _ => ((.string s40) : Value) = (.string s38)) <|
  BtoS r39.1 fun s41 =>
  Br (seq s38 s41) (
  Cl Try.prog 14 [(.pointer r36.1)] false [.sc (.i .i64)] fun r42 =>
  Cl Try.prog 14 [(.pointer r2.1)] false [.sc (.i .i64)] fun r43 =>
  R (((r42.1 : Int) == r43.1), ())) (
  R (false, ()))) (
  R (false, ()))) (
  R (false, ()))) (
  R (false, ())))) (false, 0, ())))
def sumpterlaw08_AllocOnce_ann : Ann := .seq .leaf (.seq .leaf (.seq .leaf (.seq (.seq .leaf (.cond (.seq .leaf .leaf) .leaf)) (.seq (.seq .leaf (.cond (.seq .leaf .leaf) .leaf)) (.seq (.seq .leaf (.block (.loop [(4, .sc .b), (36, .sc (.i .i64))] (.seq .leaf (.seq (.cond .leaf .leaf) (.seq (.join [(4, .sc .b)] (.block (.seq .leaf (.seq .leaf (.seq (.seq .leaf (.cond (.seq .leaf .leaf) .leaf)) (.seq (.seq .leaf (.cond (.seq (.seq (.join [(62, .sc .b)] .leaf) (.cond (.seq .leaf .leaf) .leaf)) .leaf) .leaf)) (.seq .leaf (.seq .leaf (.seq (.seq .leaf (.cond (.seq (.seq .leaf (.cond (.seq .leaf .leaf) .leaf)) .leaf) .leaf)) (.seq (.seq .leaf (.block (.loop [(4, .sc .b), (14, .sc (.i .i64))] (.seq (.seq .leaf (.cond .leaf .leaf)) (.seq (.block (.seq (.join [(98, .sc .b)] .leaf) (.cond (.seq .leaf .leaf) .leaf))) .leaf))))) (.seq .leaf (.cond (.seq .leaf .leaf) .leaf)))))))))))) .leaf)))))) (.seq .leaf (.seq .leaf .leaf)))))))
set_option maxRecDepth 100000 in
theorem sumpterlaw08_AllocOnce_den (p_places : Int) (p_l : Sl) (R : TR [.sc .b] → Pr) : den Try.prog sumpterlaw08_AllocOnce_ann (Try.f4.body.getD .skip) (retQ Try.prog Try.f4.results.toList false [.sc .b] R) (env0 139 [(.int .i64 p_places), (.slice p_l.p p_l.len p_l.cap)]) = sumpterlaw08_AllocOnce p_places p_l R := by
  kernel_rfl
theorem sumpterlaw08_AllocOnce_call (p_places : Int) (p_l : Sl) {R : TR [.sc .b] → Pr} {w : World} (h : sumpterlaw08_AllocOnce p_places p_l R w) : Cl Try.prog 4 [(.int .i64 p_places), (.slice p_l.p p_l.len p_l.cap)] false [.sc .b] R w :=
  call_of (P := Try.prog) (tup := false) (rs := [.sc .b]) Try.checked.mixed sumpterlaw08_AllocOnce_ann (by kernel_rfl) Try.func4 (by kernel_rfl) Try.ntmps4 (by show Try.f4.results.size = 1; kernel_rfl) (by rw [← sumpterlaw08_AllocOnce_den] at h; exact h)

/-- sumpter/sumpterlaw08.AllocCounts -/
def sumpterlaw08_AllocCounts (p_places : Int) (p_l : Sl) (R : TR [.sc .b] → Pr) : Pr :=
  Cl Try.prog 7 [] false [.sc .b] fun r1 =>
  Cl Try.prog 8 [(.int .i64 p_places)] true [.sc .p, .sc (.i .i64)] fun r2 =>
  Br (Option.isNone r2.1) (
  Br r1.1 (
  R (((r2.2.1 : Int) == 1), ())) (
  R (false, ()))) (
  Lp (σ := Int × Unit) (fun L3 s4 =>
  Br (decide ((s4.1 : Int) < ((p_l.len : Nat) : Int))) (
  Jp (σ := Unit) (fun s6 =>
  L3 ((w64 (s4.1 + 1)), ())) fun J5 =>
  Ix p_l s4.1 3 fun a7 =>
  LdI .i64 (a7.add 0) fun x8 =>
  LdI .i64 (a7.add 1) fun x9 =>
  LdB (a7.add 2) fun x10 =>
  New #[(.int .i64 0), (.int .i64 0), (.bool false)] 29 fun a11 =>
  St (a11.add 0) (.int .i64 x8) <|
  St (a11.add 1) (.int .i64 x9) <|
  St (a11.add 2) (.bool x10) <|
  Br (decide ((s4.1 : Int) ≥ 200)) (
  J5 ()) (
  LdI .i64 (a11.add 0) fun x12 =>
  Br ((x12 : Int) == 2) (
  LdI .i64 (a11.add 1) fun x13 =>
  Cl Try.prog 13 [(.pointer r2.1), (.int .i64 x13)] false [.sc (.i .i64)] fun r14 =>
  J5 ()) (
  LdI .i64 (a11.add 0) fun x15 =>
  Br ((x15 : Int) == 3) (
  LdI .i64 (a11.add 1) fun x16 =>
  Cl Try.prog 9 [(.pointer r2.1), (.int .i64 x16)] false [.sc (.i .i64)] fun r17 =>
  J5 ()) (
  Cl Try.prog 17 [(.pointer r2.1)] true [.sc (.i .i64), .sc (.i .i64)] fun r18 =>
  J5 ())))) (
  Cl Try.prog 18 [(.pointer r2.1)] false [.sc .sl] fun r19 =>
  Lp (σ := Bool × Int × Int × Unit) (fun L20 s21 =>
  Br (decide ((s21.2.2.1 : Int) < ((r19.1.len : Nat) : Int))) (
  Ix r19.1 s21.2.2.1 1 fun a22 =>
  LdI .i64 a22 fun x23 =>
  Jp (σ := Bool × Unit) (fun s25 =>
  Br s25.1 (
  R (false, ())) (
  L20 (s21.1, x23, (w64 (s21.2.2.1 + 1)), ()))) fun J24 =>
  Br (decide ((x23 : Int) ≤ s21.2.1)) (
  J24 (true, ())) (
  Cl Try.prog 10 [(.pointer r2.1), (.int .i64 x23)] false [.sc .b] fun r26 =>
  J24 ((!r26.1), ()))) (
  Lp (σ := Int × Int × Unit) (fun L27 s28 =>
  Br (decide ((s28.2.1 : Int) < p_places)) (
  Jp (σ := Int × Unit) (fun s30 =>
  L27 (s30.1, (w64 (s28.2.1 + 1)), ())) fun J29 =>
  Cl Try.prog 10 [(.pointer r2.1), (.int .i64 s28.2.1)] false [.sc .b] fun r31 =>
  Br r31.1 (
  J29 ((w64 (s28.1 + 1)), ())) (
  J29 (s28.1, ()))) (
  Br r1.1 (
  Br ((s28.1 : Int) == ((r19.1.len : Nat) : Int)) (
  Cl Try.prog 14 [(.pointer r2.1)] false [.sc (.i .i64)] fun r32 =>
  R ((((w64 (r32.1 + s28.1)) : Int) == p_places), ())) (
  R (false, ()))) (
  R (false, ())))) (0, 0, ()))) (false, (-1), 0, ()))) (0, ()))
def sumpterlaw08_AllocCounts_ann : Ann := .seq .leaf (.seq .leaf (.seq .leaf (.seq (.seq .leaf (.cond (.seq .leaf .leaf) .leaf)) (.seq (.seq .leaf (.block (.loop [(31, .sc (.i .i64))] (.seq .leaf (.seq (.cond .leaf .leaf) (.seq (.join [] (.block (.seq .leaf (.block (.seq .leaf (.cond .leaf (.seq .leaf (.cond .leaf (.seq .leaf (.cond .leaf .leaf)))))))))) .leaf)))))) (.seq .leaf (.seq .leaf (.seq (.seq .leaf (.block (.loop [(4, .sc .b), (11, .sc (.i .i64)), (62, .sc (.i .i64))] (.seq .leaf (.seq (.cond .leaf .leaf) (.seq (.block (.seq .leaf (.seq (.seq (.join [(74, .sc .b)] .leaf) (.cond (.seq .leaf .leaf) .leaf)) .leaf))) .leaf)))))) (.seq .leaf (.seq (.seq .leaf (.block (.loop [(14, .sc (.i .i64)), (78, .sc (.i .i64))] (.seq .leaf (.seq (.cond .leaf .leaf) (.seq (.join [(14, .sc (.i .i64))] (.block (.seq .leaf (.seq .leaf (.cond .leaf .leaf))))) .leaf)))))) (.seq .leaf .leaf))))))))))
set_option maxRecDepth 100000 in
theorem sumpterlaw08_AllocCounts_den (p_places : Int) (p_l : Sl) (R : TR [.sc .b] → Pr) : den Try.prog sumpterlaw08_AllocCounts_ann (Try.f5.body.getD .skip) (retQ Try.prog Try.f5.results.toList false [.sc .b] R) (env0 102 [(.int .i64 p_places), (.slice p_l.p p_l.len p_l.cap)]) = sumpterlaw08_AllocCounts p_places p_l R := by
  kernel_rfl
theorem sumpterlaw08_AllocCounts_call (p_places : Int) (p_l : Sl) {R : TR [.sc .b] → Pr} {w : World} (h : sumpterlaw08_AllocCounts p_places p_l R w) : Cl Try.prog 5 [(.int .i64 p_places), (.slice p_l.p p_l.len p_l.cap)] false [.sc .b] R w :=
  call_of (P := Try.prog) (tup := false) (rs := [.sc .b]) Try.checked.mixed sumpterlaw08_AllocCounts_ann (by kernel_rfl) Try.func5 (by kernel_rfl) Try.ntmps5 (by show Try.f5.results.size = 1; kernel_rfl) (by rw [← sumpterlaw08_AllocCounts_den] at h; exact h)

/-- sumpter/sumpterlaw08.AllocGoes -/
def sumpterlaw08_AllocGoes (p_places : Int) (p_load : Bool) (p_bits : Sl) (p_l : Sl) (R : TR [.sc .b] → Pr) : Pr :=
  Cl Try.prog 7 [] false [.sc .b] fun r1 =>
  Cl Try.prog 8 [(.int .i64 p_places)] true [.sc .p, .sc (.i .i64)] fun r2 =>
  Cl Try.prog 19 [(.int .i64 p_places)] true [.sc .p, .sc (.i .i64)] fun r3 =>
  Jp (σ := Option Addr × Int × Option Addr × Int × Unit) (fun s5 =>
  Jp (σ := Bool × Unit) (fun s7 =>
  Br s7.1 (
  R (false, ())) (
  Jp (σ := Bool × Unit) (fun s9 =>
  Br s9.1 (
  R (r1.1, ())) (
  Lp (σ := Bool × Option Addr × Int × Unit) (fun L10 s11 =>
  Br (decide ((s11.2.2.1 : Int) < ((p_l.len : Nat) : Int))) (
  Jp (σ := Bool × Option Addr × Unit) (fun s13 =>
  L10 (s13.1, s13.2.1, (w64 (s11.2.2.1 + 1)), ())) fun J12 =>
  Ix p_l s11.2.2.1 3 fun a14 =>
  LdI .i64 (a14.add 0) fun x15 =>
  LdI .i64 (a14.add 1) fun x16 =>
  LdB (a14.add 2) fun x17 =>
  New #[(.int .i64 0), (.int .i64 0), (.bool false)] 29 fun a18 =>
  St (a18.add 0) (.int .i64 x15) <|
  St (a18.add 1) (.int .i64 x16) <|
  St (a18.add 2) (.bool x17) <|
  Jp (σ := Bool × Unit) (fun s20 =>
  Jp (σ := Bool × Unit) (fun s22 =>
  Br s22.1 (
  R (false, ())) (
  LdB (a18.add 2) fun x23 =>
  Br x23 (
  Cl Try.prog 12 [(.pointer s11.2.1)] false [.sc .p] fun r24 =>
  Br (Option.isNone r24.1) (
  R (false, ())) (
  Cl Try.prog 17 [(.pointer s11.2.1)] true [.sc (.i .i64), .sc (.i .i64)] fun r25 =>
  Cl Try.prog 13 [(.pointer s11.2.1), (.int .i64 0)] false [.sc (.i .i64)] fun r26 =>
  J12 (s11.1, r24.1, ()))) (
  J12 (s11.1, s11.2.1, ())))) fun J21 =>
  Br (!s20.1) (
  J21 (true, ())) (
  Cl Try.prog 24 [(.pointer s11.2.1), (.pointer s5.2.2.1)] false [.sc .b] fun r27 =>
  J21 ((!r27.1), ()))) fun J19 =>
  LdI .i64 (a18.add 0) fun x28 =>
  Br ((x28 : Int) == 0) (
  Cl Try.prog 17 [(.pointer s11.2.1)] true [.sc (.i .i64), .sc (.i .i64)] fun r29 =>
  Cl Try.prog 21 [(.pointer s5.2.2.1), (.int .i64 1)] true [.sc (.i .i64), .sc (.i .i64)] fun r30 =>
  Br ((r29.1 : Int) == r30.1) (
  J19 (((r29.2.1 : Int) == r30.2.1), ())) (
  J19 (false, ()))) (
  Br ((x28 : Int) == 1) (
  LdI .i64 (a18.add 1) fun x31 =>
  Cl Try.prog 11 [(.pointer s11.2.1), (.int .i64 x31)] true [.sc (.i .i64), .sc (.i .i64)] fun r32 =>
  LdI .i64 (a18.add 1) fun x33 =>
  Cl Try.prog 21 [(.pointer s5.2.2.1), (.int .i64 x33)] true [.sc (.i .i64), .sc (.i .i64)] fun r34 =>
  Br ((r32.1 : Int) == r34.1) (
  J19 (((r32.2.1 : Int) == r34.2.1), ())) (
  J19 (false, ()))) (
  Br ((x28 : Int) == 2) (
  Dr <|
  LdI .i64 (a18.add 1) fun x35 =>
  LdI .i64 (a18.add 1) fun x36 =>
  Cl Try.prog 13 [(.pointer s11.2.1), (.int .i64 x35)] false [.sc (.i .i64)] fun r37 =>
  Both (LdI .i64 (a18.add 1) fun x38 =>
  fun _ => ((.int .i64 x38) : Value) = (.int .i64 x36)) <|
  Cl Try.prog 22 [(.pointer s5.2.2.1), (.int .i64 x36)] false [.sc (.i .i64)] fun r39 =>
  J19 (((r37.1 : Int) == r39.1), ())) (
  Br ((x28 : Int) == 3) (
  Dr <|
  LdI .i64 (a18.add 1) fun x40 =>
  LdI .i64 (a18.add 1) fun x41 =>
  Cl Try.prog 9 [(.pointer s11.2.1), (.int .i64 x40)] false [.sc (.i .i64)] fun r42 =>
  Both (LdI .i64 (a18.add 1) fun x43 =>
  fun _ => ((.int .i64 x43) : Value) = (.int .i64 x41)) <|
  Cl Try.prog 23 [(.pointer s5.2.2.1), (.int .i64 x41)] false [.sc (.i .i64)] fun r44 =>
  J19 (((r42.1 : Int) == r44.1), ())) (
  J19 (true, ())))))) (
  Br r1.1 (
  Cl Try.prog 24 [(.pointer s11.2.1), (.pointer s5.2.2.1)] false [.sc .b] fun r45 =>
  R (r45.1, ())) (
  R (false, ())))) (false, s5.1, 0, ()))) fun J8 =>
  Br (Option.isNone s5.1) (
  J8 (true, ())) (
  J8 ((decide ((((p_l.len : Nat) : Int) : Int) > 300)), ())))) fun J6 =>
  Br ((s5.2.1 : Int) != s5.2.2.2.1) (
  J6 (true, ())) (
  J6 ((!((Option.isNone s5.1) == (Option.isNone s5.2.2.1))), ()))) fun J4 =>
  Br p_load (
  App 5 1 1 (zc Try.prog 5) ⟨none, 0, 0⟩ p_bits.len (srcS p_bits.p p_bits.len 1) fun r46 =>
  Cl Try.prog 15 [(.int .i64 p_places), (.slice r46.p r46.len r46.cap)] true [.sc .p, .sc (.i .i64)] fun r47 =>
  Cl Try.prog 20 [(.int .i64 p_places), (.slice p_bits.p p_bits.len p_bits.cap)] true [.sc .p, .sc (.i .i64)] fun r48 =>
  Lp (σ := Int × Unit) (fun L49 s50 =>
  Br (decide ((s50.1 : Int) < ((r46.len : Nat) : Int))) (
  Ix r46 s50.1 1 fun a51 =>
  St a51 (.int .u8 255) <|
  L49 ((w64 (s50.1 + 1)), ())) (
  J4 (r47.1, r47.2.1, r48.1, r48.2.1, ()))) (0, ())) (
  J4 (r2.1, r2.2.1, r3.1, r3.2.1, ()))
def sumpterlaw08_AllocGoes_ann : Ann := .seq .leaf (.seq .leaf (.seq .leaf (.seq .leaf (.seq (.join [(10, .sc .p), (11, .sc (.i .i64)), (12, .sc .p), (13, .sc (.i .i64))] (.seq .leaf (.cond (.seq .leaf (.seq .leaf (.seq .leaf (.seq .leaf (.block (.loop [(56, .sc (.i .i64))] (.seq .leaf (.seq (.cond .leaf .leaf) (.seq (.block (.seq .leaf .leaf)) .leaf))))))))) .leaf))) (.seq (.seq (.join [(72, .sc .b)] .leaf) (.cond (.seq .leaf .leaf) .leaf)) (.seq (.seq (.join [(79, .sc .b)] .leaf) (.cond (.seq .leaf .leaf) .leaf)) (.seq (.seq .leaf (.block (.loop [(8, .sc .b), (10, .sc .p), (83, .sc (.i .i64))] (.seq .leaf (.seq (.cond .leaf .leaf) (.seq (.join [(8, .sc .b), (10, .sc .p)] (.block (.seq .leaf (.seq .leaf (.seq (.join [(18, .sc .b)] (.seq .leaf (.block (.seq .leaf (.cond (.seq .leaf (.seq .leaf .leaf)) (.seq .leaf (.cond (.seq .leaf (.seq .leaf .leaf)) (.seq .leaf (.cond .leaf (.seq .leaf (.cond .leaf .leaf))))))))))) (.seq (.seq (.join [(162, .sc .b)] .leaf) (.cond (.seq .leaf .leaf) .leaf)) (.seq .leaf (.cond (.seq .leaf (.seq (.seq .leaf (.cond (.seq .leaf .leaf) .leaf)) (.seq .leaf (.seq .leaf .leaf)))) .leaf)))))))) .leaf)))))) (.seq .leaf .leaf))))))))
set_option maxRecDepth 100000 in
theorem sumpterlaw08_AllocGoes_den (p_places : Int) (p_load : Bool) (p_bits : Sl) (p_l : Sl) (R : TR [.sc .b] → Pr) : den Try.prog sumpterlaw08_AllocGoes_ann (Try.f6.body.getD .skip) (retQ Try.prog Try.f6.results.toList false [.sc .b] R) (env0 181 [(.int .i64 p_places), (.bool p_load), (.slice p_bits.p p_bits.len p_bits.cap), (.slice p_l.p p_l.len p_l.cap)]) = sumpterlaw08_AllocGoes p_places p_load p_bits p_l R := by
  kernel_rfl
theorem sumpterlaw08_AllocGoes_call (p_places : Int) (p_load : Bool) (p_bits : Sl) (p_l : Sl) {R : TR [.sc .b] → Pr} {w : World} (h : sumpterlaw08_AllocGoes p_places p_load p_bits p_l R w) : Cl Try.prog 6 [(.int .i64 p_places), (.bool p_load), (.slice p_bits.p p_bits.len p_bits.cap), (.slice p_l.p p_l.len p_l.cap)] false [.sc .b] R w :=
  call_of (P := Try.prog) (tup := false) (rs := [.sc .b]) Try.checked.mixed sumpterlaw08_AllocGoes_ann (by kernel_rfl) Try.func6 (by kernel_rfl) Try.ntmps6 (by show Try.f6.results.size = 1; kernel_rfl) (by rw [← sumpterlaw08_AllocGoes_den] at h; exact h)

/-- sumpter/sumpterlaw08.live -/
def sumpterlaw08_live  (R : TR [.sc .b] → Pr) : Pr :=
  Cl Try.prog 8 [(.int .i64 10)] true [.sc .p, .sc (.i .i64)] fun r1 =>
  Jp (σ := Bool × Unit) (fun s3 =>
  Br s3.1 (
  R (false, ())) (
  Cl Try.prog 17 [(.pointer r1.1)] true [.sc (.i .i64), .sc (.i .i64)] fun r4 =>
  Cl Try.prog 17 [(.pointer r1.1)] true [.sc (.i .i64), .sc (.i .i64)] fun r5 =>
  Cl Try.prog 13 [(.pointer r1.1), (.int .i64 0)] false [.sc (.i .i64)] fun r6 =>
  Cl Try.prog 11 [(.pointer r1.1), (.int .i64 2)] true [.sc (.i .i64), .sc (.i .i64)] fun r7 =>
  Cl Try.prog 17 [(.pointer r1.1)] true [.sc (.i .i64), .sc (.i .i64)] fun r8 =>
  Cl Try.prog 16 [(.pointer r1.1)] false [.sc .sl] fun r9 =>
  Br ((r4.1 : Int) == 0) (
  Br ((r5.1 : Int) == 1) (
  Br ((r6.1 : Int) == 0) (
  Br ((r7.1 : Int) == 2) (
  Br ((r7.2.1 : Int) == 0) (
  Br ((r8.1 : Int) == 0) (
  Br ((((r9.1.len : Nat) : Int) : Int) == 2) (
  Ix r9.1 0 1 fun a10 =>
  LdI .u8 a10 fun x11 =>
  Br ((x11 : Int) == 15) (
  Ix r9.1 1 1 fun a12 =>
  LdI .u8 a12 fun x13 =>
  Br ((x13 : Int) == 0) (
  Cl Try.prog 14 [(.pointer r1.1)] false [.sc (.i .i64)] fun r14 =>
  R (((r14.1 : Int) == 6), ())) (
  R (false, ()))) (
  R (false, ()))) (
  R (false, ()))) (
  R (false, ()))) (
  R (false, ()))) (
  R (false, ()))) (
  R (false, ()))) (
  R (false, ()))) (
  R (false, ())))) fun J2 =>
  Br (Option.isNone r1.1) (
  J2 (true, ())) (
  J2 (((r1.2.1 : Int) != 0), ()))
def sumpterlaw08_live_ann : Ann := .seq .leaf (.seq .leaf (.seq (.seq (.join [(22, .sc .b)] .leaf) (.cond (.seq .leaf .leaf) .leaf)) (.seq .leaf (.seq .leaf (.seq .leaf (.seq .leaf (.seq .leaf (.seq .leaf (.seq .leaf .leaf)))))))))
set_option maxRecDepth 100000 in
theorem sumpterlaw08_live_den  (R : TR [.sc .b] → Pr) : den Try.prog sumpterlaw08_live_ann (Try.f7.body.getD .skip) (retQ Try.prog Try.f7.results.toList false [.sc .b] R) (env0 91 []) = sumpterlaw08_live  R := by
  kernel_rfl
theorem sumpterlaw08_live_call  {R : TR [.sc .b] → Pr} {w : World} (h : sumpterlaw08_live  R w) : Cl Try.prog 7 [] false [.sc .b] R w :=
  call_of (P := Try.prog) (tup := false) (rs := [.sc .b]) Try.checked.mixed sumpterlaw08_live_ann (by kernel_rfl) Try.func7 (by kernel_rfl) Try.ntmps7 (by show Try.f7.results.size = 1; kernel_rfl) (by rw [← sumpterlaw08_live_den] at h; exact h)

/-- sumpter/alloc.New -/
def alloc_New (p_places : Int) (R : TR [.sc .p, .sc (.i .i64)] → Pr) : Pr :=
  Jp (σ := Bool × Unit) (fun s2 =>
  Br s2.1 (
  R (none, 1, ())) (
  New #[(.int .i64 p_places), (.int .u64 0), (.int .u64 0), (.int .u64 0), (.int .u64 0), (.int .u64 0), (.int .u64 0), (.int .u64 0), (.int .u64 0), (.int .u64 0), (.int .u64 0), (.int .u64 0), (.int .u64 0), (.int .u64 0), (.int .u64 0), (.int .u64 0), (.int .u64 0)] 53 fun a3 =>
  R ((some a3), 0, ()))) fun J1 =>
  Br (decide ((p_places : Int) < 1)) (
  J1 (true, ())) (
  J1 ((decide ((p_places : Int) > 1024)), ()))
def alloc_New_ann : Ann := .seq .leaf (.seq (.seq (.join [(9, .sc .b)] .leaf) (.cond (.seq .leaf .leaf) .leaf)) (.seq .leaf .leaf))
set_option maxRecDepth 100000 in
theorem alloc_New_den (p_places : Int) (R : TR [.sc .p, .sc (.i .i64)] → Pr) : den Try.prog alloc_New_ann (Try.f8.body.getD .skip) (retQ Try.prog Try.f8.results.toList true [.sc .p, .sc (.i .i64)] R) (env0 13 [(.int .i64 p_places)]) = alloc_New p_places R := by
  kernel_rfl
theorem alloc_New_call (p_places : Int) {R : TR [.sc .p, .sc (.i .i64)] → Pr} {w : World} (h : alloc_New p_places R w) : Cl Try.prog 8 [(.int .i64 p_places)] true [.sc .p, .sc (.i .i64)] R w :=
  call_of (P := Try.prog) (tup := true) (rs := [.sc .p, .sc (.i .i64)]) Try.checked.mixed alloc_New_ann (by kernel_rfl) Try.func8 (by kernel_rfl) Try.ntmps8 (by show Nat.beq Try.f8.results.size 1 = false; kernel_rfl) (by rw [← alloc_New_den] at h; exact h)

/-- (*sumpter/alloc.Alloc).Mark -/
def alloc_Alloc_Mark (p_a : Option Addr) (p_i : Int) (R : TR [.sc (.i .i64)] → Pr) : Pr :=
  Jp (σ := Bool × Unit) (fun s2 =>
  Br s2.1 (
  R (5, ())) (
  Cl Try.prog 10 [(.pointer p_a), (.int .i64 p_i)] false [.sc .b] fun r3 =>
  Br r3.1 (
  R (6, ())) (
  Cl Try.prog 25 [(.pointer p_a), (.int .i64 p_i)] true [] fun r4 =>
  R (0, ())))) fun J1 =>
  Br (decide ((p_i : Int) < 0)) (
  J1 (true, ())) (
  Nn p_a fun a5 =>
  LdI .i64 (a5.add 0) fun x6 =>
  J1 ((decide ((p_i : Int) ≥ x6)), ()))
def alloc_Alloc_Mark_ann : Ann := .seq .leaf (.seq (.block (.seq (.join [(5, .sc .b)] .leaf) (.cond (.seq .leaf .leaf) (.seq .leaf (.cond (.seq .leaf .leaf) .leaf))))) (.seq .leaf (.seq .leaf .leaf)))
set_option maxRecDepth 100000 in
theorem alloc_Alloc_Mark_den (p_a : Option Addr) (p_i : Int) (R : TR [.sc (.i .i64)] → Pr) : den Try.prog alloc_Alloc_Mark_ann (Try.f9.body.getD .skip) (retQ Try.prog Try.f9.results.toList false [.sc (.i .i64)] R) (env0 23 [(.pointer p_a), (.int .i64 p_i)]) = alloc_Alloc_Mark p_a p_i R := by
  kernel_rfl
theorem alloc_Alloc_Mark_call (p_a : Option Addr) (p_i : Int) {R : TR [.sc (.i .i64)] → Pr} {w : World} (h : alloc_Alloc_Mark p_a p_i R w) : Cl Try.prog 9 [(.pointer p_a), (.int .i64 p_i)] false [.sc (.i .i64)] R w :=
  call_of (P := Try.prog) (tup := false) (rs := [.sc (.i .i64)]) Try.checked.mixed alloc_Alloc_Mark_ann (by kernel_rfl) Try.func9 (by kernel_rfl) Try.ntmps9 (by show Try.f9.results.size = 1; kernel_rfl) (by rw [← alloc_Alloc_Mark_den] at h; exact h)

/-- (*sumpter/alloc.Alloc).Has -/
def alloc_Alloc_Has (p_a : Option Addr) (p_i : Int) (R : TR [.sc .b] → Pr) : Pr :=
  Br (decide ((p_i : Int) ≥ 0)) (
  Nn p_a fun a1 =>
  LdI .i64 (a1.add 0) fun x2 =>
  Br (decide ((p_i : Int) < x2)) (
  Req (64 ≠ (0 : Int)) <|
  Nn p_a fun a3 =>
  IxR (a3.add 1) 16 (w64 ((p_i : Int).tdiv 64)) 1 fun a4 =>
  LdI .u64 a4 fun x5 =>
  Req (64 ≠ (0 : Int)) <|
  Req ((0 : Int) ≤ ((p_i : Int).tmod 64)) <|
  R ((((iand .u64 (ishr .u64 x5 ((p_i : Int).tmod 64)) 1) : Int) == 1), ())) (
  R (false, ()))) (
  R (false, ()))
def alloc_Alloc_Has_ann : Ann := .seq .leaf (.seq .leaf .leaf)
set_option maxRecDepth 100000 in
theorem alloc_Alloc_Has_den (p_a : Option Addr) (p_i : Int) (R : TR [.sc .b] → Pr) : den Try.prog alloc_Alloc_Has_ann (Try.f10.body.getD .skip) (retQ Try.prog Try.f10.results.toList false [.sc .b] R) (env0 29 [(.pointer p_a), (.int .i64 p_i)]) = alloc_Alloc_Has p_a p_i R := by
  kernel_rfl
theorem alloc_Alloc_Has_call (p_a : Option Addr) (p_i : Int) {R : TR [.sc .b] → Pr} {w : World} (h : alloc_Alloc_Has p_a p_i R w) : Cl Try.prog 10 [(.pointer p_a), (.int .i64 p_i)] false [.sc .b] R w :=
  call_of (P := Try.prog) (tup := false) (rs := [.sc .b]) Try.checked.mixed alloc_Alloc_Has_ann (by kernel_rfl) Try.func10 (by kernel_rfl) Try.ntmps10 (by show Try.f10.results.size = 1; kernel_rfl) (by rw [← alloc_Alloc_Has_den] at h; exact h)

/-- (*sumpter/alloc.Alloc).TakeRun -/
def alloc_Alloc_TakeRun (p_a : Option Addr) (p_n : Int) (R : TR [.sc (.i .i64), .sc (.i .i64)] → Pr) : Pr :=
  Br (decide ((p_n : Int) < 1)) (
  R (0, 1, ())) (
  Jp (σ := Int × Unit) (fun s2 =>
  Nn p_a fun a3 =>
  LdI .i64 (a3.add 0) fun x4 =>
  Br (decide ((s2.1 : Int) > (w64 (x4 - p_n)))) (
  R (0, 62, ())) (
  Lp (σ := Int × Unit) (fun L5 s6 =>
  Br (decide ((s6.1 : Int) < p_n)) (
  Cl Try.prog 25 [(.pointer p_a), (.int .i64 (w64 (s2.1 + s6.1)))] true [] fun r7 =>
  L5 ((w64 (s6.1 + 1)), ())) (
  R (s2.1, 0, ()))) (0, ()))) fun J1 =>
  Lp (σ := Int × Unit) (fun L8 s9 =>
  Nn p_a fun a10 =>
  LdI .i64 (a10.add 0) fun x11 =>
  Br (decide ((s9.1 : Int) ≤ (w64 (x11 - p_n)))) (
  Lp (σ := Int × Int × Unit) (fun L12 s13 =>
  Br (decide ((s13.2.1 : Int) < p_n)) (
  Cl Try.prog 10 [(.pointer p_a), (.int .i64 (w64 (s13.1 + s13.2.1)))] false [.sc .b] fun r14 =>
  Br r14.1 (
  L8 ((w64 (s13.1 + (w64 (s13.2.1 + 1)))), ())) (
  L12 (s13.1, (w64 (s13.2.1 + 1)), ()))) (
  J1 (s13.1, ()))) (s9.1, 0, ())) (
  J1 (s9.1, ()))) (0, ()))
def alloc_Alloc_TakeRun_ann : Ann := .seq .leaf (.block (.seq (.seq .leaf (.cond (.seq .leaf .leaf) .leaf)) (.seq .leaf (.seq .leaf (.seq (.join [(6, .sc (.i .i64))] (.block (.loop [(6, .sc (.i .i64))] (.seq (.seq .leaf (.cond .leaf .leaf)) (.block (.seq (.seq .leaf (.block (.loop [(6, .sc (.i .i64)), (20, .sc (.i .i64))] (.seq .leaf (.seq (.cond .leaf .leaf) (.seq (.block (.seq .leaf (.seq .leaf (.cond (.seq .leaf .leaf) .leaf)))) .leaf)))))) .leaf)))))) (.seq (.seq .leaf (.cond (.seq .leaf .leaf) .leaf)) (.seq (.seq .leaf (.block (.loop [(42, .sc (.i .i64))] (.seq .leaf (.seq (.cond .leaf .leaf) (.seq (.block (.seq .leaf .leaf)) .leaf)))))) (.seq .leaf .leaf))))))))
set_option maxRecDepth 100000 in
theorem alloc_Alloc_TakeRun_den (p_a : Option Addr) (p_n : Int) (R : TR [.sc (.i .i64), .sc (.i .i64)] → Pr) : den Try.prog alloc_Alloc_TakeRun_ann (Try.f11.body.getD .skip) (retQ Try.prog Try.f11.results.toList true [.sc (.i .i64), .sc (.i .i64)] R) (env0 52 [(.pointer p_a), (.int .i64 p_n)]) = alloc_Alloc_TakeRun p_a p_n R := by
  kernel_rfl
theorem alloc_Alloc_TakeRun_call (p_a : Option Addr) (p_n : Int) {R : TR [.sc (.i .i64), .sc (.i .i64)] → Pr} {w : World} (h : alloc_Alloc_TakeRun p_a p_n R w) : Cl Try.prog 11 [(.pointer p_a), (.int .i64 p_n)] true [.sc (.i .i64), .sc (.i .i64)] R w :=
  call_of (P := Try.prog) (tup := true) (rs := [.sc (.i .i64), .sc (.i .i64)]) Try.checked.mixed alloc_Alloc_TakeRun_ann (by kernel_rfl) Try.func11 (by kernel_rfl) Try.ntmps11 (by show Nat.beq Try.f11.results.size 1 = false; kernel_rfl) (by rw [← alloc_Alloc_TakeRun_den] at h; exact h)

/-- (*sumpter/alloc.Alloc).Clone -/
def alloc_Alloc_Clone (p_a : Option Addr) (R : TR [.sc .p] → Pr) : Pr :=
  Nn p_a fun a1 =>
  LdI .i64 (a1.add 0) fun x2 =>
  LdI .u64 (a1.add 1) fun x3 =>
  LdI .u64 (a1.add 2) fun x4 =>
  LdI .u64 (a1.add 3) fun x5 =>
  LdI .u64 (a1.add 4) fun x6 =>
  LdI .u64 (a1.add 5) fun x7 =>
  LdI .u64 (a1.add 6) fun x8 =>
  LdI .u64 (a1.add 7) fun x9 =>
  LdI .u64 (a1.add 8) fun x10 =>
  LdI .u64 (a1.add 9) fun x11 =>
  LdI .u64 (a1.add 10) fun x12 =>
  LdI .u64 (a1.add 11) fun x13 =>
  LdI .u64 (a1.add 12) fun x14 =>
  LdI .u64 (a1.add 13) fun x15 =>
  LdI .u64 (a1.add 14) fun x16 =>
  LdI .u64 (a1.add 15) fun x17 =>
  LdI .u64 (a1.add 16) fun x18 =>
  New #[(.int .i64 0), (.int .u64 0), (.int .u64 0), (.int .u64 0), (.int .u64 0), (.int .u64 0), (.int .u64 0), (.int .u64 0), (.int .u64 0), (.int .u64 0), (.int .u64 0), (.int .u64 0), (.int .u64 0), (.int .u64 0), (.int .u64 0), (.int .u64 0), (.int .u64 0)] 53 fun a19 =>
  St (a19.add 0) (.int .i64 x2) <|
  St (a19.add 1) (.int .u64 x3) <|
  St (a19.add 2) (.int .u64 x4) <|
  St (a19.add 3) (.int .u64 x5) <|
  St (a19.add 4) (.int .u64 x6) <|
  St (a19.add 5) (.int .u64 x7) <|
  St (a19.add 6) (.int .u64 x8) <|
  St (a19.add 7) (.int .u64 x9) <|
  St (a19.add 8) (.int .u64 x10) <|
  St (a19.add 9) (.int .u64 x11) <|
  St (a19.add 10) (.int .u64 x12) <|
  St (a19.add 11) (.int .u64 x13) <|
  St (a19.add 12) (.int .u64 x14) <|
  St (a19.add 13) (.int .u64 x15) <|
  St (a19.add 14) (.int .u64 x16) <|
  St (a19.add 15) (.int .u64 x17) <|
  St (a19.add 16) (.int .u64 x18) <|
  R ((some a19), ())
def alloc_Alloc_Clone_ann : Ann := .seq .leaf (.seq .leaf (.seq .leaf .leaf))
set_option maxRecDepth 100000 in
theorem alloc_Alloc_Clone_den (p_a : Option Addr) (R : TR [.sc .p] → Pr) : den Try.prog alloc_Alloc_Clone_ann (Try.f12.body.getD .skip) (retQ Try.prog Try.f12.results.toList false [.sc .p] R) (env0 7 [(.pointer p_a)]) = alloc_Alloc_Clone p_a R := by
  kernel_rfl
theorem alloc_Alloc_Clone_call (p_a : Option Addr) {R : TR [.sc .p] → Pr} {w : World} (h : alloc_Alloc_Clone p_a R w) : Cl Try.prog 12 [(.pointer p_a)] false [.sc .p] R w :=
  call_of (P := Try.prog) (tup := false) (rs := [.sc .p]) Try.checked.mixed alloc_Alloc_Clone_ann (by kernel_rfl) Try.func12 (by kernel_rfl) Try.ntmps12 (by show Try.f12.results.size = 1; kernel_rfl) (by rw [← alloc_Alloc_Clone_den] at h; exact h)

/-- (*sumpter/alloc.Alloc).Give -/
def alloc_Alloc_Give (p_a : Option Addr) (p_i : Int) (R : TR [.sc (.i .i64)] → Pr) : Pr :=
  Cl Try.prog 10 [(.pointer p_a), (.int .i64 p_i)] false [.sc .b] fun r1 =>
  Br (!r1.1) (
  R (5, ())) (
  Cl Try.prog 25 [(.pointer p_a), (.int .i64 p_i)] true [] fun r2 =>
  R (0, ()))
def alloc_Alloc_Give_ann : Ann := .seq .leaf (.seq (.seq .leaf (.cond (.seq .leaf .leaf) .leaf)) (.seq .leaf (.seq .leaf .leaf)))
set_option maxRecDepth 100000 in
theorem alloc_Alloc_Give_den (p_a : Option Addr) (p_i : Int) (R : TR [.sc (.i .i64)] → Pr) : den Try.prog alloc_Alloc_Give_ann (Try.f13.body.getD .skip) (retQ Try.prog Try.f13.results.toList false [.sc (.i .i64)] R) (env0 12 [(.pointer p_a), (.int .i64 p_i)]) = alloc_Alloc_Give p_a p_i R := by
  kernel_rfl
theorem alloc_Alloc_Give_call (p_a : Option Addr) (p_i : Int) {R : TR [.sc (.i .i64)] → Pr} {w : World} (h : alloc_Alloc_Give p_a p_i R w) : Cl Try.prog 13 [(.pointer p_a), (.int .i64 p_i)] false [.sc (.i .i64)] R w :=
  call_of (P := Try.prog) (tup := false) (rs := [.sc (.i .i64)]) Try.checked.mixed alloc_Alloc_Give_ann (by kernel_rfl) Try.func13 (by kernel_rfl) Try.ntmps13 (by show Try.f13.results.size = 1; kernel_rfl) (by rw [← alloc_Alloc_Give_den] at h; exact h)

/-- (*sumpter/alloc.Alloc).Left -/
def alloc_Alloc_Left (p_a : Option Addr) (R : TR [.sc (.i .i64)] → Pr) : Pr :=
  Nn p_a fun a1 =>
  LdI .i64 (a1.add 0) fun x2 =>
  Nn p_a fun a3 =>
  LdI .u64 ((a3.add 1).add 0) fun x4 =>
  LdI .u64 ((a3.add 1).add 1) fun x5 =>
  LdI .u64 ((a3.add 1).add 2) fun x6 =>
  LdI .u64 ((a3.add 1).add 3) fun x7 =>
  LdI .u64 ((a3.add 1).add 4) fun x8 =>
  LdI .u64 ((a3.add 1).add 5) fun x9 =>
  LdI .u64 ((a3.add 1).add 6) fun x10 =>
  LdI .u64 ((a3.add 1).add 7) fun x11 =>
  LdI .u64 ((a3.add 1).add 8) fun x12 =>
  LdI .u64 ((a3.add 1).add 9) fun x13 =>
  LdI .u64 ((a3.add 1).add 10) fun x14 =>
  LdI .u64 ((a3.add 1).add 11) fun x15 =>
  LdI .u64 ((a3.add 1).add 12) fun x16 =>
  LdI .u64 ((a3.add 1).add 13) fun x17 =>
  LdI .u64 ((a3.add 1).add 14) fun x18 =>
  LdI .u64 ((a3.add 1).add 15) fun x19 =>
  Lp (σ := Int × Int × Unit) (fun L20 s21 =>
  Br (decide ((s21.2.1 : Int) < 16)) (
  IxG [(.int .u64 x4), (.int .u64 x5), (.int .u64 x6), (.int .u64 x7), (.int .u64 x8), (.int .u64 x9), (.int .u64 x10), (.int .u64 x11), (.int .u64 x12), (.int .u64 x13), (.int .u64 x14), (.int .u64 x15), (.int .u64 x16), (.int .u64 x17), (.int .u64 x18), (.int .u64 x19)] 16 s21.2.1 1 fun g22 =>
  Cl Try.prog 26 [g22] false [.sc (.i .i64)] fun r23 =>
  L20 ((w64 (s21.1 - r23.1)), (w64 (s21.2.1 + 1)), ())) (
  R (s21.1, ()))) (x2, 0, ())
def alloc_Alloc_Left_ann : Ann := .seq .leaf (.seq .leaf (.seq (.seq .leaf (.block (.loop [(3, .sc (.i .i64)), (14, .sc (.i .i64))] (.seq .leaf (.seq (.cond .leaf .leaf) (.seq (.block (.seq .leaf .leaf)) .leaf)))))) (.seq .leaf .leaf)))
set_option maxRecDepth 100000 in
theorem alloc_Alloc_Left_den (p_a : Option Addr) (R : TR [.sc (.i .i64)] → Pr) : den Try.prog alloc_Alloc_Left_ann (Try.f14.body.getD .skip) (retQ Try.prog Try.f14.results.toList false [.sc (.i .i64)] R) (env0 23 [(.pointer p_a)]) = alloc_Alloc_Left p_a R := by
  kernel_rfl
theorem alloc_Alloc_Left_call (p_a : Option Addr) {R : TR [.sc (.i .i64)] → Pr} {w : World} (h : alloc_Alloc_Left p_a R w) : Cl Try.prog 14 [(.pointer p_a)] false [.sc (.i .i64)] R w :=
  call_of (P := Try.prog) (tup := false) (rs := [.sc (.i .i64)]) Try.checked.mixed alloc_Alloc_Left_ann (by kernel_rfl) Try.func14 (by kernel_rfl) Try.ntmps14 (by show Try.f14.results.size = 1; kernel_rfl) (by rw [← alloc_Alloc_Left_den] at h; exact h)

/-- sumpter/alloc.Load -/
def alloc_Load (p_places : Int) (p_b : Sl) (R : TR [.sc .p, .sc (.i .i64)] → Pr) : Pr :=
  Cl Try.prog 8 [(.int .i64 p_places)] true [.sc .p, .sc (.i .i64)] fun r1 =>
  Br ((r1.2.1 : Int) != 0) (
  R (none, r1.2.1, ())) (
  Jp (σ := Bool × Unit) (fun s3 =>
  Br s3.1 (
  R (none, 11, ())) (
  Lp (σ := Int × Unit) (fun L4 s5 =>
  Br (decide ((s5.1 : Int) < ((p_b.len : Nat) : Int))) (
  Ix p_b s5.1 1 fun a6 =>
  LdI .u8 a6 fun x7 =>
  Dr <|
  Req (8 ≠ (0 : Int)) <|
  Nn r1.1 fun a8 =>
  IxR (a8.add 1) 16 (w64 ((s5.1 : Int).tdiv 8)) 1 fun a9 =>
  LdI .u64 a9 fun x10 =>
  Req (8 ≠ (0 : Int)) <|
  Req ((0 : Int) ≤ (w64 (8 * ((s5.1 : Int).tmod 8)))) <|
  Nn r1.1 fun a11 =>
  IxR (a11.add 1) 16 (w64 ((s5.1 : Int).tdiv 8)) 1 fun a12 =>
  St a12 (.int .u64 (ior .u64 x10 (ishl .u64 (IntKind.u64.wrap (x7)) (w64 (8 * ((s5.1 : Int).tmod 8)))))) <|
  L4 ((w64 (s5.1 + 1)), ())) (
  R (r1.1, 0, ()))) (0, ()))) fun J2 =>
  Req (8 ≠ (0 : Int)) <|
  Br ((((p_b.len : Nat) : Int) : Int) != (w64 ((w64 (p_places + 7)).tdiv 8))) (
  J2 (true, ())) (
  Req (8 ≠ (0 : Int)) <|
  Br ((((p_places : Int).tmod 8) : Int) != 0) (
  Ix p_b (w64 (((p_b.len : Nat) : Int) - 1)) 1 fun a13 =>
  LdI .u8 a13 fun x14 =>
  Req (8 ≠ (0 : Int)) <|
  Req ((0 : Int) ≤ ((p_places : Int).tmod 8)) <|
  J2 ((((ishr .u8 x14 ((p_places : Int).tmod 8)) : Int) != 0), ())) (
  J2 (false, ()))))
def alloc_Load_ann : Ann := .seq .leaf (.seq .leaf (.seq (.seq .leaf (.cond (.seq .leaf .leaf) .leaf)) (.seq (.seq (.join [(40, .sc .b)] .leaf) (.cond (.seq .leaf .leaf) .leaf)) (.seq (.seq .leaf (.block (.loop [(43, .sc (.i .i64))] (.seq .leaf (.seq (.cond .leaf .leaf) (.seq (.block (.seq .leaf .leaf)) .leaf)))))) (.seq .leaf .leaf)))))
set_option maxRecDepth 100000 in
theorem alloc_Load_den (p_places : Int) (p_b : Sl) (R : TR [.sc .p, .sc (.i .i64)] → Pr) : den Try.prog alloc_Load_ann (Try.f15.body.getD .skip) (retQ Try.prog Try.f15.results.toList true [.sc .p, .sc (.i .i64)] R) (env0 67 [(.int .i64 p_places), (.slice p_b.p p_b.len p_b.cap)]) = alloc_Load p_places p_b R := by
  kernel_rfl
theorem alloc_Load_call (p_places : Int) (p_b : Sl) {R : TR [.sc .p, .sc (.i .i64)] → Pr} {w : World} (h : alloc_Load p_places p_b R w) : Cl Try.prog 15 [(.int .i64 p_places), (.slice p_b.p p_b.len p_b.cap)] true [.sc .p, .sc (.i .i64)] R w :=
  call_of (P := Try.prog) (tup := true) (rs := [.sc .p, .sc (.i .i64)]) Try.checked.mixed alloc_Load_ann (by kernel_rfl) Try.func15 (by kernel_rfl) Try.ntmps15 (by show Nat.beq Try.f15.results.size 1 = false; kernel_rfl) (by rw [← alloc_Load_den] at h; exact h)

/-- (*sumpter/alloc.Alloc).Bits -/
def alloc_Alloc_Bits (p_a : Option Addr) (R : TR [.sc .sl] → Pr) : Pr :=
  Nn p_a fun a1 =>
  LdI .i64 (a1.add 0) fun x2 =>
  Req (8 ≠ (0 : Int)) <|
  Mk 5 1 1 (zc Try.prog 5) (w64 ((w64 (x2 + 7)).tdiv 8)) (w64 ((w64 (x2 + 7)).tdiv 8)) fun r3 =>
  Lp (σ := Int × Unit) (fun L4 s5 =>
  Br (decide ((s5.1 : Int) < ((r3.len : Nat) : Int))) (
  Req (8 ≠ (0 : Int)) <|
  Nn p_a fun a6 =>
  IxR (a6.add 1) 16 (w64 ((s5.1 : Int).tdiv 8)) 1 fun a7 =>
  LdI .u64 a7 fun x8 =>
  Req (8 ≠ (0 : Int)) <|
  Req ((0 : Int) ≤ (w64 (8 * ((s5.1 : Int).tmod 8)))) <|
  Ix r3 s5.1 1 fun a9 =>
  St a9 (.int .u8 (IntKind.u8.wrap ((ishr .u64 x8 (w64 (8 * ((s5.1 : Int).tmod 8))))))) <|
  L4 ((w64 (s5.1 + 1)), ())) (
  R (r3, ()))) (0, ())
def alloc_Alloc_Bits_ann : Ann := .seq .leaf (.seq .leaf (.seq (.seq .leaf (.block (.loop [(14, .sc (.i .i64))] (.seq .leaf (.seq (.cond .leaf .leaf) (.seq (.block (.seq .leaf .leaf)) .leaf)))))) (.seq .leaf .leaf)))
set_option maxRecDepth 100000 in
theorem alloc_Alloc_Bits_den (p_a : Option Addr) (R : TR [.sc .sl] → Pr) : den Try.prog alloc_Alloc_Bits_ann (Try.f16.body.getD .skip) (retQ Try.prog Try.f16.results.toList false [.sc .sl] R) (env0 34 [(.pointer p_a)]) = alloc_Alloc_Bits p_a R := by
  kernel_rfl
theorem alloc_Alloc_Bits_call (p_a : Option Addr) {R : TR [.sc .sl] → Pr} {w : World} (h : alloc_Alloc_Bits p_a R w) : Cl Try.prog 16 [(.pointer p_a)] false [.sc .sl] R w :=
  call_of (P := Try.prog) (tup := false) (rs := [.sc .sl]) Try.checked.mixed alloc_Alloc_Bits_ann (by kernel_rfl) Try.func16 (by kernel_rfl) Try.ntmps16 (by show Try.f16.results.size = 1; kernel_rfl) (by rw [← alloc_Alloc_Bits_den] at h; exact h)

/-- (*sumpter/alloc.Alloc).Take -/
def alloc_Alloc_Take (p_a : Option Addr) (R : TR [.sc (.i .i64), .sc (.i .i64)] → Pr) : Pr :=
  Cl Try.prog 11 [(.pointer p_a), (.int .i64 1)] true [.sc (.i .i64), .sc (.i .i64)] fun r1 =>
  R (r1.1, r1.2.1, ())
def alloc_Alloc_Take_ann : Ann := .seq .leaf (.seq .leaf .leaf)
set_option maxRecDepth 100000 in
theorem alloc_Alloc_Take_den (p_a : Option Addr) (R : TR [.sc (.i .i64), .sc (.i .i64)] → Pr) : den Try.prog alloc_Alloc_Take_ann (Try.f17.body.getD .skip) (retQ Try.prog Try.f17.results.toList true [.sc (.i .i64), .sc (.i .i64)] R) (env0 8 [(.pointer p_a)]) = alloc_Alloc_Take p_a R := by
  kernel_rfl
theorem alloc_Alloc_Take_call (p_a : Option Addr) {R : TR [.sc (.i .i64), .sc (.i .i64)] → Pr} {w : World} (h : alloc_Alloc_Take p_a R w) : Cl Try.prog 17 [(.pointer p_a)] true [.sc (.i .i64), .sc (.i .i64)] R w :=
  call_of (P := Try.prog) (tup := true) (rs := [.sc (.i .i64), .sc (.i .i64)]) Try.checked.mixed alloc_Alloc_Take_ann (by kernel_rfl) Try.func17 (by kernel_rfl) Try.ntmps17 (by show Nat.beq Try.f17.results.size 1 = false; kernel_rfl) (by rw [← alloc_Alloc_Take_den] at h; exact h)

/-- (*sumpter/alloc.Alloc).Used -/
def alloc_Alloc_Used (p_a : Option Addr) (R : TR [.sc .sl] → Pr) : Pr :=
  Nn p_a fun a1 =>
  LdI .i64 (a1.add 0) fun x2 =>
  Lp (σ := Sl × Int × Unit) (fun L3 s4 =>
  Br (decide ((s4.2.1 : Int) < x2)) (
  Jp (σ := Sl × Unit) (fun s6 =>
  L3 (s6.1, (w64 (s4.2.1 + 1)), ())) fun J5 =>
  Cl Try.prog 10 [(.pointer p_a), (.int .i64 s4.2.1)] false [.sc .b] fun r7 =>
  Br r7.1 (
  New #[(.int .i64 s4.2.1)] 3 fun a8 =>
  App 3 1 8 (zc Try.prog 3) s4.1 1 (srcS (some a8) 1 1) fun r9 =>
  J5 (r9, ())) (
  J5 (s4.1, ()))) (
  R (s4.1, ()))) (⟨none, 0, 0⟩, 0, ())
def alloc_Alloc_Used_ann : Ann := .seq .leaf (.seq .leaf (.seq (.seq .leaf (.block (.loop [(3, .sc .sl), (9, .sc (.i .i64))] (.seq .leaf (.seq (.cond .leaf .leaf) (.seq (.join [(3, .sc .sl)] (.block (.seq .leaf (.seq .leaf (.cond .leaf .leaf))))) .leaf)))))) (.seq .leaf .leaf)))
set_option maxRecDepth 100000 in
theorem alloc_Alloc_Used_den (p_a : Option Addr) (R : TR [.sc .sl] → Pr) : den Try.prog alloc_Alloc_Used_ann (Try.f18.body.getD .skip) (retQ Try.prog Try.f18.results.toList false [.sc .sl] R) (env0 21 [(.pointer p_a)]) = alloc_Alloc_Used p_a R := by
  kernel_rfl
theorem alloc_Alloc_Used_call (p_a : Option Addr) {R : TR [.sc .sl] → Pr} {w : World} (h : alloc_Alloc_Used p_a R w) : Cl Try.prog 18 [(.pointer p_a)] false [.sc .sl] R w :=
  call_of (P := Try.prog) (tup := false) (rs := [.sc .sl]) Try.checked.mixed alloc_Alloc_Used_ann (by kernel_rfl) Try.func18 (by kernel_rfl) Try.ntmps18 (by show Try.f18.results.size = 1; kernel_rfl) (by rw [← alloc_Alloc_Used_den] at h; exact h)

/-- sumpter/sumpterref08.New -/
def sumpterref08_New (p_places : Int) (R : TR [.sc .p, .sc (.i .i64)] → Pr) : Pr :=
  Jp (σ := Bool × Unit) (fun s2 =>
  Br s2.1 (
  R (none, 1, ())) (
  Mk 4 1 1 (zc Try.prog 4) p_places p_places fun r3 =>
  New #[(.slice r3.p r3.len r3.cap)] 58 fun a4 =>
  R ((some a4), 0, ()))) fun J1 =>
  Br (decide ((p_places : Int) < 1)) (
  J1 (true, ())) (
  J1 ((decide ((p_places : Int) > 1024)), ()))
def sumpterref08_New_ann : Ann := .seq .leaf (.seq (.seq (.join [(9, .sc .b)] .leaf) (.cond (.seq .leaf .leaf) .leaf)) (.seq .leaf .leaf))
set_option maxRecDepth 100000 in
theorem sumpterref08_New_den (p_places : Int) (R : TR [.sc .p, .sc (.i .i64)] → Pr) : den Try.prog sumpterref08_New_ann (Try.f19.body.getD .skip) (retQ Try.prog Try.f19.results.toList true [.sc .p, .sc (.i .i64)] R) (env0 14 [(.int .i64 p_places)]) = sumpterref08_New p_places R := by
  kernel_rfl
theorem sumpterref08_New_call (p_places : Int) {R : TR [.sc .p, .sc (.i .i64)] → Pr} {w : World} (h : sumpterref08_New p_places R w) : Cl Try.prog 19 [(.int .i64 p_places)] true [.sc .p, .sc (.i .i64)] R w :=
  call_of (P := Try.prog) (tup := true) (rs := [.sc .p, .sc (.i .i64)]) Try.checked.mixed sumpterref08_New_ann (by kernel_rfl) Try.func19 (by kernel_rfl) Try.ntmps19 (by show Nat.beq Try.f19.results.size 1 = false; kernel_rfl) (by rw [← sumpterref08_New_den] at h; exact h)

/-- sumpter/sumpterref08.Load -/
def sumpterref08_Load (p_places : Int) (p_bits : Sl) (R : TR [.sc .p, .sc (.i .i64)] → Pr) : Pr :=
  Cl Try.prog 19 [(.int .i64 p_places)] true [.sc .p, .sc (.i .i64)] fun r1 =>
  Br ((r1.2.1 : Int) != 0) (
  R (none, r1.2.1, ())) (
  Req (8 ≠ (0 : Int)) <|
  Br ((((p_bits.len : Nat) : Int) : Int) != (w64 ((w64 (p_places + 7)).tdiv 8))) (
  R (none, 11, ())) (
  Lp (σ := Option Addr × Int × Int × Unit) (fun L2 s3 =>
  Br (decide ((s3.2.2.1 : Int) < ((p_bits.len : Nat) : Int))) (
  Ix p_bits s3.2.2.1 1 fun a4 =>
  LdI .u8 a4 fun x5 =>
  Lp (σ := Option Addr × Int × Int × Unit) (fun L6 s7 =>
  Br (decide ((s7.2.2.1 : Int) < 8)) (
  Jp (σ := Option Addr × Int × Unit) (fun s9 =>
  L6 (s9.1, s9.2.1, (w64 (s7.2.2.1 + 1)), ())) fun J8 =>
  Req ((0 : Int) ≤ s7.2.2.1) <|
  Req (2 ≠ (0 : Int)) <|
  Br ((((ishr .u8 x5 s7.2.2.1).tmod 2) : Int) == 0) (
  J8 (s7.1, s7.2.1, ())) (
  Br (decide (((w64 ((w64 (8 * s3.2.2.1)) + s7.2.2.1)) : Int) ≥ p_places)) (
  R (none, 11, ())) (
  Nn r1.1 fun a10 =>
  LdL (a10.add 0) fun x11 =>
  Ix x11 (w64 ((w64 (8 * s3.2.2.1)) + s7.2.2.1)) 1 fun a12 =>
  St a12 (.bool true) <|
  J8 (s7.1, s7.2.1, ())))) (
  L2 (s7.1, s7.2.1, (w64 (s3.2.2.1 + 1)), ()))) (s3.1, s3.2.1, 0, ())) (
  R (r1.1, 0, ()))) (none, 0, 0, ())))
def sumpterref08_Load_ann : Ann := .seq .leaf (.seq .leaf (.seq (.seq .leaf (.cond (.seq .leaf .leaf) .leaf)) (.seq (.seq .leaf (.cond (.seq .leaf .leaf) .leaf)) (.seq (.seq .leaf (.block (.loop [(4, .sc .p), (5, .sc (.i .i64)), (27, .sc (.i .i64))] (.seq .leaf (.seq (.cond .leaf .leaf) (.seq (.block (.seq .leaf (.seq .leaf (.block (.loop [(4, .sc .p), (5, .sc (.i .i64)), (10, .sc (.i .i64))] (.seq (.seq .leaf (.cond .leaf .leaf)) (.seq (.join [(4, .sc .p), (5, .sc (.i .i64))] (.block (.seq (.seq .leaf (.cond .leaf .leaf)) (.seq (.seq .leaf (.cond (.seq .leaf .leaf) .leaf)) .leaf)))) .leaf))))))) .leaf)))))) (.seq .leaf .leaf)))))
set_option maxRecDepth 100000 in
theorem sumpterref08_Load_den (p_places : Int) (p_bits : Sl) (R : TR [.sc .p, .sc (.i .i64)] → Pr) : den Try.prog sumpterref08_Load_ann (Try.f20.body.getD .skip) (retQ Try.prog Try.f20.results.toList true [.sc .p, .sc (.i .i64)] R) (env0 58 [(.int .i64 p_places), (.slice p_bits.p p_bits.len p_bits.cap)]) = sumpterref08_Load p_places p_bits R := by
  kernel_rfl
theorem sumpterref08_Load_call (p_places : Int) (p_bits : Sl) {R : TR [.sc .p, .sc (.i .i64)] → Pr} {w : World} (h : sumpterref08_Load p_places p_bits R w) : Cl Try.prog 20 [(.int .i64 p_places), (.slice p_bits.p p_bits.len p_bits.cap)] true [.sc .p, .sc (.i .i64)] R w :=
  call_of (P := Try.prog) (tup := true) (rs := [.sc .p, .sc (.i .i64)]) Try.checked.mixed sumpterref08_Load_ann (by kernel_rfl) Try.func20 (by kernel_rfl) Try.ntmps20 (by show Nat.beq Try.f20.results.size 1 = false; kernel_rfl) (by rw [← sumpterref08_Load_den] at h; exact h)

/-- (*sumpter/sumpterref08.Alloc).TakeRun -/
def sumpterref08_Alloc_TakeRun (p_a : Option Addr) (p_n : Int) (R : TR [.sc (.i .i64), .sc (.i .i64)] → Pr) : Pr :=
  Br (decide ((p_n : Int) < 1)) (
  R (0, 1, ())) (
  Lp (σ := Int × Int × Int × Unit) (fun L1 s2 =>
  Nn p_a fun a3 =>
  LdL (a3.add 0) fun x4 =>
  Br (decide ((p_n : Int) ≤ (w64 (((x4.len : Nat) : Int) - s2.2.2.1)))) (
  Lp (σ := Bool × Int × Unit) (fun L5 s6 =>
  Br (decide ((s6.2.1 : Int) < (w64 (s2.2.2.1 + p_n)))) (
  Jp (σ := Bool × Unit) (fun s8 =>
  L5 (s8.1, (w64 (s6.2.1 + 1)), ())) fun J7 =>
  Br s6.1 (
  Nn p_a fun a9 =>
  LdL (a9.add 0) fun x10 =>
  Ix x10 s6.2.1 1 fun a11 =>
  LdB a11 fun x12 =>
  J7 ((!x12), ())) (
  J7 (false, ()))) (
  Br (!s6.1) (
  L1 (s2.1, s2.2.1, (w64 (s2.2.2.1 + 1)), ())) (
  Lp (σ := Int × Unit) (fun L13 s14 =>
  Br (decide ((s14.1 : Int) < (w64 (s2.2.2.1 + p_n)))) (
  Nn p_a fun a15 =>
  LdL (a15.add 0) fun x16 =>
  Ix x16 s14.1 1 fun a17 =>
  St a17 (.bool true) <|
  L13 ((w64 (s14.1 + 1)), ())) (
  R (s2.2.2.1, 0, ()))) (s2.2.2.1, ())))) (true, s2.2.2.1, ())) (
  R (0, 62, ()))) (0, 0, 0, ()))
def sumpterref08_Alloc_TakeRun_ann : Ann := .seq .leaf (.seq (.seq .leaf (.cond (.seq .leaf .leaf) .leaf)) (.seq (.seq .leaf (.block (.loop [(4, .sc (.i .i64)), (5, .sc (.i .i64)), (6, .sc (.i .i64))] (.seq (.seq .leaf (.cond .leaf .leaf)) (.seq (.block (.seq .leaf (.seq (.seq .leaf (.block (.loop [(7, .sc .b), (8, .sc (.i .i64))] (.seq (.seq .leaf (.cond .leaf .leaf)) (.seq (.join [(7, .sc .b)] (.block .leaf)) .leaf))))) (.seq (.seq .leaf (.cond .leaf .leaf)) (.seq (.seq .leaf (.block (.loop [(9, .sc (.i .i64))] (.seq (.seq .leaf (.cond .leaf .leaf)) (.seq (.block .leaf) .leaf))))) (.seq .leaf .leaf)))))) .leaf))))) (.seq .leaf .leaf)))
set_option maxRecDepth 100000 in
theorem sumpterref08_Alloc_TakeRun_den (p_a : Option Addr) (p_n : Int) (R : TR [.sc (.i .i64), .sc (.i .i64)] → Pr) : den Try.prog sumpterref08_Alloc_TakeRun_ann (Try.f21.body.getD .skip) (retQ Try.prog Try.f21.results.toList true [.sc (.i .i64), .sc (.i .i64)] R) (env0 59 [(.pointer p_a), (.int .i64 p_n)]) = sumpterref08_Alloc_TakeRun p_a p_n R := by
  kernel_rfl
theorem sumpterref08_Alloc_TakeRun_call (p_a : Option Addr) (p_n : Int) {R : TR [.sc (.i .i64), .sc (.i .i64)] → Pr} {w : World} (h : sumpterref08_Alloc_TakeRun p_a p_n R w) : Cl Try.prog 21 [(.pointer p_a), (.int .i64 p_n)] true [.sc (.i .i64), .sc (.i .i64)] R w :=
  call_of (P := Try.prog) (tup := true) (rs := [.sc (.i .i64), .sc (.i .i64)]) Try.checked.mixed sumpterref08_Alloc_TakeRun_ann (by kernel_rfl) Try.func21 (by kernel_rfl) Try.ntmps21 (by show Nat.beq Try.f21.results.size 1 = false; kernel_rfl) (by rw [← sumpterref08_Alloc_TakeRun_den] at h; exact h)

/-- (*sumpter/sumpterref08.Alloc).Give -/
def sumpterref08_Alloc_Give (p_a : Option Addr) (p_i : Int) (R : TR [.sc (.i .i64)] → Pr) : Pr :=
  Cl Try.prog 27 [(.pointer p_a), (.int .i64 p_i)] false [.sc .b] fun r1 =>
  Br (!r1.1) (
  R (5, ())) (
  Nn p_a fun a2 =>
  LdL (a2.add 0) fun x3 =>
  Ix x3 p_i 1 fun a4 =>
  St a4 (.bool false) <|
  R (0, ()))
def sumpterref08_Alloc_Give_ann : Ann := .seq .leaf (.seq (.seq .leaf (.cond (.seq .leaf .leaf) .leaf)) (.seq .leaf (.seq .leaf .leaf)))
set_option maxRecDepth 100000 in
theorem sumpterref08_Alloc_Give_den (p_a : Option Addr) (p_i : Int) (R : TR [.sc (.i .i64)] → Pr) : den Try.prog sumpterref08_Alloc_Give_ann (Try.f22.body.getD .skip) (retQ Try.prog Try.f22.results.toList false [.sc (.i .i64)] R) (env0 15 [(.pointer p_a), (.int .i64 p_i)]) = sumpterref08_Alloc_Give p_a p_i R := by
  kernel_rfl
theorem sumpterref08_Alloc_Give_call (p_a : Option Addr) (p_i : Int) {R : TR [.sc (.i .i64)] → Pr} {w : World} (h : sumpterref08_Alloc_Give p_a p_i R w) : Cl Try.prog 22 [(.pointer p_a), (.int .i64 p_i)] false [.sc (.i .i64)] R w :=
  call_of (P := Try.prog) (tup := false) (rs := [.sc (.i .i64)]) Try.checked.mixed sumpterref08_Alloc_Give_ann (by kernel_rfl) Try.func22 (by kernel_rfl) Try.ntmps22 (by show Try.f22.results.size = 1; kernel_rfl) (by rw [← sumpterref08_Alloc_Give_den] at h; exact h)

/-- (*sumpter/sumpterref08.Alloc).Mark -/
def sumpterref08_Alloc_Mark (p_a : Option Addr) (p_i : Int) (R : TR [.sc (.i .i64)] → Pr) : Pr :=
  Jp (σ := Bool × Unit) (fun s2 =>
  Br s2.1 (
  R (5, ())) (
  Nn p_a fun a3 =>
  LdL (a3.add 0) fun x4 =>
  Ix x4 p_i 1 fun a5 =>
  LdB a5 fun x6 =>
  Br x6 (
  R (6, ())) (
  Nn p_a fun a7 =>
  LdL (a7.add 0) fun x8 =>
  Ix x8 p_i 1 fun a9 =>
  St a9 (.bool true) <|
  R (0, ())))) fun J1 =>
  Br (decide ((p_i : Int) < 0)) (
  J1 (true, ())) (
  Nn p_a fun a10 =>
  LdL (a10.add 0) fun x11 =>
  J1 ((decide ((p_i : Int) ≥ ((x11.len : Nat) : Int))), ()))
def sumpterref08_Alloc_Mark_ann : Ann := .seq .leaf (.seq (.seq (.join [(15, .sc .b)] .leaf) (.cond (.seq .leaf .leaf) .leaf)) (.seq (.seq .leaf (.cond (.seq .leaf .leaf) .leaf)) (.seq .leaf (.seq .leaf .leaf))))
set_option maxRecDepth 100000 in
theorem sumpterref08_Alloc_Mark_den (p_a : Option Addr) (p_i : Int) (R : TR [.sc (.i .i64)] → Pr) : den Try.prog sumpterref08_Alloc_Mark_ann (Try.f23.body.getD .skip) (retQ Try.prog Try.f23.results.toList false [.sc (.i .i64)] R) (env0 29 [(.pointer p_a), (.int .i64 p_i)]) = sumpterref08_Alloc_Mark p_a p_i R := by
  kernel_rfl
theorem sumpterref08_Alloc_Mark_call (p_a : Option Addr) (p_i : Int) {R : TR [.sc (.i .i64)] → Pr} {w : World} (h : sumpterref08_Alloc_Mark p_a p_i R w) : Cl Try.prog 23 [(.pointer p_a), (.int .i64 p_i)] false [.sc (.i .i64)] R w :=
  call_of (P := Try.prog) (tup := false) (rs := [.sc (.i .i64)]) Try.checked.mixed sumpterref08_Alloc_Mark_ann (by kernel_rfl) Try.func23 (by kernel_rfl) Try.ntmps23 (by show Try.f23.results.size = 1; kernel_rfl) (by rw [← sumpterref08_Alloc_Mark_den] at h; exact h)

/-- sumpter/sumpterlaw08.same -/
def sumpterlaw08_same (p_a : Option Addr) (p_x : Option Addr) (R : TR [.sc .b] → Pr) : Pr :=
  Cl Try.prog 18 [(.pointer p_a)] false [.sc .sl] fun r1 =>
  Cl Try.prog 28 [(.pointer p_x)] false [.sc .sl] fun r2 =>
  Cl Try.prog 16 [(.pointer p_a)] false [.sc .sl] fun r3 =>
  Jp (σ := Bool × Unit) (fun s5 =>
  Br s5.1 (
  R (false, ())) (
  Lp (σ := Bool × Int × Unit) (fun L6 s7 =>
  Br (decide ((s7.2.1 : Int) < ((r1.1.len : Nat) : Int))) (
  Dr <|
  Ix r1.1 s7.2.1 1 fun a8 =>
  LdI .i64 a8 fun x9 =>
  Ix r2.1 s7.2.1 1 fun a10 =>
  LdI .i64 a10 fun x11 =>
  Br ((x9 : Int) != x11) (
  R (false, ())) (
  Ix r1.1 s7.2.1 1 fun a12 =>
  St a12 (.int .i64 (-7)) <|
  L6 (s7.1, (w64 (s7.2.1 + 1)), ()))) (
  Lp (σ := Int × Unit) (fun L13 s14 =>
  Br (decide ((s14.1 : Int) < ((r3.1.len : Nat) : Int))) (
  Ix r3.1 s14.1 1 fun a15 =>
  St a15 (.int .u8 255) <|
  L13 ((w64 (s14.1 + 1)), ())) (
  Lp (σ := Bool × Int × Unit) (fun L16 s17 =>
  Jp (σ := Bool × Unit) (fun s19 =>
  Br s19.1 (
  Cl Try.prog 10 [(.pointer p_a), (.int .i64 s17.2.1)] false [.sc .b] fun r20 =>
  Cl Try.prog 27 [(.pointer p_x), (.int .i64 s17.2.1)] false [.sc .b] fun r21 =>
  Br (!(r20.1 == r21.1)) (
  R (false, ())) (
  L16 (s17.1, (w64 (s17.2.1 + 1)), ()))) (
  R (true, ()))) fun J18 =>
  Nn p_x fun a22 =>
  LdL (a22.add 0) fun x23 =>
  Br (decide ((s17.2.1 : Int) ≤ ((x23.len : Nat) : Int))) (
  J18 ((decide ((s17.2.1 : Int) < 70)), ())) (
  J18 (false, ()))) (s7.1, (-1), ()))) (0, ()))) (false, 0, ()))) fun J4 =>
  Dr <|
  Br ((((r1.1.len : Nat) : Int) : Int) != ((r2.1.len : Nat) : Int)) (
  J4 (true, ())) (
  Nn p_x fun a24 =>
  LdL (a24.add 0) fun x25 =>
  Cl Try.prog 14 [(.pointer p_a)] false [.sc (.i .i64)] fun r26 =>
  Both (LdL (a24.add 0) fun x27 =>
  fun _ => ((.slice x27.p x27.len x27.cap) : Value) = (.slice x25.p x25.len x25.cap)) <|
  Br ((r26.1 : Int) != (w64 (((x25.len : Nat) : Int) - ((r2.1.len : Nat) : Int)))) (
  J4 (true, ())) (
  BtoS r3.1 fun s28 =>
  Cl Try.prog 29 [(.pointer p_x)] false [.sc .sl] fun r29 =>
  Both (BtoS r3.1 fun s30 =>
  fun _ => ((.string s30) : Value) = (.string s28)) <|
  BtoS r29.1 fun s31 =>
  J4 ((!(seq s28 s31)), ())))
def sumpterlaw08_same_ann : Ann := .seq .leaf (.seq .leaf (.seq .leaf (.seq .leaf (.seq (.seq (.join [(42, .sc .b)] .leaf) (.cond (.seq .leaf .leaf) .leaf)) (.seq (.seq .leaf (.block (.loop [(4, .sc .b), (45, .sc (.i .i64))] (.seq .leaf (.seq (.cond .leaf .leaf) (.seq (.block (.seq .leaf (.seq (.seq .leaf (.cond (.seq .leaf .leaf) .leaf)) .leaf))) .leaf)))))) (.seq (.seq .leaf (.block (.loop [(63, .sc (.i .i64))] (.seq .leaf (.seq (.cond .leaf .leaf) (.seq (.block (.seq .leaf .leaf)) .leaf)))))) (.seq (.seq .leaf (.block (.loop [(4, .sc .b), (10, .sc (.i .i64))] (.seq (.seq (.join [(80, .sc .b)] .leaf) (.cond .leaf .leaf)) (.seq (.block (.seq .leaf (.cond (.seq .leaf .leaf) .leaf))) .leaf))))) (.seq .leaf .leaf))))))))
set_option maxRecDepth 100000 in
theorem sumpterlaw08_same_den (p_a : Option Addr) (p_x : Option Addr) (R : TR [.sc .b] → Pr) : den Try.prog sumpterlaw08_same_ann (Try.f24.body.getD .skip) (retQ Try.prog Try.f24.results.toList false [.sc .b] R) (env0 90 [(.pointer p_a), (.pointer p_x)]) = sumpterlaw08_same p_a p_x R := by
  kernel_rfl
theorem sumpterlaw08_same_call (p_a : Option Addr) (p_x : Option Addr) {R : TR [.sc .b] → Pr} {w : World} (h : sumpterlaw08_same p_a p_x R w) : Cl Try.prog 24 [(.pointer p_a), (.pointer p_x)] false [.sc .b] R w :=
  call_of (P := Try.prog) (tup := false) (rs := [.sc .b]) Try.checked.mixed sumpterlaw08_same_ann (by kernel_rfl) Try.func24 (by kernel_rfl) Try.ntmps24 (by show Try.f24.results.size = 1; kernel_rfl) (by rw [← sumpterlaw08_same_den] at h; exact h)

/-- (*sumpter/alloc.Alloc).set -/
def alloc_Alloc_set (p_a : Option Addr) (p_i : Int) (R : TR [] → Pr) : Pr :=
  Dr <|
  Req (64 ≠ (0 : Int)) <|
  Nn p_a fun a1 =>
  IxR (a1.add 1) 16 (w64 ((p_i : Int).tdiv 64)) 1 fun a2 =>
  LdI .u64 a2 fun x3 =>
  Req (64 ≠ (0 : Int)) <|
  Req ((0 : Int) ≤ ((p_i : Int).tmod 64)) <|
  Nn p_a fun a4 =>
  IxR (a4.add 1) 16 (w64 ((p_i : Int).tdiv 64)) 1 fun a5 =>
  St a5 (.int .u64 (ixor .u64 x3 (ishl .u64 1 ((p_i : Int).tmod 64)))) <|
  R ()
def alloc_Alloc_set_ann : Ann := .leaf
set_option maxRecDepth 100000 in
theorem alloc_Alloc_set_den (p_a : Option Addr) (p_i : Int) (R : TR [] → Pr) : den Try.prog alloc_Alloc_set_ann (Try.f25.body.getD .skip) (retQ Try.prog Try.f25.results.toList true [] R) (env0 18 [(.pointer p_a), (.int .i64 p_i)]) = alloc_Alloc_set p_a p_i R := by
  kernel_rfl
theorem alloc_Alloc_set_call (p_a : Option Addr) (p_i : Int) {R : TR [] → Pr} {w : World} (h : alloc_Alloc_set p_a p_i R w) : Cl Try.prog 25 [(.pointer p_a), (.int .i64 p_i)] true [] R w :=
  call_of (P := Try.prog) (tup := true) (rs := []) Try.checked.mixed alloc_Alloc_set_ann (by kernel_rfl) Try.func25 (by kernel_rfl) Try.ntmps25 (by show Nat.beq Try.f25.results.size 1 = false; kernel_rfl) (by rw [← alloc_Alloc_set_den] at h; exact h)

/-- math/bits.OnesCount64 -/
def math_bits_OnesCount64 (p_x : Int) (R : TR [.sc (.i .i64)] → Pr) : Pr :=
  Req ((0 : Int) ≤ 1) <|
  Req ((0 : Int) ≤ 2) <|
  Req ((0 : Int) ≤ 4) <|
  Req ((0 : Int) ≤ 8) <|
  Req ((0 : Int) ≤ 16) <|
  Req ((0 : Int) ≤ 32) <|
  R ((iand .i64 (w64 ((IntKind.u64.wrap ((IntKind.u64.wrap ((IntKind.u64.wrap ((iand .u64 (IntKind.u64.wrap ((ishr .u64 (IntKind.u64.wrap ((iand .u64 (ishr .u64 (IntKind.u64.wrap ((iand .u64 (ishr .u64 p_x 1) 6148914691236517205) + (iand .u64 p_x 6148914691236517205))) 2) 3689348814741910323) + (iand .u64 (IntKind.u64.wrap ((iand .u64 (ishr .u64 p_x 1) 6148914691236517205) + (iand .u64 p_x 6148914691236517205))) 3689348814741910323))) 4) + (IntKind.u64.wrap ((iand .u64 (ishr .u64 (IntKind.u64.wrap ((iand .u64 (ishr .u64 p_x 1) 6148914691236517205) + (iand .u64 p_x 6148914691236517205))) 2) 3689348814741910323) + (iand .u64 (IntKind.u64.wrap ((iand .u64 (ishr .u64 p_x 1) 6148914691236517205) + (iand .u64 p_x 6148914691236517205))) 3689348814741910323))))) 1085102592571150095) + (ishr .u64 (iand .u64 (IntKind.u64.wrap ((ishr .u64 (IntKind.u64.wrap ((iand .u64 (ishr .u64 (IntKind.u64.wrap ((iand .u64 (ishr .u64 p_x 1) 6148914691236517205) + (iand .u64 p_x 6148914691236517205))) 2) 3689348814741910323) + (iand .u64 (IntKind.u64.wrap ((iand .u64 (ishr .u64 p_x 1) 6148914691236517205) + (iand .u64 p_x 6148914691236517205))) 3689348814741910323))) 4) + (IntKind.u64.wrap ((iand .u64 (ishr .u64 (IntKind.u64.wrap ((iand .u64 (ishr .u64 p_x 1) 6148914691236517205) + (iand .u64 p_x 6148914691236517205))) 2) 3689348814741910323) + (iand .u64 (IntKind.u64.wrap ((iand .u64 (ishr .u64 p_x 1) 6148914691236517205) + (iand .u64 p_x 6148914691236517205))) 3689348814741910323))))) 1085102592571150095) 8))) + (ishr .u64 (IntKind.u64.wrap ((iand .u64 (IntKind.u64.wrap ((ishr .u64 (IntKind.u64.wrap ((iand .u64 (ishr .u64 (IntKind.u64.wrap ((iand .u64 (ishr .u64 p_x 1) 6148914691236517205) + (iand .u64 p_x 6148914691236517205))) 2) 3689348814741910323) + (iand .u64 (IntKind.u64.wrap ((iand .u64 (ishr .u64 p_x 1) 6148914691236517205) + (iand .u64 p_x 6148914691236517205))) 3689348814741910323))) 4) + (IntKind.u64.wrap ((iand .u64 (ishr .u64 (IntKind.u64.wrap ((iand .u64 (ishr .u64 p_x 1) 6148914691236517205) + (iand .u64 p_x 6148914691236517205))) 2) 3689348814741910323) + (iand .u64 (IntKind.u64.wrap ((iand .u64 (ishr .u64 p_x 1) 6148914691236517205) + (iand .u64 p_x 6148914691236517205))) 3689348814741910323))))) 1085102592571150095) + (ishr .u64 (iand .u64 (IntKind.u64.wrap ((ishr .u64 (IntKind.u64.wrap ((iand .u64 (ishr .u64 (IntKind.u64.wrap ((iand .u64 (ishr .u64 p_x 1) 6148914691236517205) + (iand .u64 p_x 6148914691236517205))) 2) 3689348814741910323) + (iand .u64 (IntKind.u64.wrap ((iand .u64 (ishr .u64 p_x 1) 6148914691236517205) + (iand .u64 p_x 6148914691236517205))) 3689348814741910323))) 4) + (IntKind.u64.wrap ((iand .u64 (ishr .u64 (IntKind.u64.wrap ((iand .u64 (ishr .u64 p_x 1) 6148914691236517205) + (iand .u64 p_x 6148914691236517205))) 2) 3689348814741910323) + (iand .u64 (IntKind.u64.wrap ((iand .u64 (ishr .u64 p_x 1) 6148914691236517205) + (iand .u64 p_x 6148914691236517205))) 3689348814741910323))))) 1085102592571150095) 8))) 16))) + (ishr .u64 (IntKind.u64.wrap ((IntKind.u64.wrap ((iand .u64 (IntKind.u64.wrap ((ishr .u64 (IntKind.u64.wrap ((iand .u64 (ishr .u64 (IntKind.u64.wrap ((iand .u64 (ishr .u64 p_x 1) 6148914691236517205) + (iand .u64 p_x 6148914691236517205))) 2) 3689348814741910323) + (iand .u64 (IntKind.u64.wrap ((iand .u64 (ishr .u64 p_x 1) 6148914691236517205) + (iand .u64 p_x 6148914691236517205))) 3689348814741910323))) 4) + (IntKind.u64.wrap ((iand .u64 (ishr .u64 (IntKind.u64.wrap ((iand .u64 (ishr .u64 p_x 1) 6148914691236517205) + (iand .u64 p_x 6148914691236517205))) 2) 3689348814741910323) + (iand .u64 (IntKind.u64.wrap ((iand .u64 (ishr .u64 p_x 1) 6148914691236517205) + (iand .u64 p_x 6148914691236517205))) 3689348814741910323))))) 1085102592571150095) + (ishr .u64 (iand .u64 (IntKind.u64.wrap ((ishr .u64 (IntKind.u64.wrap ((iand .u64 (ishr .u64 (IntKind.u64.wrap ((iand .u64 (ishr .u64 p_x 1) 6148914691236517205) + (iand .u64 p_x 6148914691236517205))) 2) 3689348814741910323) + (iand .u64 (IntKind.u64.wrap ((iand .u64 (ishr .u64 p_x 1) 6148914691236517205) + (iand .u64 p_x 6148914691236517205))) 3689348814741910323))) 4) + (IntKind.u64.wrap ((iand .u64 (ishr .u64 (IntKind.u64.wrap ((iand .u64 (ishr .u64 p_x 1) 6148914691236517205) + (iand .u64 p_x 6148914691236517205))) 2) 3689348814741910323) + (iand .u64 (IntKind.u64.wrap ((iand .u64 (ishr .u64 p_x 1) 6148914691236517205) + (iand .u64 p_x 6148914691236517205))) 3689348814741910323))))) 1085102592571150095) 8))) + (ishr .u64 (IntKind.u64.wrap ((iand .u64 (IntKind.u64.wrap ((ishr .u64 (IntKind.u64.wrap ((iand .u64 (ishr .u64 (IntKind.u64.wrap ((iand .u64 (ishr .u64 p_x 1) 6148914691236517205) + (iand .u64 p_x 6148914691236517205))) 2) 3689348814741910323) + (iand .u64 (IntKind.u64.wrap ((iand .u64 (ishr .u64 p_x 1) 6148914691236517205) + (iand .u64 p_x 6148914691236517205))) 3689348814741910323))) 4) + (IntKind.u64.wrap ((iand .u64 (ishr .u64 (IntKind.u64.wrap ((iand .u64 (ishr .u64 p_x 1) 6148914691236517205) + (iand .u64 p_x 6148914691236517205))) 2) 3689348814741910323) + (iand .u64 (IntKind.u64.wrap ((iand .u64 (ishr .u64 p_x 1) 6148914691236517205) + (iand .u64 p_x 6148914691236517205))) 3689348814741910323))))) 1085102592571150095) + (ishr .u64 (iand .u64 (IntKind.u64.wrap ((ishr .u64 (IntKind.u64.wrap ((iand .u64 (ishr .u64 (IntKind.u64.wrap ((iand .u64 (ishr .u64 p_x 1) 6148914691236517205) + (iand .u64 p_x 6148914691236517205))) 2) 3689348814741910323) + (iand .u64 (IntKind.u64.wrap ((iand .u64 (ishr .u64 p_x 1) 6148914691236517205) + (iand .u64 p_x 6148914691236517205))) 3689348814741910323))) 4) + (IntKind.u64.wrap ((iand .u64 (ishr .u64 (IntKind.u64.wrap ((iand .u64 (ishr .u64 p_x 1) 6148914691236517205) + (iand .u64 p_x 6148914691236517205))) 2) 3689348814741910323) + (iand .u64 (IntKind.u64.wrap ((iand .u64 (ishr .u64 p_x 1) 6148914691236517205) + (iand .u64 p_x 6148914691236517205))) 3689348814741910323))))) 1085102592571150095) 8))) 16))) 32))))) 127), ())
def math_bits_OnesCount64_ann : Ann := .seq .leaf (.seq .leaf (.seq .leaf (.seq .leaf (.seq .leaf (.seq .leaf (.seq .leaf (.seq .leaf .leaf)))))))
set_option maxRecDepth 100000 in
theorem math_bits_OnesCount64_den (p_x : Int) (R : TR [.sc (.i .i64)] → Pr) : den Try.prog math_bits_OnesCount64_ann (Try.f26.body.getD .skip) (retQ Try.prog Try.f26.results.toList false [.sc (.i .i64)] R) (env0 35 [(.int .u64 p_x)]) = math_bits_OnesCount64 p_x R := by
  kernel_rfl
theorem math_bits_OnesCount64_call (p_x : Int) {R : TR [.sc (.i .i64)] → Pr} {w : World} (h : math_bits_OnesCount64 p_x R w) : Cl Try.prog 26 [(.int .u64 p_x)] false [.sc (.i .i64)] R w :=
  call_of (P := Try.prog) (tup := false) (rs := [.sc (.i .i64)]) Try.checked.mixed math_bits_OnesCount64_ann (by kernel_rfl) Try.func26 (by kernel_rfl) Try.ntmps26 (by show Try.f26.results.size = 1; kernel_rfl) (by rw [← math_bits_OnesCount64_den] at h; exact h)

/-- (*sumpter/sumpterref08.Alloc).Has -/
def sumpterref08_Alloc_Has (p_a : Option Addr) (p_i : Int) (R : TR [.sc .b] → Pr) : Pr :=
  Br (decide ((p_i : Int) ≥ 0)) (
  Nn p_a fun a1 =>
  LdL (a1.add 0) fun x2 =>
  Br (decide ((p_i : Int) < ((x2.len : Nat) : Int))) (
  Nn p_a fun a3 =>
  LdL (a3.add 0) fun x4 =>
  Ix x4 p_i 1 fun a5 =>
  LdB a5 fun x6 =>
  R (x6, ())) (
  R (false, ()))) (
  R (false, ()))
def sumpterref08_Alloc_Has_ann : Ann := .seq .leaf (.seq .leaf .leaf)
set_option maxRecDepth 100000 in
theorem sumpterref08_Alloc_Has_den (p_a : Option Addr) (p_i : Int) (R : TR [.sc .b] → Pr) : den Try.prog sumpterref08_Alloc_Has_ann (Try.f27.body.getD .skip) (retQ Try.prog Try.f27.results.toList false [.sc .b] R) (env0 25 [(.pointer p_a), (.int .i64 p_i)]) = sumpterref08_Alloc_Has p_a p_i R := by
  kernel_rfl
theorem sumpterref08_Alloc_Has_call (p_a : Option Addr) (p_i : Int) {R : TR [.sc .b] → Pr} {w : World} (h : sumpterref08_Alloc_Has p_a p_i R w) : Cl Try.prog 27 [(.pointer p_a), (.int .i64 p_i)] false [.sc .b] R w :=
  call_of (P := Try.prog) (tup := false) (rs := [.sc .b]) Try.checked.mixed sumpterref08_Alloc_Has_ann (by kernel_rfl) Try.func27 (by kernel_rfl) Try.ntmps27 (by show Try.f27.results.size = 1; kernel_rfl) (by rw [← sumpterref08_Alloc_Has_den] at h; exact h)

/-- (*sumpter/sumpterref08.Alloc).Used -/
def sumpterref08_Alloc_Used (p_a : Option Addr) (R : TR [.sc .sl] → Pr) : Pr :=
  Nn p_a fun a1 =>
  LdL (a1.add 0) fun x2 =>
  Lp (σ := Sl × Int × Unit) (fun L3 s4 =>
  Br (decide ((s4.2.1 : Int) < ((x2.len : Nat) : Int))) (
  Jp (σ := Sl × Unit) (fun s6 =>
  L3 (s6.1, (w64 (s4.2.1 + 1)), ())) fun J5 =>
  Ix x2 s4.2.1 1 fun a7 =>
  LdB a7 fun x8 =>
  Br x8 (
  New #[(.int .i64 s4.2.1)] 3 fun a9 =>
  App 3 1 8 (zc Try.prog 3) s4.1 1 (srcS (some a9) 1 1) fun r10 =>
  J5 (r10, ())) (
  J5 (s4.1, ()))) (
  R (s4.1, ()))) (⟨none, 0, 0⟩, 0, ())
def sumpterref08_Alloc_Used_ann : Ann := .seq .leaf (.seq .leaf (.seq (.seq .leaf (.block (.loop [(3, .sc .sl), (11, .sc (.i .i64))] (.seq .leaf (.seq (.cond .leaf .leaf) (.seq (.join [(3, .sc .sl)] (.block (.seq .leaf (.seq .leaf (.cond .leaf .leaf))))) .leaf)))))) (.seq .leaf .leaf)))
set_option maxRecDepth 100000 in
theorem sumpterref08_Alloc_Used_den (p_a : Option Addr) (R : TR [.sc .sl] → Pr) : den Try.prog sumpterref08_Alloc_Used_ann (Try.f28.body.getD .skip) (retQ Try.prog Try.f28.results.toList false [.sc .sl] R) (env0 23 [(.pointer p_a)]) = sumpterref08_Alloc_Used p_a R := by
  kernel_rfl
theorem sumpterref08_Alloc_Used_call (p_a : Option Addr) {R : TR [.sc .sl] → Pr} {w : World} (h : sumpterref08_Alloc_Used p_a R w) : Cl Try.prog 28 [(.pointer p_a)] false [.sc .sl] R w :=
  call_of (P := Try.prog) (tup := false) (rs := [.sc .sl]) Try.checked.mixed sumpterref08_Alloc_Used_ann (by kernel_rfl) Try.func28 (by kernel_rfl) Try.ntmps28 (by show Try.f28.results.size = 1; kernel_rfl) (by rw [← sumpterref08_Alloc_Used_den] at h; exact h)

/-- (*sumpter/sumpterref08.Alloc).Bits -/
def sumpterref08_Alloc_Bits (p_a : Option Addr) (R : TR [.sc .sl] → Pr) : Pr :=
  Nn p_a fun a1 =>
  LdL (a1.add 0) fun x2 =>
  Req (8 ≠ (0 : Int)) <|
  Mk 5 1 1 (zc Try.prog 5) (w64 ((w64 (((x2.len : Nat) : Int) + 7)).tdiv 8)) (w64 ((w64 (((x2.len : Nat) : Int) + 7)).tdiv 8)) fun r3 =>
  Nn p_a fun a4 =>
  LdL (a4.add 0) fun x5 =>
  Lp (σ := Int × Unit) (fun L6 s7 =>
  Br (decide ((s7.1 : Int) < ((x5.len : Nat) : Int))) (
  Jp (σ := Unit) (fun s9 =>
  L6 ((w64 (s7.1 + 1)), ())) fun J8 =>
  Ix x5 s7.1 1 fun a10 =>
  LdB a10 fun x11 =>
  Br x11 (
  Dr <|
  Req (8 ≠ (0 : Int)) <|
  Ix r3 (w64 ((s7.1 : Int).tdiv 8)) 1 fun a12 =>
  LdI .u8 a12 fun x13 =>
  Req (8 ≠ (0 : Int)) <|
  Req ((0 : Int) ≤ ((s7.1 : Int).tmod 8)) <|
  Ix r3 (w64 ((s7.1 : Int).tdiv 8)) 1 fun a14 =>
  St a14 (.int .u8 (IntKind.u8.wrap (x13 + (ishl .u8 1 ((s7.1 : Int).tmod 8))))) <|
  J8 ()) (
  J8 ())) (
  R (r3, ()))) (0, ())
def sumpterref08_Alloc_Bits_ann : Ann := .seq .leaf (.seq .leaf (.seq (.seq .leaf (.block (.loop [(19, .sc (.i .i64))] (.seq .leaf (.seq (.cond .leaf .leaf) (.seq (.join [] (.block (.seq .leaf (.seq .leaf (.cond .leaf .leaf))))) .leaf)))))) (.seq .leaf .leaf)))
set_option maxRecDepth 100000 in
theorem sumpterref08_Alloc_Bits_den (p_a : Option Addr) (R : TR [.sc .sl] → Pr) : den Try.prog sumpterref08_Alloc_Bits_ann (Try.f29.body.getD .skip) (retQ Try.prog Try.f29.results.toList false [.sc .sl] R) (env0 37 [(.pointer p_a)]) = sumpterref08_Alloc_Bits p_a R := by
  kernel_rfl
theorem sumpterref08_Alloc_Bits_call (p_a : Option Addr) {R : TR [.sc .sl] → Pr} {w : World} (h : sumpterref08_Alloc_Bits p_a R w) : Cl Try.prog 29 [(.pointer p_a)] false [.sc .sl] R w :=
  call_of (P := Try.prog) (tup := false) (rs := [.sc .sl]) Try.checked.mixed sumpterref08_Alloc_Bits_ann (by kernel_rfl) Try.func29 (by kernel_rfl) Try.ntmps29 (by show Try.f29.results.size = 1; kernel_rfl) (by rw [← sumpterref08_Alloc_Bits_den] at h; exact h)

end Go.Proofs.Ytdpbgcplcjhjmaa
