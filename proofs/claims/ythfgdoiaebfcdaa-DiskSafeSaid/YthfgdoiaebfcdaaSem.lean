import Derived.Test.YthfgdoiaebfcdaaChecked
import Derived.Test.YthfgdoiaebfcdaaSxM
set_option linter.unusedVariables false
namespace Go.Proofs.Ythfgdoiaebfcdaa
open Go Go.Sx

/-- sumpter/sumpterlaw06.DiskSafe -/
abbrev i_sumpterlaw06_DiskSafe : FuncId := 3
def sumpterlaw06_DiskSafe (p_first : Sl) (p_then : Sl) (p_mask : ByteArray) (R : TR [.sc .b] → Pr) : Pr :=
  Cl Try.prog 8 [] false [.sc .b] fun r1 =>
  Cl Try.prog 9 [(.int .i64 12)] true [.sc .p, .sc (.i .i64)] fun r2 =>
  Jp (σ := Bool × Unit) (fun s4 =>
  Br s4.1 (
  R (false, ())) (
  New #[(.string (BA [])), (.string (BA [])), (.string (BA [])), (.string (BA [])), (.string (BA [])), (.string (BA [])), (.string (BA [])), (.string (BA [])), (.string (BA [])), (.string (BA [])), (.string (BA [])), (.string (BA []))] 28 fun a5 =>
  New #[(.string (BA [])), (.string (BA [])), (.string (BA [])), (.string (BA [])), (.string (BA [])), (.string (BA [])), (.string (BA [])), (.string (BA [])), (.string (BA [])), (.string (BA [])), (.string (BA [])), (.string (BA []))] 28 fun a6 =>
  Lp (σ := Int × Unit) (fun L7 s8 =>
  Br (decide ((s8.1 : Int) < 12)) (
  Mk 5 1 1 (zc Try.prog 5) 64 64 fun r9 =>
  BtoS r9 fun s10 =>
  IxR a5 12 s8.1 1 fun a11 =>
  St a11 (.string s10) <|
  L7 ((w64 (s8.1 + 1)), ())) (
  Lp (σ := Int × Unit) (fun L12 s13 =>
  Br (decide ((s13.1 : Int) < ((p_first.len : Nat) : Int))) (
  Jp (σ := Unit) (fun s15 =>
  L12 ((w64 (s13.1 + 1)), ())) fun J14 =>
  Ix p_first s13.1 6 fun a16 =>
  LdI .i64 (a16.add 0) fun x17 =>
  LdI .i64 (a16.add 1) fun x18 =>
  LdI .i64 (a16.add 2) fun x19 =>
  LdI .u8 (a16.add 3) fun x20 =>
  LdS (a16.add 4) fun x21 =>
  LdB (a16.add 5) fun x22 =>
  New #[(.int .i64 0), (.int .i64 0), (.int .i64 0), (.int .u8 0), (.string (BA [])), (.bool false)] 31 fun a23 =>
  St (a23.add 0) (.int .i64 x17) <|
  St (a23.add 1) (.int .i64 x18) <|
  St (a23.add 2) (.int .i64 x19) <|
  St (a23.add 3) (.int .u8 x20) <|
  St (a23.add 4) (.string x21) <|
  St (a23.add 5) (.bool x22) <|
  Dr <|
  LdI .i64 (a23.add 1) fun x24 =>
  LdI .u8 (a23.add 3) fun x25 =>
  Cl Try.prog 11 [(.int .u8 x25)] false [.sc .sl] fun r26 =>
  Both (LdI .i64 (a23.add 1) fun x27 =>
  fun _ => ((.int .i64 x27) : Value) = (.int .i64 x24)) <|
  Cl Try.prog 10 [(.pointer r2.1), (.int .i64 x24), (.slice r26.1.p r26.1.len r26.1.cap)] false [.sc (.i .i64)] fun r28 =>
  Br ((r28.1 : Int) == 0) (
  Dr <|
  LdI .i64 (a23.add 1) fun x29 =>
  LdI .u8 (a23.add 3) fun x30 =>
  Cl Try.prog 11 [(.int .u8 x30)] false [.sc .sl] fun r31 =>
  Both (LdI .i64 (a23.add 1) fun x32 =>
  fun _ => ((.int .i64 x32) : Value) = (.int .i64 x29)) <|
  BtoS r31.1 fun s33 =>
  IxR a5 12 x29 1 fun a34 =>
  St a34 (.string s33) <|
  J14 ()) (
  J14 ())) (
  Cl Try.prog 12 [(.pointer r2.1)] false [.sc (.i .i64)] fun r35 =>
  Br ((r35.1 : Int) != 0) (
  R (false, ())) (
  Lp (σ := Int × Unit) (fun L36 s37 =>
  Br (decide ((s37.1 : Int) < ((p_then.len : Nat) : Int))) (
  Jp (σ := Unit) (fun s39 =>
  L36 ((w64 (s37.1 + 1)), ())) fun J38 =>
  Ix p_then s37.1 6 fun a40 =>
  LdI .i64 (a40.add 0) fun x41 =>
  LdI .i64 (a40.add 1) fun x42 =>
  LdI .i64 (a40.add 2) fun x43 =>
  LdI .u8 (a40.add 3) fun x44 =>
  LdS (a40.add 4) fun x45 =>
  LdB (a40.add 5) fun x46 =>
  New #[(.int .i64 0), (.int .i64 0), (.int .i64 0), (.int .u8 0), (.string (BA [])), (.bool false)] 31 fun a47 =>
  St (a47.add 0) (.int .i64 x41) <|
  St (a47.add 1) (.int .i64 x42) <|
  St (a47.add 2) (.int .i64 x43) <|
  St (a47.add 3) (.int .u8 x44) <|
  St (a47.add 4) (.string x45) <|
  St (a47.add 5) (.bool x46) <|
  Dr <|
  LdI .i64 (a47.add 1) fun x48 =>
  LdI .u8 (a47.add 3) fun x49 =>
  Cl Try.prog 11 [(.int .u8 x49)] false [.sc .sl] fun r50 =>
  Both (LdI .i64 (a47.add 1) fun x51 =>
  fun _ => ((.int .i64 x51) : Value) = (.int .i64 x48)) <|
  Cl Try.prog 10 [(.pointer r2.1), (.int .i64 x48), (.slice r50.1.p r50.1.len r50.1.cap)] false [.sc (.i .i64)] fun r52 =>
  Br ((r52.1 : Int) == 0) (
  Dr <|
  LdI .i64 (a47.add 1) fun x53 =>
  LdI .u8 (a47.add 3) fun x54 =>
  Cl Try.prog 11 [(.int .u8 x54)] false [.sc .sl] fun r55 =>
  Both (LdI .i64 (a47.add 1) fun x56 =>
  fun _ => ((.int .i64 x56) : Value) = (.int .i64 x53)) <|
  BtoS r55.1 fun s57 =>
  IxR a6 12 x53 1 fun a58 =>
  St a58 (.string s57) <|
  J38 ()) (
  J38 ())) (
  Cl Try.prog 13 [(.pointer r2.1), (.string p_mask)] true [] fun r59 =>
  Cl Try.prog 14 [(.pointer r2.1)] true [] fun r60 =>
  Lp (σ := Bool × Int × Unit) (fun L61 s62 =>
  Br (decide ((s62.2.1 : Int) < 12)) (
  Cl Try.prog 15 [(.pointer r2.1), (.int .i64 s62.2.1)] true [.sc .sl, .sc (.i .i64)] fun r63 =>
  Jp (σ := Bool × Unit) (fun s65 =>
  Br s65.1 (
  R (false, ())) (
  L61 (s62.1, (w64 (s62.2.1 + 1)), ()))) fun J64 =>
  Dr <|
  Br ((r63.2.1 : Int) != 0) (
  J64 (true, ())) (
  BtoS r63.1 fun s66 =>
  IxR a5 12 s62.2.1 1 fun a67 =>
  LdS a67 fun x68 =>
  Br (!(seq s66 x68)) (
  IxR a6 12 s62.2.1 1 fun a69 =>
  LdS a69 fun x70 =>
  Br (seq x70 (BA [])) (
  J64 (true, ())) (
  BtoS r63.1 fun s71 =>
  IxR a6 12 s62.2.1 1 fun a72 =>
  LdS a72 fun x73 =>
  J64 ((!(seq s71 x73)), ()))) (
  J64 (false, ())))) (
  Br r1.1 (
  Cl Try.prog 16 [(.pointer r2.1)] false [.sc .sl] fun r74 =>
  R (((((r74.1.len : Nat) : Int) : Int) == 0), ())) (
  R (false, ())))) (false, 0, ()))) (0, ())))) (0, ()))) (0, ()))) fun J3 =>
  Br (Option.isNone r2.1) (
  J3 (true, ())) (
  J3 (((r2.2.1 : Int) != 0), ()))
def sumpterlaw06_DiskSafe_ann : Ann := .seq .leaf (.seq .leaf (.seq .leaf (.seq (.seq (.join [(30, .sc .b)] .leaf) (.cond (.seq .leaf .leaf) .leaf)) (.seq .leaf (.seq (.seq .leaf (.block (.loop [(31, .sc (.i .i64))] (.seq .leaf (.seq (.cond .leaf .leaf) (.seq (.block (.seq .leaf .leaf)) .leaf)))))) (.seq (.seq .leaf (.block (.loop [(41, .sc (.i .i64))] (.seq .leaf (.seq (.cond .leaf .leaf) (.seq (.join [] (.block (.seq .leaf (.seq .leaf (.cond .leaf .leaf))))) .leaf)))))) (.seq (.seq .leaf (.cond (.seq .leaf .leaf) .leaf)) (.seq (.seq .leaf (.block (.loop [(66, .sc (.i .i64))] (.seq .leaf (.seq (.cond .leaf .leaf) (.seq (.join [] (.block (.seq .leaf (.seq .leaf (.cond .leaf .leaf))))) .leaf)))))) (.seq .leaf (.seq .leaf (.seq (.seq .leaf (.block (.loop [(6, .sc .b), (91, .sc (.i .i64))] (.seq .leaf (.seq (.cond .leaf .leaf) (.seq (.block (.seq .leaf (.seq .leaf (.seq (.join [(123, .sc .b)] .leaf) (.cond (.seq .leaf .leaf) .leaf))))) .leaf)))))) (.seq .leaf .leaf))))))))))))
set_option maxRecDepth 100000 in
theorem sumpterlaw06_DiskSafe_den (p_first : Sl) (p_then : Sl) (p_mask : ByteArray) (R : TR [.sc .b] → Pr) : den Try.prog sumpterlaw06_DiskSafe_ann (Try.f3.body.getD .skip) (retQ Try.prog Try.f3.results.toList false [.sc .b] R) [] (env0 132 [(.slice p_first.p p_first.len p_first.cap), (.slice p_then.p p_then.len p_then.cap), (.string p_mask)]) = sumpterlaw06_DiskSafe p_first p_then p_mask R := by
  kernel_rfl
set_option maxRecDepth 100000 in
theorem sumpterlaw06_DiskSafe_call (p_first : Sl) (p_then : Sl) (p_mask : ByteArray) {R : TR [.sc .b] → Pr} {w : World} (h : sumpterlaw06_DiskSafe p_first p_then p_mask R w) : Cl Try.prog 3 [(.slice p_first.p p_first.len p_first.cap), (.slice p_then.p p_then.len p_then.cap), (.string p_mask)] false [.sc .b] R w :=
  call_of (P := Try.prog) (tup := false) (rs := [.sc .b]) Try.checked.mixed sumpterlaw06_DiskSafe_ann (by kernel_rfl) Try.func3 (by kernel_rfl) Try.ntmps3 (by show Try.f3.results.size = 1; kernel_rfl) (by rw [← sumpterlaw06_DiskSafe_den] at h; exact h)

/-- sumpter/sumpterlaw06.DiskFuse -/
abbrev i_sumpterlaw06_DiskFuse : FuncId := 4
def sumpterlaw06_DiskFuse (p_n : Int) (p_l : Sl) (R : TR [.sc .b] → Pr) : Pr :=
  Cl Try.prog 8 [] false [.sc .b] fun r1 =>
  Cl Try.prog 9 [(.int .i64 12)] true [.sc .p, .sc (.i .i64)] fun r2 =>
  Jp (σ := Bool × Unit) (fun s4 =>
  Br s4.1 (
  R (false, ())) (
  Cl Try.prog 17 [(.int .i64 p_n)] false [.sc (.i .i64)] fun r5 =>
  Cl Try.prog 18 [(.pointer r2.1), (.int .i64 r5.1)] true [] fun r6 =>
  Lp (σ := Bool × Int × Int × Unit) (fun L7 s8 =>
  Br (decide ((s8.2.2.1 : Int) < ((p_l.len : Nat) : Int))) (
  Jp (σ := Bool × Int × Unit) (fun s10 =>
  L7 (s10.1, s10.2.1, (w64 (s8.2.2.1 + 1)), ())) fun J9 =>
  Ix p_l s8.2.2.1 6 fun a11 =>
  LdI .i64 (a11.add 0) fun x12 =>
  LdI .i64 (a11.add 1) fun x13 =>
  LdI .i64 (a11.add 2) fun x14 =>
  LdI .u8 (a11.add 3) fun x15 =>
  LdS (a11.add 4) fun x16 =>
  LdB (a11.add 5) fun x17 =>
  New #[(.int .i64 0), (.int .i64 0), (.int .i64 0), (.int .u8 0), (.string (BA [])), (.bool false)] 31 fun a18 =>
  St (a18.add 0) (.int .i64 x12) <|
  St (a18.add 1) (.int .i64 x13) <|
  St (a18.add 2) (.int .i64 x14) <|
  St (a18.add 3) (.int .u8 x15) <|
  St (a18.add 4) (.string x16) <|
  St (a18.add 5) (.bool x17) <|
  Jp (σ := Int × Unit) (fun s20 =>
  Br ((s20.1 : Int) == 0) (
  J9 (s8.1, (w64 (s8.2.1 + 1)), ())) (
  Jp (σ := Bool × Unit) (fun s22 =>
  Br s22.1 (
  R (false, ())) (
  J9 (s8.1, s8.2.1, ()))) fun J21 =>
  Br ((s20.1 : Int) != 60) (
  J21 (true, ())) (
  Br ((s8.2.1 : Int) != r5.1) (
  J21 (true, ())) (
  Cl Try.prog 19 [(.pointer r2.1)] false [.sc .b] fun r23 =>
  J21 (r23.1, ()))))) fun J19 =>
  LdI .i64 (a18.add 0) fun x24 =>
  Br ((x24 : Int) == 2) (
  Cl Try.prog 12 [(.pointer r2.1)] false [.sc (.i .i64)] fun r25 =>
  J19 (r25.1, ())) (
  Dr <|
  LdI .i64 (a18.add 1) fun x26 =>
  Req (12 ≠ (0 : Int)) <|
  Req (12 ≠ (0 : Int)) <|
  LdI .u8 (a18.add 3) fun x27 =>
  Cl Try.prog 11 [(.int .u8 x27)] false [.sc .sl] fun r28 =>
  Both (LdI .i64 (a18.add 1) fun x29 =>
  fun _ => ((.int .i64 x29) : Value) = (.int .i64 x26)) <|
  Cl Try.prog 10 [(.pointer r2.1), (.int .i64 ((w64 (((x26 : Int).tmod 12) + 12)).tmod 12)), (.slice r28.1.p r28.1.len r28.1.cap)] false [.sc (.i .i64)] fun r30 =>
  J19 (r30.1, ()))) (
  Br r1.1 (
  R (((s8.2.1 : Int) == (if (((p_l.len : Nat) : Int) : Int) < r5.1 then ((p_l.len : Nat) : Int) else r5.1)), ())) (
  R (false, ())))) (false, 0, 0, ()))) fun J3 =>
  Br (Option.isNone r2.1) (
  J3 (true, ())) (
  J3 (((r2.2.1 : Int) != 0), ()))
def sumpterlaw06_DiskFuse_ann : Ann := .seq .leaf (.seq .leaf (.seq .leaf (.seq (.seq (.join [(22, .sc .b)] .leaf) (.cond (.seq .leaf .leaf) .leaf)) (.seq .leaf (.seq .leaf (.seq .leaf (.seq (.seq .leaf (.block (.loop [(4, .sc .b), (8, .sc (.i .i64)), (30, .sc (.i .i64))] (.seq .leaf (.seq (.cond .leaf .leaf) (.seq (.join [(4, .sc .b), (8, .sc (.i .i64))] (.block (.seq .leaf (.seq .leaf (.seq (.join [(11, .sc (.i .i64))] (.seq .leaf (.cond .leaf .leaf))) (.block (.seq .leaf (.cond .leaf (.seq (.join [(54, .sc .b)] .leaf) (.cond (.seq .leaf .leaf) .leaf)))))))))) .leaf)))))) (.seq .leaf .leaf))))))))
set_option maxRecDepth 100000 in
theorem sumpterlaw06_DiskFuse_den (p_n : Int) (p_l : Sl) (R : TR [.sc .b] → Pr) : den Try.prog sumpterlaw06_DiskFuse_ann (Try.f4.body.getD .skip) (retQ Try.prog Try.f4.results.toList false [.sc .b] R) [] (env0 76 [(.int .i64 p_n), (.slice p_l.p p_l.len p_l.cap)]) = sumpterlaw06_DiskFuse p_n p_l R := by
  kernel_rfl
set_option maxRecDepth 100000 in
theorem sumpterlaw06_DiskFuse_call (p_n : Int) (p_l : Sl) {R : TR [.sc .b] → Pr} {w : World} (h : sumpterlaw06_DiskFuse p_n p_l R w) : Cl Try.prog 4 [(.int .i64 p_n), (.slice p_l.p p_l.len p_l.cap)] false [.sc .b] R w :=
  call_of (P := Try.prog) (tup := false) (rs := [.sc .b]) Try.checked.mixed sumpterlaw06_DiskFuse_ann (by kernel_rfl) Try.func4 (by kernel_rfl) Try.ntmps4 (by show Try.f4.results.size = 1; kernel_rfl) (by rw [← sumpterlaw06_DiskFuse_den] at h; exact h)

/-- sumpter/sumpterlaw06.DiskWaits -/
abbrev i_sumpterlaw06_DiskWaits : FuncId := 5
def sumpterlaw06_DiskWaits (p_l : Sl) (R : TR [.sc .b] → Pr) : Pr :=
  Cl Try.prog 8 [] false [.sc .b] fun r1 =>
  Cl Try.prog 9 [(.int .i64 12)] true [.sc .p, .sc (.i .i64)] fun r2 =>
  Jp (σ := Bool × Unit) (fun s4 =>
  Br s4.1 (
  Br r1.1 (
  R ((!(Option.isNone r2.1)), ())) (
  R (false, ()))) (
  New #[(.string (BA [])), (.string (BA [])), (.string (BA [])), (.string (BA [])), (.string (BA [])), (.string (BA [])), (.string (BA [])), (.string (BA [])), (.string (BA [])), (.string (BA [])), (.string (BA [])), (.string (BA []))] 28 fun a5 =>
  New #[(.bool false), (.bool false), (.bool false), (.bool false), (.bool false), (.bool false), (.bool false), (.bool false), (.bool false), (.bool false), (.bool false), (.bool false)] 44 fun a6 =>
  Lp (σ := Int × Unit) (fun L7 s8 =>
  Br (decide ((s8.1 : Int) < 12)) (
  Mk 5 1 1 (zc Try.prog 5) 64 64 fun r9 =>
  BtoS r9 fun s10 =>
  IxR a5 12 s8.1 1 fun a11 =>
  St a11 (.string s10) <|
  L7 ((w64 (s8.1 + 1)), ())) (
  Lp (σ := Bool × Int × Unit) (fun L12 s13 =>
  Br (decide ((s13.2.1 : Int) < ((p_l.len : Nat) : Int))) (
  Jp (σ := Bool × Unit) (fun s15 =>
  L12 (s15.1, (w64 (s13.2.1 + 1)), ())) fun J14 =>
  Ix p_l s13.2.1 6 fun a16 =>
  LdI .i64 (a16.add 0) fun x17 =>
  LdI .i64 (a16.add 1) fun x18 =>
  LdI .i64 (a16.add 2) fun x19 =>
  LdI .u8 (a16.add 3) fun x20 =>
  LdS (a16.add 4) fun x21 =>
  LdB (a16.add 5) fun x22 =>
  New #[(.int .i64 0), (.int .i64 0), (.int .i64 0), (.int .u8 0), (.string (BA [])), (.bool false)] 31 fun a23 =>
  St (a23.add 0) (.int .i64 x17) <|
  St (a23.add 1) (.int .i64 x18) <|
  St (a23.add 2) (.int .i64 x19) <|
  St (a23.add 3) (.int .u8 x20) <|
  St (a23.add 4) (.string x21) <|
  St (a23.add 5) (.bool x22) <|
  LdI .i64 (a23.add 0) fun x24 =>
  Br ((x24 : Int) == 2) (
  Cl Try.prog 12 [(.pointer r2.1)] false [.sc (.i .i64)] fun r25 =>
  Br ((r25.1 : Int) != 0) (
  R (false, ())) (
  St (a6.add 0) (.bool false) <|
  St (a6.add 1) (.bool false) <|
  St (a6.add 2) (.bool false) <|
  St (a6.add 3) (.bool false) <|
  St (a6.add 4) (.bool false) <|
  St (a6.add 5) (.bool false) <|
  St (a6.add 6) (.bool false) <|
  St (a6.add 7) (.bool false) <|
  St (a6.add 8) (.bool false) <|
  St (a6.add 9) (.bool false) <|
  St (a6.add 10) (.bool false) <|
  St (a6.add 11) (.bool false) <|
  J14 (s13.1, ()))) (
  LdI .i64 (a23.add 1) fun x26 =>
  Req (12 ≠ (0 : Int)) <|
  Req (12 ≠ (0 : Int)) <|
  LdI .u8 (a23.add 3) fun x27 =>
  Cl Try.prog 11 [(.int .u8 x27)] false [.sc .sl] fun r28 =>
  Cl Try.prog 10 [(.pointer r2.1), (.int .i64 ((w64 (((x26 : Int).tmod 12) + 12)).tmod 12)), (.slice r28.1.p r28.1.len r28.1.cap)] false [.sc (.i .i64)] fun r29 =>
  Br ((r29.1 : Int) != 0) (
  R (false, ())) (
  LdI .u8 (a23.add 3) fun x30 =>
  Cl Try.prog 11 [(.int .u8 x30)] false [.sc .sl] fun r31 =>
  BtoS r31.1 fun s32 =>
  IxR a5 12 ((w64 (((x26 : Int).tmod 12) + 12)).tmod 12) 1 fun a33 =>
  St a33 (.string s32) <|
  IxR a6 12 ((w64 (((x26 : Int).tmod 12) + 12)).tmod 12) 1 fun a34 =>
  St a34 (.bool true) <|
  J14 (s13.1, ())))) (
  LdB (a6.add 0) fun x35 =>
  LdB (a6.add 1) fun x36 =>
  LdB (a6.add 2) fun x37 =>
  LdB (a6.add 3) fun x38 =>
  LdB (a6.add 4) fun x39 =>
  LdB (a6.add 5) fun x40 =>
  LdB (a6.add 6) fun x41 =>
  LdB (a6.add 7) fun x42 =>
  LdB (a6.add 8) fun x43 =>
  LdB (a6.add 9) fun x44 =>
  LdB (a6.add 10) fun x45 =>
  LdB (a6.add 11) fun x46 =>
  Lp (σ := Bool × Sl × Int × Unit) (fun L47 s48 =>
  Br (decide ((s48.2.2.1 : Int) < 12)) (
  IxG [(.bool x35), (.bool x36), (.bool x37), (.bool x38), (.bool x39), (.bool x40), (.bool x41), (.bool x42), (.bool x43), (.bool x44), (.bool x45), (.bool x46)] 12 s48.2.2.1 1 fun g49 =>
  Ty .b g49 fun x50 =>
  Jp (σ := Sl × Unit) (fun s52 =>
  Cl Try.prog 15 [(.pointer r2.1), (.int .i64 s48.2.2.1)] true [.sc .sl, .sc (.i .i64)] fun r53 =>
  Jp (σ := Bool × Unit) (fun s55 =>
  Br s55.1 (
  R (false, ())) (
  L47 (s48.1, s52.1, (w64 (s48.2.2.1 + 1)), ()))) fun J54 =>
  Dr <|
  Br ((r53.2.1 : Int) != 0) (
  J54 (true, ())) (
  BtoS r53.1 fun s56 =>
  IxR a5 12 s48.2.2.1 1 fun a57 =>
  LdS a57 fun x58 =>
  J54 ((!(seq s56 x58)), ()))) fun J51 =>
  Br x50 (
  New #[(.int .i64 s48.2.2.1)] 3 fun a59 =>
  App 3 1 8 (zc Try.prog 3) s48.2.1 1 (srcS (some a59) 1 1) fun r60 =>
  J51 (r60, ())) (
  J51 (s48.2.1, ()))) (
  Cl Try.prog 16 [(.pointer r2.1)] false [.sc .sl] fun r61 =>
  Br ((((r61.1.len : Nat) : Int) : Int) != ((s48.2.1.len : Nat) : Int)) (
  R (false, ())) (
  Lp (σ := Bool × Int × Unit) (fun L62 s63 =>
  Br (decide ((s63.2.1 : Int) < ((r61.1.len : Nat) : Int))) (
  Dr <|
  Ix r61.1 s63.2.1 1 fun a64 =>
  LdI .i64 a64 fun x65 =>
  Ix s48.2.1 s63.2.1 1 fun a66 =>
  LdI .i64 a66 fun x67 =>
  Br ((x65 : Int) != x67) (
  R (false, ())) (
  L62 (s63.1, (w64 (s63.2.1 + 1)), ()))) (
  R (r1.1, ()))) (s48.1, 0, ())))) (s13.1, ⟨none, 0, 0⟩, 0, ()))) (false, 0, ()))) (0, ()))) fun J3 =>
  Br (Option.isNone r2.1) (
  J3 (true, ())) (
  Br ((r2.2.1 : Int) != 0) (
  J3 (true, ())) (
  J3 ((decide ((((p_l.len : Nat) : Int) : Int) > 100)), ())))
def sumpterlaw06_DiskWaits_ann : Ann := .seq .leaf (.seq .leaf (.seq .leaf (.seq (.seq (.join [(34, .sc .b)] .leaf) (.cond (.seq .leaf .leaf) .leaf)) (.seq .leaf (.seq .leaf (.seq (.seq .leaf (.block (.loop [(40, .sc (.i .i64))] (.seq .leaf (.seq (.cond .leaf .leaf) (.seq (.block (.seq .leaf .leaf)) .leaf)))))) (.seq (.seq .leaf (.block (.loop [(2, .sc .b), (50, .sc (.i .i64))] (.seq .leaf (.seq (.cond .leaf .leaf) (.seq (.join [(2, .sc .b)] (.block (.seq .leaf (.seq (.seq .leaf (.cond (.seq (.seq .leaf (.cond (.seq .leaf .leaf) .leaf)) (.seq .leaf .leaf)) .leaf)) (.seq .leaf (.seq (.seq .leaf (.cond (.seq .leaf .leaf) .leaf)) (.seq .leaf .leaf))))))) .leaf)))))) (.seq .leaf (.seq (.seq .leaf (.block (.loop [(2, .sc .b), (12, .sc .sl), (83, .sc (.i .i64))] (.seq .leaf (.seq (.cond .leaf .leaf) (.seq (.block (.seq .leaf (.seq (.join [(12, .sc .sl)] (.seq .leaf (.cond .leaf .leaf))) (.seq .leaf (.seq (.join [(107, .sc .b)] .leaf) (.cond (.seq .leaf .leaf) .leaf)))))) .leaf)))))) (.seq .leaf (.seq (.seq .leaf (.cond (.seq .leaf .leaf) .leaf)) (.seq (.seq .leaf (.block (.loop [(2, .sc .b), (118, .sc (.i .i64))] (.seq .leaf (.seq (.cond .leaf .leaf) (.seq (.block (.seq .leaf (.seq .leaf (.cond (.seq .leaf .leaf) .leaf)))) .leaf)))))) (.seq .leaf .leaf)))))))))))))
set_option maxRecDepth 100000 in
theorem sumpterlaw06_DiskWaits_den (p_l : Sl) (R : TR [.sc .b] → Pr) : den Try.prog sumpterlaw06_DiskWaits_ann (Try.f5.body.getD .skip) (retQ Try.prog Try.f5.results.toList false [.sc .b] R) [] (env0 132 [(.slice p_l.p p_l.len p_l.cap)]) = sumpterlaw06_DiskWaits p_l R := by
  kernel_rfl
set_option maxRecDepth 100000 in
theorem sumpterlaw06_DiskWaits_call (p_l : Sl) {R : TR [.sc .b] → Pr} {w : World} (h : sumpterlaw06_DiskWaits p_l R w) : Cl Try.prog 5 [(.slice p_l.p p_l.len p_l.cap)] false [.sc .b] R w :=
  call_of (P := Try.prog) (tup := false) (rs := [.sc .b]) Try.checked.mixed sumpterlaw06_DiskWaits_ann (by kernel_rfl) Try.func5 (by kernel_rfl) Try.ntmps5 (by show Try.f5.results.size = 1; kernel_rfl) (by rw [← sumpterlaw06_DiskWaits_den] at h; exact h)

/-- sumpter/sumpterlaw06.DiskClone -/
abbrev i_sumpterlaw06_DiskClone : FuncId := 6
def sumpterlaw06_DiskClone (p_first : Sl) (p_one : Sl) (p_two : Sl) (R : TR [.sc .b] → Pr) : Pr :=
  Cl Try.prog 8 [] false [.sc .b] fun r1 =>
  Cl Try.prog 9 [(.int .i64 12)] true [.sc .p, .sc (.i .i64)] fun r2 =>
  Jp (σ := Bool × Unit) (fun s4 =>
  Br s4.1 (
  Br r1.1 (
  R ((!(Option.isNone r2.1)), ())) (
  R (false, ()))) (
  Cl Try.prog 20 [(.pointer r2.1), (.slice p_first.p p_first.len p_first.cap)] true [] fun r5 =>
  Cl Try.prog 21 [(.pointer r2.1)] false [.sc .p] fun r6 =>
  Cl Try.prog 21 [(.pointer r2.1)] false [.sc .p] fun r7 =>
  Jp (σ := Bool × Unit) (fun s9 =>
  Br s9.1 (
  R (false, ())) (
  Cl Try.prog 20 [(.pointer r2.1), (.slice p_one.p p_one.len p_one.cap)] true [] fun r10 =>
  Cl Try.prog 20 [(.pointer r6.1), (.slice p_two.p p_two.len p_two.cap)] true [] fun r11 =>
  Cl Try.prog 20 [(.pointer r7.1), (.slice p_one.p p_one.len p_one.cap)] true [] fun r12 =>
  Cl Try.prog 14 [(.pointer r2.1)] true [] fun r13 =>
  Cl Try.prog 14 [(.pointer r7.1)] true [] fun r14 =>
  Lp (σ := Bool × Int × Unit) (fun L15 s16 =>
  Br (decide ((s16.2.1 : Int) < 12)) (
  Cl Try.prog 15 [(.pointer r2.1), (.int .i64 s16.2.1)] true [.sc .sl, .sc (.i .i64)] fun r17 =>
  Cl Try.prog 15 [(.pointer r7.1), (.int .i64 s16.2.1)] true [.sc .sl, .sc (.i .i64)] fun r18 =>
  Jp (σ := Bool × Unit) (fun s20 =>
  Br s20.1 (
  R (false, ())) (
  L15 (s16.1, (w64 (s16.2.1 + 1)), ()))) fun J19 =>
  Br ((r17.2.1 : Int) != r18.2.1) (
  J19 (true, ())) (
  BtoS r17.1 fun s21 =>
  BtoS r18.1 fun s22 =>
  J19 ((!(seq s21 s22)), ()))) (
  R (r1.1, ()))) (false, 0, ()))) fun J8 =>
  Br (Option.isNone r6.1) (
  J8 (true, ())) (
  J8 ((Option.isNone r7.1), ())))) fun J3 =>
  Br (Option.isNone r2.1) (
  J3 (true, ())) (
  Br ((r2.2.1 : Int) != 0) (
  J3 (true, ())) (
  J3 ((decide (((w64 ((w64 (((p_first.len : Nat) : Int) + ((p_one.len : Nat) : Int))) + ((p_two.len : Nat) : Int))) : Int) > 150)), ())))
def sumpterlaw06_DiskClone_ann : Ann := .seq .leaf (.seq .leaf (.seq .leaf (.seq (.seq (.join [(39, .sc .b)] .leaf) (.cond (.seq .leaf .leaf) .leaf)) (.seq .leaf (.seq .leaf (.seq .leaf (.seq .leaf (.seq (.seq (.join [(58, .sc .b)] .leaf) (.cond (.seq .leaf .leaf) .leaf)) (.seq .leaf (.seq .leaf (.seq .leaf (.seq .leaf (.seq .leaf (.seq (.seq .leaf (.block (.loop [(6, .sc .b), (75, .sc (.i .i64))] (.seq .leaf (.seq (.cond .leaf .leaf) (.seq (.block (.seq .leaf (.seq .leaf (.seq .leaf (.seq (.join [(99, .sc .b)] .leaf) (.cond (.seq .leaf .leaf) .leaf)))))) .leaf)))))) (.seq .leaf .leaf)))))))))))))))
set_option maxRecDepth 100000 in
theorem sumpterlaw06_DiskClone_den (p_first : Sl) (p_one : Sl) (p_two : Sl) (R : TR [.sc .b] → Pr) : den Try.prog sumpterlaw06_DiskClone_ann (Try.f6.body.getD .skip) (retQ Try.prog Try.f6.results.toList false [.sc .b] R) [] (env0 102 [(.slice p_first.p p_first.len p_first.cap), (.slice p_one.p p_one.len p_one.cap), (.slice p_two.p p_two.len p_two.cap)]) = sumpterlaw06_DiskClone p_first p_one p_two R := by
  kernel_rfl
set_option maxRecDepth 100000 in
theorem sumpterlaw06_DiskClone_call (p_first : Sl) (p_one : Sl) (p_two : Sl) {R : TR [.sc .b] → Pr} {w : World} (h : sumpterlaw06_DiskClone p_first p_one p_two R w) : Cl Try.prog 6 [(.slice p_first.p p_first.len p_first.cap), (.slice p_one.p p_one.len p_one.cap), (.slice p_two.p p_two.len p_two.cap)] false [.sc .b] R w :=
  call_of (P := Try.prog) (tup := false) (rs := [.sc .b]) Try.checked.mixed sumpterlaw06_DiskClone_ann (by kernel_rfl) Try.func6 (by kernel_rfl) Try.ntmps6 (by show Try.f6.results.size = 1; kernel_rfl) (by rw [← sumpterlaw06_DiskClone_den] at h; exact h)

/-- sumpter/sumpterlaw06.DiskGoes -/
abbrev i_sumpterlaw06_DiskGoes : FuncId := 7
def sumpterlaw06_DiskGoes (p_sectors : Int) (p_l : Sl) (R : TR [.sc .b] → Pr) : Pr :=
  Cl Try.prog 8 [] false [.sc .b] fun r1 =>
  Cl Try.prog 9 [(.int .i64 p_sectors)] true [.sc .p, .sc (.i .i64)] fun r2 =>
  Cl Try.prog 22 [(.int .i64 p_sectors)] true [.sc .p, .sc (.i .i64)] fun r3 =>
  Jp (σ := Bool × Unit) (fun s5 =>
  Br s5.1 (
  R (false, ())) (
  Jp (σ := Bool × Unit) (fun s7 =>
  Br s7.1 (
  R (r1.1, ())) (
  Lp (σ := Bool × Option Addr × Int × Unit) (fun L8 s9 =>
  Br (decide ((s9.2.2.1 : Int) < ((p_l.len : Nat) : Int))) (
  Jp (σ := Bool × Option Addr × Unit) (fun s11 =>
  L8 (s11.1, s11.2.1, (w64 (s9.2.2.1 + 1)), ())) fun J10 =>
  Ix p_l s9.2.2.1 6 fun a12 =>
  LdI .i64 (a12.add 0) fun x13 =>
  LdI .i64 (a12.add 1) fun x14 =>
  LdI .i64 (a12.add 2) fun x15 =>
  LdI .u8 (a12.add 3) fun x16 =>
  LdS (a12.add 4) fun x17 =>
  LdB (a12.add 5) fun x18 =>
  New #[(.int .i64 0), (.int .i64 0), (.int .i64 0), (.int .u8 0), (.string (BA [])), (.bool false)] 31 fun a19 =>
  St (a19.add 0) (.int .i64 x13) <|
  St (a19.add 1) (.int .i64 x14) <|
  St (a19.add 2) (.int .i64 x15) <|
  St (a19.add 3) (.int .u8 x16) <|
  St (a19.add 4) (.string x17) <|
  St (a19.add 5) (.bool x18) <|
  Jp (σ := Bool × Unit) (fun s21 =>
  Jp (σ := Bool × Unit) (fun s23 =>
  Br s23.1 (
  R (false, ())) (
  LdB (a19.add 5) fun x24 =>
  Br x24 (
  Cl Try.prog 21 [(.pointer s9.2.1)] false [.sc .p] fun r25 =>
  Br (Option.isNone r25.1) (
  R (false, ())) (
  Cl Try.prog 11 [(.int .u8 99)] false [.sc .sl] fun r26 =>
  Cl Try.prog 10 [(.pointer s9.2.1), (.int .i64 0), (.slice r26.1.p r26.1.len r26.1.cap)] false [.sc (.i .i64)] fun r27 =>
  Cl Try.prog 12 [(.pointer s9.2.1)] false [.sc (.i .i64)] fun r28 =>
  J10 (s9.1, r25.1, ()))) (
  J10 (s9.1, s9.2.1, ())))) fun J22 =>
  Br (!s21.1) (
  J22 (true, ())) (
  Cl Try.prog 28 [(.pointer s9.2.1), (.pointer r3.1)] false [.sc .b] fun r29 =>
  J22 ((!r29.1), ()))) fun J20 =>
  LdI .i64 (a19.add 0) fun x30 =>
  Jp (σ := Bool × Unit) (fun s32 =>
  Br s32.1 (
  LdI .u8 (a19.add 3) fun x33 =>
  Cl Try.prog 11 [(.int .u8 x33)] false [.sc .sl] fun r34 =>
  Jp (σ := Sl × Unit) (fun s36 =>
  App 5 1 1 (zc Try.prog 5) ⟨none, 0, 0⟩ s36.1.len (srcS s36.1.p s36.1.len 1) fun r37 =>
  Jp (σ := Bool × Unit) (fun s39 =>
  Lp (σ := Int × Unit) (fun L40 s41 =>
  Br (decide ((s41.1 : Int) < ((s36.1.len : Nat) : Int))) (
  Ix s36.1 s41.1 1 fun a42 =>
  St a42 (.int .u8 255) <|
  L40 ((w64 (s41.1 + 1)), ())) (
  J20 (s39.1, ()))) (0, ())) fun J38 =>
  Dr <|
  LdI .i64 (a19.add 1) fun x43 =>
  LdI .i64 (a19.add 1) fun x44 =>
  Cl Try.prog 10 [(.pointer s9.2.1), (.int .i64 x43), (.slice s36.1.p s36.1.len s36.1.cap)] false [.sc (.i .i64)] fun r45 =>
  Both (LdI .i64 (a19.add 1) fun x46 =>
  fun _ => ((.int .i64 x46) : Value) = (.int .i64 x44)) <|
  Cl Try.prog 23 [(.pointer r3.1), (.int .i64 x44), (.slice r37.p r37.len r37.cap)] false [.sc (.i .i64)] fun r47 =>
  Br ((r45.1 : Int) == r47.1) (
  BtoS s36.1 fun s48 =>
  BtoS r37 fun s49 =>
  J38 ((seq s48 s49), ())) (
  J38 (false, ()))) fun J35 =>
  LdI .i64 (a19.add 0) fun x50 =>
  Br ((x50 : Int) == 1) (
  LdI .i64 (a19.add 2) fun x51 =>
  Cl Try.prog 17 [(.int .i64 x51)] false [.sc (.i .i64)] fun r52 =>
  Mk 5 1 1 (zc Try.prog 5) r52.1 r52.1 fun r53 =>
  J35 (r53, ())) (
  J35 (r34.1, ()))) (
  Br ((x30 : Int) == 2) (
  Cl Try.prog 12 [(.pointer s9.2.1)] false [.sc (.i .i64)] fun r54 =>
  Cl Try.prog 24 [(.pointer r3.1)] false [.sc (.i .i64)] fun r55 =>
  J20 (((r54.1 : Int) == r55.1), ())) (
  Br ((x30 : Int) == 3) (
  LdI .i64 (a19.add 1) fun x56 =>
  Cl Try.prog 18 [(.pointer s9.2.1), (.int .i64 x56)] true [] fun r57 =>
  LdI .i64 (a19.add 1) fun x58 =>
  Cl Try.prog 25 [(.pointer r3.1), (.int .i64 x58)] true [] fun r59 =>
  J20 (true, ())) (
  Br ((x30 : Int) == 4) (
  LdS (a19.add 4) fun x60 =>
  Cl Try.prog 13 [(.pointer s9.2.1), (.string x60)] true [] fun r61 =>
  LdS (a19.add 4) fun x62 =>
  Cl Try.prog 26 [(.pointer r3.1), (.string x62)] true [] fun r63 =>
  J20 (true, ())) (
  Br ((x30 : Int) == 5) (
  Cl Try.prog 14 [(.pointer s9.2.1)] true [] fun r64 =>
  Cl Try.prog 27 [(.pointer r3.1)] true [] fun r65 =>
  J20 (true, ())) (
  J20 (true, ()))))))) fun J31 =>
  Br ((x30 : Int) == 0) (
  J31 (((x30 : Int) == 0), ())) (
  J31 (((x30 : Int) == 1), ()))) (
  R (r1.1, ()))) (false, r2.1, 0, ()))) fun J6 =>
  Br (Option.isNone r2.1) (
  J6 (true, ())) (
  Br (decide ((p_sectors : Int) > 40)) (
  J6 (true, ())) (
  J6 ((decide ((((p_l.len : Nat) : Int) : Int) > 100)), ()))))) fun J4 =>
  Br ((r2.2.1 : Int) != r3.2.1) (
  J4 (true, ())) (
  J4 ((!((Option.isNone r2.1) == (Option.isNone r3.1))), ()))
def sumpterlaw06_DiskGoes_ann : Ann := .seq .leaf (.seq .leaf (.seq .leaf (.seq .leaf (.seq (.seq (.join [(37, .sc .b)] .leaf) (.cond (.seq .leaf .leaf) .leaf)) (.seq (.seq (.join [(48, .sc .b)] .leaf) (.cond (.seq .leaf .leaf) .leaf)) (.seq (.seq .leaf (.block (.loop [(4, .sc .b), (6, .sc .p), (52, .sc (.i .i64))] (.seq .leaf (.seq (.cond .leaf .leaf) (.seq (.join [(4, .sc .b), (6, .sc .p)] (.block (.seq .leaf (.seq .leaf (.seq (.join [(12, .sc .b)] (.seq .leaf (.block (.seq (.join [(58, .sc .b)] (.seq .leaf (.cond .leaf .leaf))) (.cond (.seq .leaf (.seq (.join [(13, .sc .sl)] (.seq .leaf (.cond .leaf .leaf))) (.seq .leaf (.seq (.join [(12, .sc .b)] .leaf) (.seq .leaf (.block (.loop [(93, .sc (.i .i64))] (.seq .leaf (.seq (.cond .leaf .leaf) (.seq (.block (.seq .leaf .leaf)) .leaf)))))))))) (.seq .leaf (.cond .leaf (.seq .leaf (.cond (.seq .leaf .leaf) (.seq .leaf (.cond (.seq .leaf .leaf) (.seq .leaf (.cond (.seq .leaf .leaf) .leaf))))))))))))) (.seq (.seq (.join [(140, .sc .b)] .leaf) (.cond (.seq .leaf .leaf) .leaf)) (.seq .leaf (.cond (.seq .leaf (.seq (.seq .leaf (.cond (.seq .leaf .leaf) .leaf)) (.seq .leaf (.seq .leaf .leaf)))) .leaf)))))))) .leaf)))))) (.seq .leaf .leaf)))))))
set_option maxRecDepth 100000 in
theorem sumpterlaw06_DiskGoes_den (p_sectors : Int) (p_l : Sl) (R : TR [.sc .b] → Pr) : den Try.prog sumpterlaw06_DiskGoes_ann (Try.f7.body.getD .skip) (retQ Try.prog Try.f7.results.toList false [.sc .b] R) [] (env0 155 [(.int .i64 p_sectors), (.slice p_l.p p_l.len p_l.cap)]) = sumpterlaw06_DiskGoes p_sectors p_l R := by
  kernel_rfl
set_option maxRecDepth 100000 in
theorem sumpterlaw06_DiskGoes_call (p_sectors : Int) (p_l : Sl) {R : TR [.sc .b] → Pr} {w : World} (h : sumpterlaw06_DiskGoes p_sectors p_l R w) : Cl Try.prog 7 [(.int .i64 p_sectors), (.slice p_l.p p_l.len p_l.cap)] false [.sc .b] R w :=
  call_of (P := Try.prog) (tup := false) (rs := [.sc .b]) Try.checked.mixed sumpterlaw06_DiskGoes_ann (by kernel_rfl) Try.func7 (by kernel_rfl) Try.ntmps7 (by show Try.f7.results.size = 1; kernel_rfl) (by rw [← sumpterlaw06_DiskGoes_den] at h; exact h)

/-- sumpter/sumpterlaw06.live -/
abbrev i_sumpterlaw06_live : FuncId := 8
def sumpterlaw06_live  (R : TR [.sc .b] → Pr) : Pr :=
  Cl Try.prog 9 [(.int .i64 4)] true [.sc .p, .sc (.i .i64)] fun r1 =>
  Jp (σ := Bool × Unit) (fun s3 =>
  Br s3.1 (
  R (false, ())) (
  Cl Try.prog 11 [(.int .u8 7)] false [.sc .sl] fun r4 =>
  Cl Try.prog 10 [(.pointer r1.1), (.int .i64 1), (.slice r4.1.p r4.1.len r4.1.cap)] false [.sc (.i .i64)] fun r5 =>
  Cl Try.prog 11 [(.int .u8 9)] false [.sc .sl] fun r6 =>
  Cl Try.prog 10 [(.pointer r1.1), (.int .i64 3), (.slice r6.1.p r6.1.len r6.1.cap)] false [.sc (.i .i64)] fun r7 =>
  Cl Try.prog 16 [(.pointer r1.1)] false [.sc .sl] fun r8 =>
  Cl Try.prog 13 [(.pointer r1.1), (.string (BA [0, 1]))] true [] fun r9 =>
  Cl Try.prog 19 [(.pointer r1.1)] false [.sc .b] fun r10 =>
  Cl Try.prog 14 [(.pointer r1.1)] true [] fun r11 =>
  Cl Try.prog 15 [(.pointer r1.1), (.int .i64 1)] true [.sc .sl, .sc (.i .i64)] fun r12 =>
  Cl Try.prog 15 [(.pointer r1.1), (.int .i64 3)] true [.sc .sl, .sc (.i .i64)] fun r13 =>
  Cl Try.prog 18 [(.pointer r1.1), (.int .i64 1)] true [] fun r14 =>
  Cl Try.prog 11 [(.int .u8 1)] false [.sc .sl] fun r15 =>
  Cl Try.prog 10 [(.pointer r1.1), (.int .i64 2), (.slice r15.1.p r15.1.len r15.1.cap)] false [.sc (.i .i64)] fun r16 =>
  Cl Try.prog 12 [(.pointer r1.1)] false [.sc (.i .i64)] fun r17 =>
  Cl Try.prog 15 [(.pointer r1.1), (.int .i64 2)] true [.sc .sl, .sc (.i .i64)] fun r18 =>
  Dr <|
  Br ((((r8.1.len : Nat) : Int) : Int) == 2) (
  Ix r8.1 1 1 fun a19 =>
  LdI .i64 a19 fun x20 =>
  Br ((x20 : Int) == 3) (
  Br (!r10.1) (
  Br ((((r12.1.len : Nat) : Int) : Int) == 64) (
  Ix r12.1 1 1 fun a21 =>
  LdI .u8 a21 fun x22 =>
  Br ((x22 : Int) == 0) (
  Br ((r12.2.1 : Int) == 0) (
  BtoS r13.1 fun s23 =>
  Cl Try.prog 11 [(.int .u8 9)] false [.sc .sl] fun r24 =>
  Both (BtoS r13.1 fun s25 =>
  fun _ => ((.string s25) : Value) = (.string s23)) <|
  BtoS r24.1 fun s26 =>
  Br (seq s23 s26) (
  Br ((r13.2.1 : Int) == 0) (
  Br ((r16.1 : Int) == 0) (
  Br ((r17.1 : Int) == 60) (
  R (((r18.2.1 : Int) == 60), ())) (
  R (false, ()))) (
  R (false, ()))) (
  R (false, ()))) (
  R (false, ()))) (
  R (false, ()))) (
  R (false, ()))) (
  R (false, ()))) (
  R (false, ()))) (
  R (false, ()))) (
  R (false, ())))) fun J2 =>
  Br (Option.isNone r1.1) (
  J2 (true, ())) (
  J2 (((r1.2.1 : Int) != 0), ()))
def sumpterlaw06_live_ann : Ann := .seq .leaf (.seq .leaf (.seq (.seq (.join [(22, .sc .b)] .leaf) (.cond (.seq .leaf .leaf) .leaf)) (.seq .leaf (.seq .leaf (.seq .leaf (.seq .leaf (.seq .leaf (.seq .leaf (.seq .leaf (.seq .leaf (.seq .leaf (.seq .leaf (.seq .leaf (.seq .leaf (.seq .leaf .leaf)))))))))))))))
set_option maxRecDepth 100000 in
theorem sumpterlaw06_live_den  (R : TR [.sc .b] → Pr) : den Try.prog sumpterlaw06_live_ann (Try.f8.body.getD .skip) (retQ Try.prog Try.f8.results.toList false [.sc .b] R) [] (env0 110 []) = sumpterlaw06_live  R := by
  kernel_rfl
set_option maxRecDepth 100000 in
theorem sumpterlaw06_live_call  {R : TR [.sc .b] → Pr} {w : World} (h : sumpterlaw06_live  R w) : Cl Try.prog 8 [] false [.sc .b] R w :=
  call_of (P := Try.prog) (tup := false) (rs := [.sc .b]) Try.checked.mixed sumpterlaw06_live_ann (by kernel_rfl) Try.func8 (by kernel_rfl) Try.ntmps8 (by show Try.f8.results.size = 1; kernel_rfl) (by rw [← sumpterlaw06_live_den] at h; exact h)

/-- sumpter/disk.New -/
abbrev i_disk_New : FuncId := 9
def disk_New (p_sectors : Int) (R : TR [.sc .p, .sc (.i .i64)] → Pr) : Pr :=
  Jp (σ := Bool × Unit) (fun s2 =>
  Br s2.1 (
  R (none, 1, ())) (
  Mk 59 64 64 (zc Try.prog 59) p_sectors p_sectors fun r3 =>
  NewObj (.map #[] 0) fun m4 =>
  New #[(.slice r3.p r3.len r3.cap), (.map (some m4)), (.int .i64 (-1)), (.bool false)] 56 fun a5 =>
  R ((some a5), 0, ()))) fun J1 =>
  Br (decide ((p_sectors : Int) < 1)) (
  J1 (true, ())) (
  J1 ((decide ((p_sectors : Int) > 4096)), ()))
def disk_New_ann : Ann := .seq .leaf (.seq (.seq (.join [(9, .sc .b)] .leaf) (.cond (.seq .leaf .leaf) .leaf)) (.seq .leaf .leaf))
set_option maxRecDepth 100000 in
theorem disk_New_den (p_sectors : Int) (R : TR [.sc .p, .sc (.i .i64)] → Pr) : den Try.prog disk_New_ann (Try.f9.body.getD .skip) (retQ Try.prog Try.f9.results.toList true [.sc .p, .sc (.i .i64)] R) [] (env0 15 [(.int .i64 p_sectors)]) = disk_New p_sectors R := by
  kernel_rfl
set_option maxRecDepth 100000 in
theorem disk_New_call (p_sectors : Int) {R : TR [.sc .p, .sc (.i .i64)] → Pr} {w : World} (h : disk_New p_sectors R w) : Cl Try.prog 9 [(.int .i64 p_sectors)] true [.sc .p, .sc (.i .i64)] R w :=
  call_of (P := Try.prog) (tup := true) (rs := [.sc .p, .sc (.i .i64)]) Try.checked.mixed disk_New_ann (by kernel_rfl) Try.func9 (by kernel_rfl) Try.ntmps9 (by show Nat.beq Try.f9.results.size 1 = false; kernel_rfl) (by rw [← disk_New_den] at h; exact h)

/-- (*sumpter/disk.Disk).Write -/
abbrev i_disk_Disk_Write : FuncId := 10
def disk_Disk_Write (p_d : Option Addr) (p_i : Int) (p_b : Sl) (R : TR [.sc (.i .i64)] → Pr) : Pr :=
  Cl Try.prog 29 [(.pointer p_d), (.int .i64 p_i)] false [.sc (.i .i64)] fun r1 =>
  Br ((r1.1 : Int) != 0) (
  R (r1.1, ())) (
  Br ((((p_b.len : Nat) : Int) : Int) != 64) (
  R (2, ())) (
  Cl Try.prog 30 [(.pointer p_d)] false [.sc .b] fun r2 =>
  Br (!r2.1) (
  R (60, ())) (
  Dr <|
  Nn p_d fun a3 =>
  LdM (a3.add 1) fun x4 =>
  Req (64 ≤ p_b.len) <| Nn p_b.p fun a5 =>
  LdN 64 a5 fun l6 =>
  MSet (.int .i64) x4 (.int .i64 p_i) (.agg (l6).toArray) <|
  R (0, ()))))
def disk_Disk_Write_ann : Ann := .seq .leaf (.seq (.seq .leaf (.seq .leaf (.cond (.seq .leaf .leaf) .leaf))) (.seq (.seq .leaf (.cond (.seq .leaf .leaf) .leaf)) (.seq (.seq .leaf (.cond (.seq .leaf .leaf) .leaf)) (.seq .leaf (.seq .leaf .leaf)))))
set_option maxRecDepth 100000 in
theorem disk_Disk_Write_den (p_d : Option Addr) (p_i : Int) (p_b : Sl) (R : TR [.sc (.i .i64)] → Pr) : den Try.prog disk_Disk_Write_ann (Try.f10.body.getD .skip) (retQ Try.prog Try.f10.results.toList false [.sc (.i .i64)] R) [] (env0 28 [(.pointer p_d), (.int .i64 p_i), (.slice p_b.p p_b.len p_b.cap)]) = disk_Disk_Write p_d p_i p_b R := by
  kernel_rfl
set_option maxRecDepth 100000 in
theorem disk_Disk_Write_call (p_d : Option Addr) (p_i : Int) (p_b : Sl) {R : TR [.sc (.i .i64)] → Pr} {w : World} (h : disk_Disk_Write p_d p_i p_b R w) : Cl Try.prog 10 [(.pointer p_d), (.int .i64 p_i), (.slice p_b.p p_b.len p_b.cap)] false [.sc (.i .i64)] R w :=
  call_of (P := Try.prog) (tup := false) (rs := [.sc (.i .i64)]) Try.checked.mixed disk_Disk_Write_ann (by kernel_rfl) Try.func10 (by kernel_rfl) Try.ntmps10 (by show Try.f10.results.size = 1; kernel_rfl) (by rw [← disk_Disk_Write_den] at h; exact h)

/-- sumpter/sumpterlaw06.full -/
abbrev i_sumpterlaw06_full : FuncId := 11
def sumpterlaw06_full (p_v : Int) (R : TR [.sc .sl] → Pr) : Pr :=
  Mk 5 1 1 (zc Try.prog 5) 64 64 fun r1 =>
  Lp (σ := Int × Unit) (fun L2 s3 =>
  Br (decide ((s3.1 : Int) < ((r1.len : Nat) : Int))) (
  Ix r1 s3.1 1 fun a4 =>
  St a4 (.int .u8 (IntKind.u8.wrap (p_v + (IntKind.u8.wrap (s3.1))))) <|
  L2 ((w64 (s3.1 + 1)), ())) (
  R (r1, ()))) (0, ())
def sumpterlaw06_full_ann : Ann := .seq .leaf (.seq .leaf (.seq (.seq .leaf (.block (.loop [(8, .sc (.i .i64))] (.seq .leaf (.seq (.cond .leaf .leaf) (.seq (.block (.seq .leaf .leaf)) .leaf)))))) (.seq .leaf .leaf)))
set_option maxRecDepth 100000 in
theorem sumpterlaw06_full_den (p_v : Int) (R : TR [.sc .sl] → Pr) : den Try.prog sumpterlaw06_full_ann (Try.f11.body.getD .skip) (retQ Try.prog Try.f11.results.toList false [.sc .sl] R) [] (env0 20 [(.int .u8 p_v)]) = sumpterlaw06_full p_v R := by
  kernel_rfl
set_option maxRecDepth 100000 in
theorem sumpterlaw06_full_call (p_v : Int) {R : TR [.sc .sl] → Pr} {w : World} (h : sumpterlaw06_full p_v R w) : Cl Try.prog 11 [(.int .u8 p_v)] false [.sc .sl] R w :=
  call_of (P := Try.prog) (tup := false) (rs := [.sc .sl]) Try.checked.mixed sumpterlaw06_full_ann (by kernel_rfl) Try.func11 (by kernel_rfl) Try.ntmps11 (by show Try.f11.results.size = 1; kernel_rfl) (by rw [← sumpterlaw06_full_den] at h; exact h)

/-- (*sumpter/disk.Disk).Sync -/
abbrev i_disk_Disk_Sync : FuncId := 12
def disk_Disk_Sync (p_d : Option Addr) (R : TR [.sc (.i .i64)] → Pr) : Pr :=
  Jp (σ := Bool × Unit) (fun s2 =>
  Br s2.1 (
  R (60, ())) (
  Nn p_d fun a3 =>
  LdM (a3.add 1) fun x4 =>
  RgM x4 fun a5 =>
  Lp (σ := Unit) (fun L6 s7 =>
  NxM a5 (fun v8 v9 =>
  EnM a5 fun v10 v11 =>
  Ty (.i .i64) v10 fun x12 =>
  TyN v11 fun l13 =>
  New (zc Try.prog 59) 59 fun a14 =>
  StN 64 a14 l13 <|
  Jp (σ := Unit) (fun s16 =>
  Nn p_d fun a17 =>
  LdM (a17.add 1) fun x18 =>
  MDel (.int .i64) x18 (.int .i64 x12) <|
  L6 ()) fun J15 =>
  Dr <|
  Nn p_d fun a19 =>
  LdL (a19.add 0) fun x20 =>
  Ix x20 x12 64 fun a21 =>
  LdN 64 a21 fun l22 =>
  LdN 64 a14 fun l23 =>
  EqA Try.prog 5 64 l22 l23 fun b24 =>
  Br (!b24) (
  Dr <|
  Nn p_d fun a25 =>
  LdL (a25.add 0) fun x26 =>
  LdN 64 a14 fun l27 =>
  Ix x26 x12 64 fun a28 =>
  StN 64 a28 l27 <|
  J15 ()) (
  J15 ())) (
  R (0, ()))) ())) fun J1 =>
  Nn p_d fun a29 =>
  LdB (a29.add 3) fun x30 =>
  Br x30 (
  J1 (true, ())) (
  Cl Try.prog 30 [(.pointer p_d)] false [.sc .b] fun r31 =>
  J1 ((!r31.1), ()))
def disk_Disk_Sync_ann : Ann := .seq .leaf (.seq (.seq (.join [(13, .sc .b)] .leaf) (.cond (.seq .leaf .leaf) .leaf)) (.seq (.seq .leaf (.block (.loop [] (.seq .leaf (.seq (.cond .leaf .leaf) (.block (.seq .leaf (.seq (.join [] (.seq .leaf (.cond .leaf .leaf))) .leaf)))))))) (.seq .leaf .leaf)))
set_option maxRecDepth 100000 in
theorem disk_Disk_Sync_den (p_d : Option Addr) (R : TR [.sc (.i .i64)] → Pr) : den Try.prog disk_Disk_Sync_ann (Try.f12.body.getD .skip) (retQ Try.prog Try.f12.results.toList false [.sc (.i .i64)] R) [] (env0 45 [(.pointer p_d)]) = disk_Disk_Sync p_d R := by
  kernel_rfl
set_option maxRecDepth 100000 in
theorem disk_Disk_Sync_call (p_d : Option Addr) {R : TR [.sc (.i .i64)] → Pr} {w : World} (h : disk_Disk_Sync p_d R w) : Cl Try.prog 12 [(.pointer p_d)] false [.sc (.i .i64)] R w :=
  call_of (P := Try.prog) (tup := false) (rs := [.sc (.i .i64)]) Try.checked.mixed disk_Disk_Sync_ann (by kernel_rfl) Try.func12 (by kernel_rfl) Try.ntmps12 (by show Try.f12.results.size = 1; kernel_rfl) (by rw [← disk_Disk_Sync_den] at h; exact h)

/-- (*sumpter/disk.Disk).Crash -/
abbrev i_disk_Disk_Crash : FuncId := 13
def disk_Disk_Crash (p_d : Option Addr) (p_mask : ByteArray) (R : TR [] → Pr) : Pr :=
  Cl Try.prog 16 [(.pointer p_d)] false [.sc .sl] fun r1 =>
  Lp (σ := Int × Unit) (fun L2 s3 =>
  Br (decide ((s3.1 : Int) < ((r1.1.len : Nat) : Int))) (
  Ix r1.1 s3.1 1 fun a4 =>
  LdI .i64 a4 fun x5 =>
  Jp (σ := Unit) (fun s7 =>
  Nn p_d fun a8 =>
  LdM (a8.add 1) fun x9 =>
  MDel (.int .i64) x9 (.int .i64 x5) <|
  L2 ((w64 (s3.1 + 1)), ())) fun J6 =>
  Jp (σ := Bool × Unit) (fun s11 =>
  Br s11.1 (
  Dr <|
  Nn p_d fun a12 =>
  LdL (a12.add 0) fun x13 =>
  Nn p_d fun a14 =>
  LdM (a14.add 1) fun x15 =>
  LkN (.agg #[(.int .u8 0), (.int .u8 0), (.int .u8 0), (.int .u8 0), (.int .u8 0), (.int .u8 0), (.int .u8 0), (.int .u8 0), (.int .u8 0), (.int .u8 0), (.int .u8 0), (.int .u8 0), (.int .u8 0), (.int .u8 0), (.int .u8 0), (.int .u8 0), (.int .u8 0), (.int .u8 0), (.int .u8 0), (.int .u8 0), (.int .u8 0), (.int .u8 0), (.int .u8 0), (.int .u8 0), (.int .u8 0), (.int .u8 0), (.int .u8 0), (.int .u8 0), (.int .u8 0), (.int .u8 0), (.int .u8 0), (.int .u8 0), (.int .u8 0), (.int .u8 0), (.int .u8 0), (.int .u8 0), (.int .u8 0), (.int .u8 0), (.int .u8 0), (.int .u8 0), (.int .u8 0), (.int .u8 0), (.int .u8 0), (.int .u8 0), (.int .u8 0), (.int .u8 0), (.int .u8 0), (.int .u8 0), (.int .u8 0), (.int .u8 0), (.int .u8 0), (.int .u8 0), (.int .u8 0), (.int .u8 0), (.int .u8 0), (.int .u8 0), (.int .u8 0), (.int .u8 0), (.int .u8 0), (.int .u8 0), (.int .u8 0), (.int .u8 0), (.int .u8 0), (.int .u8 0)]) (.int .i64) x15 (.int .i64 x5) fun x16 b17 =>
  Ix x13 x5 64 fun a18 =>
  StN 64 a18 x16 <|
  J6 ()) (
  J6 ())) fun J10 =>
  Br (decide ((s3.1 : Int) < ((p_mask.size : Nat) : Int))) (
  IxS p_mask s3.1 fun c19 =>
  J10 ((((iand .u8 c19 1) : Int) == 1), ())) (
  J10 (false, ()))) (
  Nn p_d fun a20 =>
  St (a20.add 3) (.bool true) <|
  Nn p_d fun a21 =>
  St (a21.add 2) (.int .i64 (-1)) <|
  R ())) (0, ())
def disk_Disk_Crash_ann : Ann := .seq (.seq .leaf (.block (.loop [(9, .sc (.i .i64))] (.seq .leaf (.seq (.cond .leaf .leaf) (.seq (.block (.seq .leaf (.seq (.join [] (.seq (.join [(24, .sc .b)] .leaf) (.cond .leaf .leaf))) .leaf))) .leaf)))))) .leaf
set_option maxRecDepth 100000 in
theorem disk_Disk_Crash_den (p_d : Option Addr) (p_mask : ByteArray) (R : TR [] → Pr) : den Try.prog disk_Disk_Crash_ann (Try.f13.body.getD .skip) (retQ Try.prog Try.f13.results.toList true [] R) [] (env0 49 [(.pointer p_d), (.string p_mask)]) = disk_Disk_Crash p_d p_mask R := by
  kernel_rfl
set_option maxRecDepth 100000 in
theorem disk_Disk_Crash_call (p_d : Option Addr) (p_mask : ByteArray) {R : TR [] → Pr} {w : World} (h : disk_Disk_Crash p_d p_mask R w) : Cl Try.prog 13 [(.pointer p_d), (.string p_mask)] true [] R w :=
  call_of (P := Try.prog) (tup := true) (rs := []) Try.checked.mixed disk_Disk_Crash_ann (by kernel_rfl) Try.func13 (by kernel_rfl) Try.ntmps13 (by show Nat.beq Try.f13.results.size 1 = false; kernel_rfl) (by rw [← disk_Disk_Crash_den] at h; exact h)

/-- (*sumpter/disk.Disk).Start -/
abbrev i_disk_Disk_Start : FuncId := 14
def disk_Disk_Start (p_d : Option Addr) (R : TR [] → Pr) : Pr :=
  Nn p_d fun a1 =>
  LdB (a1.add 3) fun x2 =>
  Br x2 (
  Cl Try.prog 13 [(.pointer p_d), (.string (BA []))] true [] fun r3 =>
  Nn p_d fun a4 =>
  St (a4.add 3) (.bool false) <|
  R ()) (
  R ())
def disk_Disk_Start_ann : Ann := .seq .leaf (.cond (.seq .leaf .leaf) .leaf)
set_option maxRecDepth 100000 in
theorem disk_Disk_Start_den (p_d : Option Addr) (R : TR [] → Pr) : den Try.prog disk_Disk_Start_ann (Try.f14.body.getD .skip) (retQ Try.prog Try.f14.results.toList true [] R) [] (env0 11 [(.pointer p_d)]) = disk_Disk_Start p_d R := by
  kernel_rfl
set_option maxRecDepth 100000 in
theorem disk_Disk_Start_call (p_d : Option Addr) {R : TR [] → Pr} {w : World} (h : disk_Disk_Start p_d R w) : Cl Try.prog 14 [(.pointer p_d)] true [] R w :=
  call_of (P := Try.prog) (tup := true) (rs := []) Try.checked.mixed disk_Disk_Start_ann (by kernel_rfl) Try.func14 (by kernel_rfl) Try.ntmps14 (by show Nat.beq Try.f14.results.size 1 = false; kernel_rfl) (by rw [← disk_Disk_Start_den] at h; exact h)

/-- (*sumpter/disk.Disk).Read -/
abbrev i_disk_Disk_Read : FuncId := 15
def disk_Disk_Read (p_d : Option Addr) (p_i : Int) (R : TR [.sc .sl, .sc (.i .i64)] → Pr) : Pr :=
  Cl Try.prog 29 [(.pointer p_d), (.int .i64 p_i)] false [.sc (.i .i64)] fun r1 =>
  Br ((r1.1 : Int) != 0) (
  R (⟨none, 0, 0⟩, r1.1, ())) (
  Nn p_d fun a2 =>
  LdM (a2.add 1) fun x3 =>
  LkN (.agg #[(.int .u8 0), (.int .u8 0), (.int .u8 0), (.int .u8 0), (.int .u8 0), (.int .u8 0), (.int .u8 0), (.int .u8 0), (.int .u8 0), (.int .u8 0), (.int .u8 0), (.int .u8 0), (.int .u8 0), (.int .u8 0), (.int .u8 0), (.int .u8 0), (.int .u8 0), (.int .u8 0), (.int .u8 0), (.int .u8 0), (.int .u8 0), (.int .u8 0), (.int .u8 0), (.int .u8 0), (.int .u8 0), (.int .u8 0), (.int .u8 0), (.int .u8 0), (.int .u8 0), (.int .u8 0), (.int .u8 0), (.int .u8 0), (.int .u8 0), (.int .u8 0), (.int .u8 0), (.int .u8 0), (.int .u8 0), (.int .u8 0), (.int .u8 0), (.int .u8 0), (.int .u8 0), (.int .u8 0), (.int .u8 0), (.int .u8 0), (.int .u8 0), (.int .u8 0), (.int .u8 0), (.int .u8 0), (.int .u8 0), (.int .u8 0), (.int .u8 0), (.int .u8 0), (.int .u8 0), (.int .u8 0), (.int .u8 0), (.int .u8 0), (.int .u8 0), (.int .u8 0), (.int .u8 0), (.int .u8 0), (.int .u8 0), (.int .u8 0), (.int .u8 0), (.int .u8 0)]) (.int .i64) x3 (.int .i64 p_i) fun x4 b5 =>
  New (zc Try.prog 59) 59 fun a6 =>
  StN 64 a6 x4 <|
  Jp (σ := Unit) (fun s8 =>
  Cl Try.prog 31 [(.slice (slOff (some a6) 64 0 1) (64 - 0) (64 - 0))] false [.sc .sl] fun r9 =>
  R (r9.1, 0, ())) fun J7 =>
  Br (!b5) (
  Nn p_d fun a10 =>
  LdL (a10.add 0) fun x11 =>
  Ix x11 p_i 64 fun a12 =>
  LdN 64 a12 fun l13 =>
  StN 64 a6 l13 <|
  J7 ()) (
  J7 ()))
def disk_Disk_Read_ann : Ann := .seq .leaf (.seq (.seq .leaf (.seq .leaf (.cond (.seq .leaf .leaf) .leaf))) (.seq .leaf (.seq (.join [] (.seq .leaf (.cond .leaf .leaf))) (.seq .leaf .leaf))))
set_option maxRecDepth 100000 in
theorem disk_Disk_Read_den (p_d : Option Addr) (p_i : Int) (R : TR [.sc .sl, .sc (.i .i64)] → Pr) : den Try.prog disk_Disk_Read_ann (Try.f15.body.getD .skip) (retQ Try.prog Try.f15.results.toList true [.sc .sl, .sc (.i .i64)] R) [] (env0 35 [(.pointer p_d), (.int .i64 p_i)]) = disk_Disk_Read p_d p_i R := by
  kernel_rfl
set_option maxRecDepth 100000 in
theorem disk_Disk_Read_call (p_d : Option Addr) (p_i : Int) {R : TR [.sc .sl, .sc (.i .i64)] → Pr} {w : World} (h : disk_Disk_Read p_d p_i R w) : Cl Try.prog 15 [(.pointer p_d), (.int .i64 p_i)] true [.sc .sl, .sc (.i .i64)] R w :=
  call_of (P := Try.prog) (tup := true) (rs := [.sc .sl, .sc (.i .i64)]) Try.checked.mixed disk_Disk_Read_ann (by kernel_rfl) Try.func15 (by kernel_rfl) Try.ntmps15 (by show Nat.beq Try.f15.results.size 1 = false; kernel_rfl) (by rw [← disk_Disk_Read_den] at h; exact h)

/-- (*sumpter/disk.Disk).Waits -/
abbrev i_disk_Disk_Waits : FuncId := 16
def disk_Disk_Waits (p_d : Option Addr) (R : TR [.sc .sl] → Pr) : Pr :=
  Nn p_d fun a1 =>
  LdM (a1.add 1) fun x2 =>
  Cl Try.prog 33 [(.map x2)] false [.sc .v] fun r3 =>
  Cl Try.prog 32 [r3.1] false [.sc .sl] fun r4 =>
  R (r4.1, ())
def disk_Disk_Waits_ann : Ann := .seq .leaf (.seq .leaf .leaf)
set_option maxRecDepth 100000 in
theorem disk_Disk_Waits_den (p_d : Option Addr) (R : TR [.sc .sl] → Pr) : den Try.prog disk_Disk_Waits_ann (Try.f16.body.getD .skip) (retQ Try.prog Try.f16.results.toList false [.sc .sl] R) [] (env0 9 [(.pointer p_d)]) = disk_Disk_Waits p_d R := by
  kernel_rfl
set_option maxRecDepth 100000 in
theorem disk_Disk_Waits_call (p_d : Option Addr) {R : TR [.sc .sl] → Pr} {w : World} (h : disk_Disk_Waits p_d R w) : Cl Try.prog 16 [(.pointer p_d)] false [.sc .sl] R w :=
  call_of (P := Try.prog) (tup := false) (rs := [.sc .sl]) Try.checked.mixed disk_Disk_Waits_ann (by kernel_rfl) Try.func16 (by kernel_rfl) Try.ntmps16 (by show Try.f16.results.size = 1; kernel_rfl) (by rw [← disk_Disk_Waits_den] at h; exact h)

/-- sumpter/sumpterlaw06.short -/
abbrev i_sumpterlaw06_short : FuncId := 17
def sumpterlaw06_short (p_n : Int) (R : TR [.sc (.i .i64)] → Pr) : Pr :=
  Req (130 ≠ (0 : Int)) <|
  Req (130 ≠ (0 : Int)) <|
  R (((w64 (((p_n : Int).tmod 130) + 130)).tmod 130), ())
def sumpterlaw06_short_ann : Ann := .seq .leaf (.seq .leaf .leaf)
set_option maxRecDepth 100000 in
theorem sumpterlaw06_short_den (p_n : Int) (R : TR [.sc (.i .i64)] → Pr) : den Try.prog sumpterlaw06_short_ann (Try.f17.body.getD .skip) (retQ Try.prog Try.f17.results.toList false [.sc (.i .i64)] R) [] (env0 7 [(.int .i64 p_n)]) = sumpterlaw06_short p_n R := by
  kernel_rfl
set_option maxRecDepth 100000 in
theorem sumpterlaw06_short_call (p_n : Int) {R : TR [.sc (.i .i64)] → Pr} {w : World} (h : sumpterlaw06_short p_n R w) : Cl Try.prog 17 [(.int .i64 p_n)] false [.sc (.i .i64)] R w :=
  call_of (P := Try.prog) (tup := false) (rs := [.sc (.i .i64)]) Try.checked.mixed sumpterlaw06_short_ann (by kernel_rfl) Try.func17 (by kernel_rfl) Try.ntmps17 (by show Try.f17.results.size = 1; kernel_rfl) (by rw [← sumpterlaw06_short_den] at h; exact h)

/-- (*sumpter/disk.Disk).Fuse -/
abbrev i_disk_Disk_Fuse : FuncId := 18
def disk_Disk_Fuse (p_d : Option Addr) (p_n : Int) (R : TR [] → Pr) : Pr :=
  Nn p_d fun a1 =>
  St (a1.add 2) (.int .i64 (if ((-1) : Int) > p_n then (-1) else p_n)) <|
  R ()
def disk_Disk_Fuse_ann : Ann := .leaf
set_option maxRecDepth 100000 in
theorem disk_Disk_Fuse_den (p_d : Option Addr) (p_n : Int) (R : TR [] → Pr) : den Try.prog disk_Disk_Fuse_ann (Try.f18.body.getD .skip) (retQ Try.prog Try.f18.results.toList true [] R) [] (env0 9 [(.pointer p_d), (.int .i64 p_n)]) = disk_Disk_Fuse p_d p_n R := by
  kernel_rfl
set_option maxRecDepth 100000 in
theorem disk_Disk_Fuse_call (p_d : Option Addr) (p_n : Int) {R : TR [] → Pr} {w : World} (h : disk_Disk_Fuse p_d p_n R w) : Cl Try.prog 18 [(.pointer p_d), (.int .i64 p_n)] true [] R w :=
  call_of (P := Try.prog) (tup := true) (rs := []) Try.checked.mixed disk_Disk_Fuse_ann (by kernel_rfl) Try.func18 (by kernel_rfl) Try.ntmps18 (by show Nat.beq Try.f18.results.size 1 = false; kernel_rfl) (by rw [← disk_Disk_Fuse_den] at h; exact h)

/-- (*sumpter/disk.Disk).Up -/
abbrev i_disk_Disk_Up : FuncId := 19
def disk_Disk_Up (p_d : Option Addr) (R : TR [.sc .b] → Pr) : Pr :=
  Nn p_d fun a1 =>
  LdB (a1.add 3) fun x2 =>
  R ((!x2), ())
def disk_Disk_Up_ann : Ann := .seq .leaf (.seq .leaf .leaf)
set_option maxRecDepth 100000 in
theorem disk_Disk_Up_den (p_d : Option Addr) (R : TR [.sc .b] → Pr) : den Try.prog disk_Disk_Up_ann (Try.f19.body.getD .skip) (retQ Try.prog Try.f19.results.toList false [.sc .b] R) [] (env0 8 [(.pointer p_d)]) = disk_Disk_Up p_d R := by
  kernel_rfl
set_option maxRecDepth 100000 in
theorem disk_Disk_Up_call (p_d : Option Addr) {R : TR [.sc .b] → Pr} {w : World} (h : disk_Disk_Up p_d R w) : Cl Try.prog 19 [(.pointer p_d)] false [.sc .b] R w :=
  call_of (P := Try.prog) (tup := false) (rs := [.sc .b]) Try.checked.mixed disk_Disk_Up_ann (by kernel_rfl) Try.func19 (by kernel_rfl) Try.ntmps19 (by show Try.f19.results.size = 1; kernel_rfl) (by rw [← disk_Disk_Up_den] at h; exact h)

/-- sumpter/sumpterlaw06.DiskClone$1 -/
abbrev i_sumpterlaw06_DiskClone_1 : FuncId := 20
def sumpterlaw06_DiskClone_1 (p_d : Option Addr) (p_l : Sl) (R : TR [] → Pr) : Pr :=
  Lp (σ := Int × Unit) (fun L1 s2 =>
  Br (decide ((s2.1 : Int) < ((p_l.len : Nat) : Int))) (
  Jp (σ := Unit) (fun s4 =>
  L1 ((w64 (s2.1 + 1)), ())) fun J3 =>
  Ix p_l s2.1 6 fun a5 =>
  LdI .i64 (a5.add 0) fun x6 =>
  LdI .i64 (a5.add 1) fun x7 =>
  LdI .i64 (a5.add 2) fun x8 =>
  LdI .u8 (a5.add 3) fun x9 =>
  LdS (a5.add 4) fun x10 =>
  LdB (a5.add 5) fun x11 =>
  New #[(.int .i64 0), (.int .i64 0), (.int .i64 0), (.int .u8 0), (.string (BA [])), (.bool false)] 31 fun a12 =>
  St (a12.add 0) (.int .i64 x6) <|
  St (a12.add 1) (.int .i64 x7) <|
  St (a12.add 2) (.int .i64 x8) <|
  St (a12.add 3) (.int .u8 x9) <|
  St (a12.add 4) (.string x10) <|
  St (a12.add 5) (.bool x11) <|
  LdI .i64 (a12.add 0) fun x13 =>
  Br ((x13 : Int) == 2) (
  Cl Try.prog 12 [(.pointer p_d)] false [.sc (.i .i64)] fun r14 =>
  J3 ()) (
  Br ((x13 : Int) == 4) (
  LdS (a12.add 4) fun x15 =>
  Cl Try.prog 13 [(.pointer p_d), (.string x15)] true [] fun r16 =>
  J3 ()) (
  Br ((x13 : Int) == 5) (
  Cl Try.prog 14 [(.pointer p_d)] true [] fun r17 =>
  J3 ()) (
  Dr <|
  LdI .i64 (a12.add 1) fun x18 =>
  LdI .u8 (a12.add 3) fun x19 =>
  Cl Try.prog 11 [(.int .u8 x19)] false [.sc .sl] fun r20 =>
  Both (LdI .i64 (a12.add 1) fun x21 =>
  fun _ => ((.int .i64 x21) : Value) = (.int .i64 x18)) <|
  Cl Try.prog 10 [(.pointer p_d), (.int .i64 x18), (.slice r20.1.p r20.1.len r20.1.cap)] false [.sc (.i .i64)] fun r22 =>
  J3 ())))) (
  R ())) (0, ())
def sumpterlaw06_DiskClone_1_ann : Ann := .seq .leaf (.block (.loop [(8, .sc (.i .i64))] (.seq .leaf (.seq (.cond .leaf .leaf) (.seq (.join [] (.block (.seq .leaf (.seq .leaf (.block (.seq .leaf (.cond .leaf (.seq .leaf (.cond .leaf (.seq .leaf (.cond .leaf .leaf))))))))))) .leaf)))))
set_option maxRecDepth 100000 in
theorem sumpterlaw06_DiskClone_1_den (p_d : Option Addr) (p_l : Sl) (R : TR [] → Pr) : den Try.prog sumpterlaw06_DiskClone_1_ann (Try.f20.body.getD .skip) (retQ Try.prog Try.f20.results.toList true [] R) [] (env0 36 [(.pointer p_d), (.slice p_l.p p_l.len p_l.cap)]) = sumpterlaw06_DiskClone_1 p_d p_l R := by
  kernel_rfl
set_option maxRecDepth 100000 in
theorem sumpterlaw06_DiskClone_1_call (p_d : Option Addr) (p_l : Sl) {R : TR [] → Pr} {w : World} (h : sumpterlaw06_DiskClone_1 p_d p_l R w) : Cl Try.prog 20 [(.pointer p_d), (.slice p_l.p p_l.len p_l.cap)] true [] R w :=
  call_of (P := Try.prog) (tup := true) (rs := []) Try.checked.mixed sumpterlaw06_DiskClone_1_ann (by kernel_rfl) Try.func20 (by kernel_rfl) Try.ntmps20 (by show Nat.beq Try.f20.results.size 1 = false; kernel_rfl) (by rw [← sumpterlaw06_DiskClone_1_den] at h; exact h)

/-- (*sumpter/disk.Disk).Clone -/
abbrev i_disk_Disk_Clone : FuncId := 21
def disk_Disk_Clone (p_d : Option Addr) (R : TR [.sc .p] → Pr) : Pr :=
  Dr <|
  Nn p_d fun a1 =>
  LdL (a1.add 0) fun x2 =>
  Nn p_d fun a3 =>
  LdM (a3.add 1) fun x4 =>
  Nn p_d fun a5 =>
  LdI .i64 (a5.add 2) fun x6 =>
  Nn p_d fun a7 =>
  LdB (a7.add 3) fun x8 =>
  Cl Try.prog 34 [(.slice x2.p x2.len x2.cap)] false [.sc .sl] fun r9 =>
  Both (LdB (a7.add 3) fun x10 =>
  fun _ => ((.bool x10) : Value) = (.bool x8)) <|
  Both (LdI .i64 (a5.add 2) fun x11 =>
  fun _ => ((.int .i64 x11) : Value) = (.int .i64 x6)) <|
  Both (LdM (a3.add 1) fun x12 =>
  fun _ => ((.map x12) : Value) = (.map x4)) <|
  Cl Try.prog 35 [(.map x4)] false [.sc .m] fun r13 =>
  Both (LdB (a7.add 3) fun x14 =>
  fun _ => ((.bool x14) : Value) = (.bool x8)) <|
  Both (LdI .i64 (a5.add 2) fun x15 =>
  fun _ => ((.int .i64 x15) : Value) = (.int .i64 x6)) <|
  New #[(.slice r9.1.p r9.1.len r9.1.cap), (.map r13.1), (.int .i64 x6), (.bool x8)] 56 fun a16 =>
  R ((some a16), ())
def disk_Disk_Clone_ann : Ann := .seq .leaf (.seq .leaf .leaf)
set_option maxRecDepth 100000 in
theorem disk_Disk_Clone_den (p_d : Option Addr) (R : TR [.sc .p] → Pr) : den Try.prog disk_Disk_Clone_ann (Try.f21.body.getD .skip) (retQ Try.prog Try.f21.results.toList false [.sc .p] R) [] (env0 23 [(.pointer p_d)]) = disk_Disk_Clone p_d R := by
  kernel_rfl
set_option maxRecDepth 100000 in
theorem disk_Disk_Clone_call (p_d : Option Addr) {R : TR [.sc .p] → Pr} {w : World} (h : disk_Disk_Clone p_d R w) : Cl Try.prog 21 [(.pointer p_d)] false [.sc .p] R w :=
  call_of (P := Try.prog) (tup := false) (rs := [.sc .p]) Try.checked.mixed disk_Disk_Clone_ann (by kernel_rfl) Try.func21 (by kernel_rfl) Try.ntmps21 (by show Try.f21.results.size = 1; kernel_rfl) (by rw [← disk_Disk_Clone_den] at h; exact h)

/-- sumpter/sumpterref06.New -/
abbrev i_sumpterref06_New : FuncId := 22
def sumpterref06_New (p_sectors : Int) (R : TR [.sc .p, .sc (.i .i64)] → Pr) : Pr :=
  Jp (σ := Bool × Unit) (fun s2 =>
  Br s2.1 (
  R (none, 1, ())) (
  New #[(.slice none 0 0), (.slice none 0 0), (.int .i64 (-1)), (.bool false)] 70 fun a3 =>
  Lp (σ := Int × Unit) (fun L4 s5 =>
  Br (decide ((s5.1 : Int) < p_sectors)) (
  Dr <|
  LdL (a3.add 0) fun x6 =>
  Mk 5 1 1 (zc Try.prog 5) 64 64 fun r7 =>
  Both (LdL (a3.add 0) fun x8 =>
  fun _ => ((.slice x8.p x8.len x8.cap) : Value) = (.slice x6.p x6.len x6.cap)) <|
  BtoS r7 fun s9 =>
  New #[(.string s9)] 9 fun a10 =>
  Both (LdL (a3.add 0) fun x11 =>
  fun _ => ((.slice x11.p x11.len x11.cap) : Value) = (.slice x6.p x6.len x6.cap)) <|
  App 9 1 16 (zc Try.prog 9) x6 1 (srcS (some a10) 1 1) fun r12 =>
  St (a3.add 0) (.slice r12.p r12.len r12.cap) <|
  LdL (a3.add 1) fun x13 =>
  New #[(.string (BA []))] 9 fun a14 =>
  App 9 1 16 (zc Try.prog 9) x13 1 (srcS (some a14) 1 1) fun r15 =>
  St (a3.add 1) (.slice r15.p r15.len r15.cap) <|
  L4 ((w64 (s5.1 + 1)), ())) (
  R ((some a3), 0, ()))) (0, ()))) fun J1 =>
  Br (decide ((p_sectors : Int) < 1)) (
  J1 (true, ())) (
  J1 ((decide ((p_sectors : Int) > 4096)), ()))
def sumpterref06_New_ann : Ann := .seq .leaf (.seq (.seq (.join [(10, .sc .b)] .leaf) (.cond (.seq .leaf .leaf) .leaf)) (.seq .leaf (.seq (.seq .leaf (.block (.loop [(14, .sc (.i .i64))] (.seq .leaf (.seq (.cond .leaf .leaf) (.seq (.block (.seq .leaf .leaf)) .leaf)))))) (.seq .leaf .leaf))))
set_option maxRecDepth 100000 in
theorem sumpterref06_New_den (p_sectors : Int) (R : TR [.sc .p, .sc (.i .i64)] → Pr) : den Try.prog sumpterref06_New_ann (Try.f22.body.getD .skip) (retQ Try.prog Try.f22.results.toList true [.sc .p, .sc (.i .i64)] R) [] (env0 38 [(.int .i64 p_sectors)]) = sumpterref06_New p_sectors R := by
  kernel_rfl
set_option maxRecDepth 100000 in
theorem sumpterref06_New_call (p_sectors : Int) {R : TR [.sc .p, .sc (.i .i64)] → Pr} {w : World} (h : sumpterref06_New p_sectors R w) : Cl Try.prog 22 [(.int .i64 p_sectors)] true [.sc .p, .sc (.i .i64)] R w :=
  call_of (P := Try.prog) (tup := true) (rs := [.sc .p, .sc (.i .i64)]) Try.checked.mixed sumpterref06_New_ann (by kernel_rfl) Try.func22 (by kernel_rfl) Try.ntmps22 (by show Nat.beq Try.f22.results.size 1 = false; kernel_rfl) (by rw [← sumpterref06_New_den] at h; exact h)

/-- (*sumpter/sumpterref06.Disk).Write -/
abbrev i_sumpterref06_Disk_Write : FuncId := 23
def sumpterref06_Disk_Write (p_d : Option Addr) (p_i : Int) (p_b : Sl) (R : TR [.sc (.i .i64)] → Pr) : Pr :=
  Nn p_d fun a1 =>
  LdB (a1.add 3) fun x2 =>
  Br x2 (
  R (60, ())) (
  Jp (σ := Bool × Unit) (fun s4 =>
  Br s4.1 (
  R (61, ())) (
  Br ((((p_b.len : Nat) : Int) : Int) != 64) (
  R (2, ())) (
  Cl Try.prog 36 [(.pointer p_d)] false [.sc .b] fun r5 =>
  Br (!r5.1) (
  R (60, ())) (
  Dr <|
  Nn p_d fun a6 =>
  LdL (a6.add 1) fun x7 =>
  BtoS p_b fun s8 =>
  Ix x7 p_i 1 fun a9 =>
  St a9 (.string s8) <|
  R (0, ()))))) fun J3 =>
  Br (decide ((p_i : Int) < 0)) (
  J3 (true, ())) (
  Nn p_d fun a10 =>
  LdL (a10.add 0) fun x11 =>
  J3 ((decide ((p_i : Int) ≥ ((x11.len : Nat) : Int))), ())))
def sumpterref06_Disk_Write_ann : Ann := .seq .leaf (.seq (.block (.seq .leaf (.cond (.seq .leaf .leaf) (.seq (.join [(12, .sc .b)] .leaf) (.cond (.seq .leaf .leaf) (.seq .leaf (.cond (.seq .leaf .leaf) (.seq .leaf (.cond (.seq .leaf .leaf) .leaf))))))))) (.seq .leaf (.seq .leaf .leaf)))
set_option maxRecDepth 100000 in
theorem sumpterref06_Disk_Write_den (p_d : Option Addr) (p_i : Int) (p_b : Sl) (R : TR [.sc (.i .i64)] → Pr) : den Try.prog sumpterref06_Disk_Write_ann (Try.f23.body.getD .skip) (retQ Try.prog Try.f23.results.toList false [.sc (.i .i64)] R) [] (env0 40 [(.pointer p_d), (.int .i64 p_i), (.slice p_b.p p_b.len p_b.cap)]) = sumpterref06_Disk_Write p_d p_i p_b R := by
  kernel_rfl
set_option maxRecDepth 100000 in
theorem sumpterref06_Disk_Write_call (p_d : Option Addr) (p_i : Int) (p_b : Sl) {R : TR [.sc (.i .i64)] → Pr} {w : World} (h : sumpterref06_Disk_Write p_d p_i p_b R w) : Cl Try.prog 23 [(.pointer p_d), (.int .i64 p_i), (.slice p_b.p p_b.len p_b.cap)] false [.sc (.i .i64)] R w :=
  call_of (P := Try.prog) (tup := false) (rs := [.sc (.i .i64)]) Try.checked.mixed sumpterref06_Disk_Write_ann (by kernel_rfl) Try.func23 (by kernel_rfl) Try.ntmps23 (by show Try.f23.results.size = 1; kernel_rfl) (by rw [← sumpterref06_Disk_Write_den] at h; exact h)

/-- (*sumpter/sumpterref06.Disk).Sync -/
abbrev i_sumpterref06_Disk_Sync : FuncId := 24
def sumpterref06_Disk_Sync (p_d : Option Addr) (R : TR [.sc (.i .i64)] → Pr) : Pr :=
  Jp (σ := Bool × Unit) (fun s2 =>
  Br s2.1 (
  R (60, ())) (
  Nn p_d fun a3 =>
  LdL (a3.add 1) fun x4 =>
  Lp (σ := Int × Unit) (fun L5 s6 =>
  Br (decide ((s6.1 : Int) < ((x4.len : Nat) : Int))) (
  Jp (σ := Unit) (fun s8 =>
  L5 ((w64 (s6.1 + 1)), ())) fun J7 =>
  Ix x4 s6.1 1 fun a9 =>
  LdS a9 fun x10 =>
  Br (!(seq x10 (BA []))) (
  Nn p_d fun a11 =>
  LdL (a11.add 0) fun x12 =>
  Ix x12 s6.1 1 fun a13 =>
  St a13 (.string x10) <|
  Nn p_d fun a14 =>
  LdL (a14.add 1) fun x15 =>
  Ix x15 s6.1 1 fun a16 =>
  St a16 (.string (BA [])) <|
  J7 ()) (
  J7 ())) (
  R (0, ()))) (0, ()))) fun J1 =>
  Nn p_d fun a17 =>
  LdB (a17.add 3) fun x18 =>
  Br x18 (
  J1 (true, ())) (
  Cl Try.prog 36 [(.pointer p_d)] false [.sc .b] fun r19 =>
  J1 ((!r19.1), ()))
def sumpterref06_Disk_Sync_ann : Ann := .seq .leaf (.seq (.seq (.join [(13, .sc .b)] .leaf) (.cond (.seq .leaf .leaf) .leaf)) (.seq (.seq .leaf (.block (.loop [(19, .sc (.i .i64))] (.seq .leaf (.seq (.cond .leaf .leaf) (.seq (.join [] (.block (.seq .leaf (.seq .leaf (.cond (.seq .leaf .leaf) .leaf))))) .leaf)))))) (.seq .leaf .leaf)))
set_option maxRecDepth 100000 in
theorem sumpterref06_Disk_Sync_den (p_d : Option Addr) (R : TR [.sc (.i .i64)] → Pr) : den Try.prog sumpterref06_Disk_Sync_ann (Try.f24.body.getD .skip) (retQ Try.prog Try.f24.results.toList false [.sc (.i .i64)] R) [] (env0 40 [(.pointer p_d)]) = sumpterref06_Disk_Sync p_d R := by
  kernel_rfl
set_option maxRecDepth 100000 in
theorem sumpterref06_Disk_Sync_call (p_d : Option Addr) {R : TR [.sc (.i .i64)] → Pr} {w : World} (h : sumpterref06_Disk_Sync p_d R w) : Cl Try.prog 24 [(.pointer p_d)] false [.sc (.i .i64)] R w :=
  call_of (P := Try.prog) (tup := false) (rs := [.sc (.i .i64)]) Try.checked.mixed sumpterref06_Disk_Sync_ann (by kernel_rfl) Try.func24 (by kernel_rfl) Try.ntmps24 (by show Try.f24.results.size = 1; kernel_rfl) (by rw [← sumpterref06_Disk_Sync_den] at h; exact h)

/-- (*sumpter/sumpterref06.Disk).Fuse -/
abbrev i_sumpterref06_Disk_Fuse : FuncId := 25
def sumpterref06_Disk_Fuse (p_d : Option Addr) (p_n : Int) (R : TR [] → Pr) : Pr :=
  Nn p_d fun a1 =>
  St (a1.add 2) (.int .i64 (if ((-1) : Int) > p_n then (-1) else p_n)) <|
  R ()
def sumpterref06_Disk_Fuse_ann : Ann := .leaf
set_option maxRecDepth 100000 in
theorem sumpterref06_Disk_Fuse_den (p_d : Option Addr) (p_n : Int) (R : TR [] → Pr) : den Try.prog sumpterref06_Disk_Fuse_ann (Try.f25.body.getD .skip) (retQ Try.prog Try.f25.results.toList true [] R) [] (env0 9 [(.pointer p_d), (.int .i64 p_n)]) = sumpterref06_Disk_Fuse p_d p_n R := by
  kernel_rfl
set_option maxRecDepth 100000 in
theorem sumpterref06_Disk_Fuse_call (p_d : Option Addr) (p_n : Int) {R : TR [] → Pr} {w : World} (h : sumpterref06_Disk_Fuse p_d p_n R w) : Cl Try.prog 25 [(.pointer p_d), (.int .i64 p_n)] true [] R w :=
  call_of (P := Try.prog) (tup := true) (rs := []) Try.checked.mixed sumpterref06_Disk_Fuse_ann (by kernel_rfl) Try.func25 (by kernel_rfl) Try.ntmps25 (by show Nat.beq Try.f25.results.size 1 = false; kernel_rfl) (by rw [← sumpterref06_Disk_Fuse_den] at h; exact h)

/-- (*sumpter/sumpterref06.Disk).Crash -/
abbrev i_sumpterref06_Disk_Crash : FuncId := 26
def sumpterref06_Disk_Crash (p_d : Option Addr) (p_mask : ByteArray) (R : TR [] → Pr) : Pr :=
  Nn p_d fun a1 =>
  LdL (a1.add 1) fun x2 =>
  Lp (σ := Int × Int × Unit) (fun L3 s4 =>
  Br (decide ((s4.2.1 : Int) < ((x2.len : Nat) : Int))) (
  Jp (σ := Int × Unit) (fun s6 =>
  L3 (s6.1, (w64 (s4.2.1 + 1)), ())) fun J5 =>
  Ix x2 s4.2.1 1 fun a7 =>
  LdS a7 fun x8 =>
  Br (seq x8 (BA [])) (
  J5 (s4.1, ())) (
  Jp (σ := Unit) (fun s10 =>
  Nn p_d fun a11 =>
  LdL (a11.add 1) fun x12 =>
  Ix x12 s4.2.1 1 fun a13 =>
  St a13 (.string (BA [])) <|
  J5 ((w64 (s4.1 + 1)), ())) fun J9 =>
  Jp (σ := Bool × Unit) (fun s15 =>
  Br s15.1 (
  Nn p_d fun a16 =>
  LdL (a16.add 0) fun x17 =>
  Ix x17 s4.2.1 1 fun a18 =>
  St a18 (.string x8) <|
  J9 ()) (
  J9 ())) fun J14 =>
  Br (decide ((s4.1 : Int) < ((p_mask.size : Nat) : Int))) (
  IxS p_mask s4.1 fun c19 =>
  Req (2 ≠ (0 : Int)) <|
  J14 (((((c19 : Int).tmod 2) : Int) == 1), ())) (
  J14 (false, ())))) (
  Nn p_d fun a20 =>
  St (a20.add 3) (.bool true) <|
  Nn p_d fun a21 =>
  St (a21.add 2) (.int .i64 (-1)) <|
  R ())) (0, 0, ())
def sumpterref06_Disk_Crash_ann : Ann := .seq .leaf (.seq (.seq .leaf (.block (.loop [(4, .sc (.i .i64)), (12, .sc (.i .i64))] (.seq .leaf (.seq (.cond .leaf .leaf) (.seq (.join [(4, .sc (.i .i64))] (.block (.seq .leaf (.seq (.seq .leaf (.cond .leaf .leaf)) (.seq (.join [] (.seq (.join [(29, .sc .b)] .leaf) (.cond .leaf .leaf))) (.seq .leaf .leaf)))))) .leaf)))))) (.seq .leaf .leaf))
set_option maxRecDepth 100000 in
theorem sumpterref06_Disk_Crash_den (p_d : Option Addr) (p_mask : ByteArray) (R : TR [] → Pr) : den Try.prog sumpterref06_Disk_Crash_ann (Try.f26.body.getD .skip) (retQ Try.prog Try.f26.results.toList true [] R) [] (env0 52 [(.pointer p_d), (.string p_mask)]) = sumpterref06_Disk_Crash p_d p_mask R := by
  kernel_rfl
set_option maxRecDepth 100000 in
theorem sumpterref06_Disk_Crash_call (p_d : Option Addr) (p_mask : ByteArray) {R : TR [] → Pr} {w : World} (h : sumpterref06_Disk_Crash p_d p_mask R w) : Cl Try.prog 26 [(.pointer p_d), (.string p_mask)] true [] R w :=
  call_of (P := Try.prog) (tup := true) (rs := []) Try.checked.mixed sumpterref06_Disk_Crash_ann (by kernel_rfl) Try.func26 (by kernel_rfl) Try.ntmps26 (by show Nat.beq Try.f26.results.size 1 = false; kernel_rfl) (by rw [← sumpterref06_Disk_Crash_den] at h; exact h)

/-- (*sumpter/sumpterref06.Disk).Start -/
abbrev i_sumpterref06_Disk_Start : FuncId := 27
def sumpterref06_Disk_Start (p_d : Option Addr) (R : TR [] → Pr) : Pr :=
  Nn p_d fun a1 =>
  LdB (a1.add 3) fun x2 =>
  Br x2 (
  Cl Try.prog 26 [(.pointer p_d), (.string (BA []))] true [] fun r3 =>
  Nn p_d fun a4 =>
  St (a4.add 3) (.bool false) <|
  R ()) (
  R ())
def sumpterref06_Disk_Start_ann : Ann := .seq .leaf (.cond (.seq .leaf .leaf) .leaf)
set_option maxRecDepth 100000 in
theorem sumpterref06_Disk_Start_den (p_d : Option Addr) (R : TR [] → Pr) : den Try.prog sumpterref06_Disk_Start_ann (Try.f27.body.getD .skip) (retQ Try.prog Try.f27.results.toList true [] R) [] (env0 11 [(.pointer p_d)]) = sumpterref06_Disk_Start p_d R := by
  kernel_rfl
set_option maxRecDepth 100000 in
theorem sumpterref06_Disk_Start_call (p_d : Option Addr) {R : TR [] → Pr} {w : World} (h : sumpterref06_Disk_Start p_d R w) : Cl Try.prog 27 [(.pointer p_d)] true [] R w :=
  call_of (P := Try.prog) (tup := true) (rs := []) Try.checked.mixed sumpterref06_Disk_Start_ann (by kernel_rfl) Try.func27 (by kernel_rfl) Try.ntmps27 (by show Nat.beq Try.f27.results.size 1 = false; kernel_rfl) (by rw [← sumpterref06_Disk_Start_den] at h; exact h)

/-- sumpter/sumpterlaw06.same -/
abbrev i_sumpterlaw06_same : FuncId := 28
def sumpterlaw06_same (p_d : Option Addr) (p_x : Option Addr) (R : TR [.sc .b] → Pr) : Pr :=
  Cl Try.prog 16 [(.pointer p_d)] false [.sc .sl] fun r1 =>
  Cl Try.prog 37 [(.pointer p_x)] false [.sc .sl] fun r2 =>
  Jp (σ := Bool × Unit) (fun s4 =>
  Br s4.1 (
  R (false, ())) (
  Lp (σ := Bool × Int × Unit) (fun L5 s6 =>
  Br (decide ((s6.2.1 : Int) < ((r1.1.len : Nat) : Int))) (
  Dr <|
  Ix r1.1 s6.2.1 1 fun a7 =>
  LdI .i64 a7 fun x8 =>
  Ix r2.1 s6.2.1 1 fun a9 =>
  LdI .i64 a9 fun x10 =>
  Br ((x8 : Int) != x10) (
  R (false, ())) (
  Ix r1.1 s6.2.1 1 fun a11 =>
  St a11 (.int .i64 (-7)) <|
  L5 (s6.1, (w64 (s6.2.1 + 1)), ()))) (
  Lp (σ := Bool × Int × Unit) (fun L12 s13 =>
  Nn p_x fun a14 =>
  LdL (a14.add 0) fun x15 =>
  Br (decide ((s13.2.1 : Int) ≤ ((x15.len : Nat) : Int))) (
  Cl Try.prog 15 [(.pointer p_d), (.int .i64 s13.2.1)] true [.sc .sl, .sc (.i .i64)] fun r16 =>
  Cl Try.prog 39 [(.pointer p_x), (.int .i64 s13.2.1)] true [.sc .sl, .sc (.i .i64)] fun r17 =>
  Jp (σ := Bool × Unit) (fun s19 =>
  Br s19.1 (
  R (false, ())) (
  Lp (σ := Int × Unit) (fun L20 s21 =>
  Br (decide ((s21.1 : Int) < ((r16.1.len : Nat) : Int))) (
  Ix r16.1 s21.1 1 fun a22 =>
  St a22 (.int .u8 255) <|
  L20 ((w64 (s21.1 + 1)), ())) (
  L12 (s13.1, (w64 (s13.2.1 + 1)), ()))) (0, ()))) fun J18 =>
  BtoS r16.1 fun s23 =>
  BtoS r17.1 fun s24 =>
  Br (!(seq s23 s24)) (
  J18 (true, ())) (
  J18 (((r16.2.1 : Int) != r17.2.1), ()))) (
  R (true, ()))) (s6.1, (-1), ()))) (false, 0, ()))) fun J3 =>
  Dr <|
  Nn p_x fun a25 =>
  LdB (a25.add 3) fun x26 =>
  Cl Try.prog 19 [(.pointer p_d)] false [.sc .b] fun r27 =>
  Both (LdB (a25.add 3) fun x28 =>
  fun _ => ((.bool x28) : Value) = (.bool x26)) <|
  Br (r27.1 == x26) (
  J3 (true, ())) (
  Nn p_x fun a29 =>
  LdL (a29.add 0) fun x30 =>
  Cl Try.prog 38 [(.pointer p_d)] false [.sc (.i .i64)] fun r31 =>
  Both (LdL (a29.add 0) fun x32 =>
  fun _ => ((.slice x32.p x32.len x32.cap) : Value) = (.slice x30.p x30.len x30.cap)) <|
  Br ((r31.1 : Int) != ((x30.len : Nat) : Int)) (
  J3 (true, ())) (
  J3 (((((r1.1.len : Nat) : Int) : Int) != ((r2.1.len : Nat) : Int)), ())))
def sumpterlaw06_same_ann : Ann := .seq .leaf (.seq .leaf (.seq .leaf (.seq (.seq (.join [(41, .sc .b)] .leaf) (.cond (.seq .leaf .leaf) .leaf)) (.seq (.seq .leaf (.block (.loop [(4, .sc .b), (44, .sc (.i .i64))] (.seq .leaf (.seq (.cond .leaf .leaf) (.seq (.block (.seq .leaf (.seq (.seq .leaf (.cond (.seq .leaf .leaf) .leaf)) .leaf))) .leaf)))))) (.seq (.seq .leaf (.block (.loop [(4, .sc .b), (8, .sc (.i .i64))] (.seq (.seq .leaf (.cond .leaf .leaf)) (.seq (.block (.seq .leaf (.seq .leaf (.seq (.seq (.join [(90, .sc .b)] .leaf) (.cond (.seq .leaf .leaf) .leaf)) (.seq .leaf (.block (.loop [(93, .sc (.i .i64))] (.seq .leaf (.seq (.cond .leaf .leaf) (.seq (.block (.seq .leaf .leaf)) .leaf)))))))))) .leaf))))) (.seq .leaf .leaf))))))
set_option maxRecDepth 100000 in
theorem sumpterlaw06_same_den (p_d : Option Addr) (p_x : Option Addr) (R : TR [.sc .b] → Pr) : den Try.prog sumpterlaw06_same_ann (Try.f28.body.getD .skip) (retQ Try.prog Try.f28.results.toList false [.sc .b] R) [] (env0 100 [(.pointer p_d), (.pointer p_x)]) = sumpterlaw06_same p_d p_x R := by
  kernel_rfl
set_option maxRecDepth 100000 in
theorem sumpterlaw06_same_call (p_d : Option Addr) (p_x : Option Addr) {R : TR [.sc .b] → Pr} {w : World} (h : sumpterlaw06_same p_d p_x R w) : Cl Try.prog 28 [(.pointer p_d), (.pointer p_x)] false [.sc .b] R w :=
  call_of (P := Try.prog) (tup := false) (rs := [.sc .b]) Try.checked.mixed sumpterlaw06_same_ann (by kernel_rfl) Try.func28 (by kernel_rfl) Try.ntmps28 (by show Try.f28.results.size = 1; kernel_rfl) (by rw [← sumpterlaw06_same_den] at h; exact h)

/-- (*sumpter/disk.Disk).at -/
abbrev i_disk_Disk_at : FuncId := 29
def disk_Disk_at (p_d : Option Addr) (p_i : Int) (R : TR [.sc (.i .i64)] → Pr) : Pr :=
  Nn p_d fun a1 =>
  LdB (a1.add 3) fun x2 =>
  Br x2 (
  R (60, ())) (
  Jp (σ := Bool × Unit) (fun s4 =>
  Br s4.1 (
  R (61, ())) (
  R (0, ()))) fun J3 =>
  Br (decide ((p_i : Int) < 0)) (
  J3 (true, ())) (
  Nn p_d fun a5 =>
  LdL (a5.add 0) fun x6 =>
  J3 ((decide ((p_i : Int) ≥ ((x6.len : Nat) : Int))), ())))
def disk_Disk_at_ann : Ann := .seq .leaf (.seq (.block (.seq .leaf (.cond (.seq .leaf .leaf) (.seq (.join [(10, .sc .b)] .leaf) (.cond (.seq .leaf .leaf) .leaf))))) (.seq .leaf .leaf))
set_option maxRecDepth 100000 in
theorem disk_Disk_at_den (p_d : Option Addr) (p_i : Int) (R : TR [.sc (.i .i64)] → Pr) : den Try.prog disk_Disk_at_ann (Try.f29.body.getD .skip) (retQ Try.prog Try.f29.results.toList false [.sc (.i .i64)] R) [] (env0 22 [(.pointer p_d), (.int .i64 p_i)]) = disk_Disk_at p_d p_i R := by
  kernel_rfl
set_option maxRecDepth 100000 in
theorem disk_Disk_at_call (p_d : Option Addr) (p_i : Int) {R : TR [.sc (.i .i64)] → Pr} {w : World} (h : disk_Disk_at p_d p_i R w) : Cl Try.prog 29 [(.pointer p_d), (.int .i64 p_i)] false [.sc (.i .i64)] R w :=
  call_of (P := Try.prog) (tup := false) (rs := [.sc (.i .i64)]) Try.checked.mixed disk_Disk_at_ann (by kernel_rfl) Try.func29 (by kernel_rfl) Try.ntmps29 (by show Try.f29.results.size = 1; kernel_rfl) (by rw [← disk_Disk_at_den] at h; exact h)

/-- (*sumpter/disk.Disk).act -/
abbrev i_disk_Disk_act : FuncId := 30
def disk_Disk_act (p_d : Option Addr) (R : TR [.sc .b] → Pr) : Pr :=
  Jp (σ := Bool × Unit) (fun s2 =>
  R (true, ())) fun J1 =>
  Nn p_d fun a3 =>
  LdI .i64 (a3.add 2) fun x4 =>
  Br ((x4 : Int) == 0) (
  Nn p_d fun a5 =>
  St (a5.add 3) (.bool true) <|
  R (false, ())) (
  Nn p_d fun a6 =>
  LdI .i64 (a6.add 2) fun x7 =>
  Br (decide ((x7 : Int) > 0)) (
  Nn p_d fun a8 =>
  LdI .i64 (a8.add 2) fun x9 =>
  Nn p_d fun a10 =>
  St (a10.add 2) (.int .i64 (w64 (x9 - 1))) <|
  J1 (false, ())) (
  J1 (false, ())))
def disk_Disk_act_ann : Ann := .seq .leaf (.seq (.join [(2, .sc .b)] (.block (.seq .leaf (.cond (.seq .leaf (.seq .leaf .leaf)) (.seq .leaf (.cond .leaf .leaf)))))) (.seq .leaf .leaf))
set_option maxRecDepth 100000 in
theorem disk_Disk_act_den (p_d : Option Addr) (R : TR [.sc .b] → Pr) : den Try.prog disk_Disk_act_ann (Try.f30.body.getD .skip) (retQ Try.prog Try.f30.results.toList false [.sc .b] R) [] (env0 25 [(.pointer p_d)]) = disk_Disk_act p_d R := by
  kernel_rfl
set_option maxRecDepth 100000 in
theorem disk_Disk_act_call (p_d : Option Addr) {R : TR [.sc .b] → Pr} {w : World} (h : disk_Disk_act p_d R w) : Cl Try.prog 30 [(.pointer p_d)] false [.sc .b] R w :=
  call_of (P := Try.prog) (tup := false) (rs := [.sc .b]) Try.checked.mixed disk_Disk_act_ann (by kernel_rfl) Try.func30 (by kernel_rfl) Try.ntmps30 (by show Try.f30.results.size = 1; kernel_rfl) (by rw [← disk_Disk_act_den] at h; exact h)

/-- slices.Clone[[]byte,byte] -/
abbrev i_slices_Clone : FuncId := 31
def slices_Clone (p_s : Sl) (R : TR [.sc .sl] → Pr) : Pr :=
  Br (Option.isNone p_s.p) (
  R (⟨none, 0, 0⟩, ())) (
  New #[] 5 fun a1 =>
  App 5 1 1 (zc Try.prog 5) ⟨(some a1), 0, 0⟩ p_s.len (srcS p_s.p p_s.len 1) fun r2 =>
  R (r2, ()))
def slices_Clone_ann : Ann := .seq .leaf (.seq (.seq .leaf (.cond (.seq .leaf .leaf) .leaf)) (.seq .leaf .leaf))
set_option maxRecDepth 100000 in
theorem slices_Clone_den (p_s : Sl) (R : TR [.sc .sl] → Pr) : den Try.prog slices_Clone_ann (Try.f31.body.getD .skip) (retQ Try.prog Try.f31.results.toList false [.sc .sl] R) [] (env0 8 [(.slice p_s.p p_s.len p_s.cap)]) = slices_Clone p_s R := by
  kernel_rfl
set_option maxRecDepth 100000 in
theorem slices_Clone_call (p_s : Sl) {R : TR [.sc .sl] → Pr} {w : World} (h : slices_Clone p_s R w) : Cl Try.prog 31 [(.slice p_s.p p_s.len p_s.cap)] false [.sc .sl] R w :=
  call_of (P := Try.prog) (tup := false) (rs := [.sc .sl]) Try.checked.mixed slices_Clone_ann (by kernel_rfl) Try.func31 (by kernel_rfl) Try.ntmps31 (by show Try.f31.results.size = 1; kernel_rfl) (by rw [← slices_Clone_den] at h; exact h)

/-- slices.Sorted[int] -/
abbrev i_slices_Sorted : FuncId := 32
def slices_Sorted (p_seq : Value) (R : TR [.sc .sl] → Pr) : Pr :=
  Cl Try.prog 40 [p_seq] false [.sc .sl] fun r1 =>
  Cl Try.prog 41 [(.slice r1.1.p r1.1.len r1.1.cap)] true [] fun r2 =>
  R (r1.1, ())
def slices_Sorted_ann : Ann := .seq .leaf (.seq .leaf (.seq .leaf (.seq .leaf .leaf)))
set_option maxRecDepth 100000 in
theorem slices_Sorted_den (p_seq : Value) (R : TR [.sc .sl] → Pr) : den Try.prog slices_Sorted_ann (Try.f32.body.getD .skip) (retQ Try.prog Try.f32.results.toList false [.sc .sl] R) [] (env0 9 [p_seq]) = slices_Sorted p_seq R := by
  kernel_rfl
set_option maxRecDepth 100000 in
theorem slices_Sorted_call (p_seq : Value) {R : TR [.sc .sl] → Pr} {w : World} (h : slices_Sorted p_seq R w) : Cl Try.prog 32 [p_seq] false [.sc .sl] R w :=
  call_of (P := Try.prog) (tup := false) (rs := [.sc .sl]) Try.checked.mixed slices_Sorted_ann (by kernel_rfl) Try.func32 (by kernel_rfl) Try.ntmps32 (by show Try.f32.results.size = 1; kernel_rfl) (by rw [← slices_Sorted_den] at h; exact h)

/-- maps.Keys[map[int]sumpter/disk.sector,int,sumpter/disk.sector] -/
abbrev i_maps_Keys : FuncId := 33
def maps_Keys (p_m : Option Nat) (R : TR [.sc .v] → Pr) : Pr :=
  New #[(.map p_m)] 54 fun a1 =>
  R ((.func (.func 42) #[] #[(.pointer (some a1))]), ())
def maps_Keys_ann : Ann := .seq .leaf (.seq .leaf .leaf)
set_option maxRecDepth 100000 in
theorem maps_Keys_den (p_m : Option Nat) (R : TR [.sc .v] → Pr) : den Try.prog maps_Keys_ann (Try.f33.body.getD .skip) (retQ Try.prog Try.f33.results.toList false [.sc .v] R) [] (env0 4 [(.map p_m)]) = maps_Keys p_m R := by
  kernel_rfl
set_option maxRecDepth 100000 in
theorem maps_Keys_call (p_m : Option Nat) {R : TR [.sc .v] → Pr} {w : World} (h : maps_Keys p_m R w) : Cl Try.prog 33 [(.map p_m)] false [.sc .v] R w :=
  call_of (P := Try.prog) (tup := false) (rs := [.sc .v]) Try.checked.mixed maps_Keys_ann (by kernel_rfl) Try.func33 (by kernel_rfl) Try.ntmps33 (by show Try.f33.results.size = 1; kernel_rfl) (by rw [← maps_Keys_den] at h; exact h)

/-- slices.Clone[[]sumpter/disk.sector,sumpter/disk.sector] -/
abbrev i_slices_Clone_34 : FuncId := 34
def slices_Clone_34 (p_s : Sl) (R : TR [.sc .sl] → Pr) : Pr :=
  Br (Option.isNone p_s.p) (
  R (⟨none, 0, 0⟩, ())) (
  New #[] 59 fun a1 =>
  App 59 64 64 (zc Try.prog 59) ⟨(some a1), 0, 0⟩ p_s.len (srcS p_s.p p_s.len 64) fun r2 =>
  R (r2, ()))
def slices_Clone_34_ann : Ann := .seq .leaf (.seq (.seq .leaf (.cond (.seq .leaf .leaf) .leaf)) (.seq .leaf .leaf))
set_option maxRecDepth 100000 in
theorem slices_Clone_34_den (p_s : Sl) (R : TR [.sc .sl] → Pr) : den Try.prog slices_Clone_34_ann (Try.f34.body.getD .skip) (retQ Try.prog Try.f34.results.toList false [.sc .sl] R) [] (env0 8 [(.slice p_s.p p_s.len p_s.cap)]) = slices_Clone_34 p_s R := by
  kernel_rfl
set_option maxRecDepth 100000 in
theorem slices_Clone_34_call (p_s : Sl) {R : TR [.sc .sl] → Pr} {w : World} (h : slices_Clone_34 p_s R w) : Cl Try.prog 34 [(.slice p_s.p p_s.len p_s.cap)] false [.sc .sl] R w :=
  call_of (P := Try.prog) (tup := false) (rs := [.sc .sl]) Try.checked.mixed slices_Clone_34_ann (by kernel_rfl) Try.func34 (by kernel_rfl) Try.ntmps34 (by show Try.f34.results.size = 1; kernel_rfl) (by rw [← slices_Clone_34_den] at h; exact h)

/-- (*sumpter/sumpterref06.Disk).act -/
abbrev i_sumpterref06_Disk_act : FuncId := 36
def sumpterref06_Disk_act (p_d : Option Addr) (R : TR [.sc .b] → Pr) : Pr :=
  Nn p_d fun a1 =>
  LdI .i64 (a1.add 2) fun x2 =>
  Br ((x2 : Int) == 0) (
  Nn p_d fun a3 =>
  St (a3.add 3) (.bool true) <|
  R (false, ())) (
  Jp (σ := Unit) (fun s5 =>
  R (true, ())) fun J4 =>
  Nn p_d fun a6 =>
  LdI .i64 (a6.add 2) fun x7 =>
  Br (decide ((x7 : Int) > 0)) (
  Nn p_d fun a8 =>
  LdI .i64 (a8.add 2) fun x9 =>
  Nn p_d fun a10 =>
  St (a10.add 2) (.int .i64 (w64 (x9 - 1))) <|
  J4 ()) (
  J4 ()))
def sumpterref06_Disk_act_ann : Ann := .seq .leaf (.seq (.seq .leaf (.cond (.seq .leaf (.seq .leaf .leaf)) .leaf)) (.seq (.join [] (.seq .leaf (.cond .leaf .leaf))) (.seq .leaf .leaf)))
set_option maxRecDepth 100000 in
theorem sumpterref06_Disk_act_den (p_d : Option Addr) (R : TR [.sc .b] → Pr) : den Try.prog sumpterref06_Disk_act_ann (Try.f36.body.getD .skip) (retQ Try.prog Try.f36.results.toList false [.sc .b] R) [] (env0 23 [(.pointer p_d)]) = sumpterref06_Disk_act p_d R := by
  kernel_rfl
set_option maxRecDepth 100000 in
theorem sumpterref06_Disk_act_call (p_d : Option Addr) {R : TR [.sc .b] → Pr} {w : World} (h : sumpterref06_Disk_act p_d R w) : Cl Try.prog 36 [(.pointer p_d)] false [.sc .b] R w :=
  call_of (P := Try.prog) (tup := false) (rs := [.sc .b]) Try.checked.mixed sumpterref06_Disk_act_ann (by kernel_rfl) Try.func36 (by kernel_rfl) Try.ntmps36 (by show Try.f36.results.size = 1; kernel_rfl) (by rw [← sumpterref06_Disk_act_den] at h; exact h)

/-- (*sumpter/sumpterref06.Disk).Waits -/
abbrev i_sumpterref06_Disk_Waits : FuncId := 37
def sumpterref06_Disk_Waits (p_d : Option Addr) (R : TR [.sc .sl] → Pr) : Pr :=
  Nn p_d fun a1 =>
  LdL (a1.add 1) fun x2 =>
  Lp (σ := Sl × Int × Unit) (fun L3 s4 =>
  Br (decide ((s4.2.1 : Int) < ((x2.len : Nat) : Int))) (
  Jp (σ := Sl × Unit) (fun s6 =>
  L3 (s6.1, (w64 (s4.2.1 + 1)), ())) fun J5 =>
  Ix x2 s4.2.1 1 fun a7 =>
  LdS a7 fun x8 =>
  Br (!(seq x8 (BA []))) (
  New #[(.int .i64 s4.2.1)] 3 fun a9 =>
  App 3 1 8 (zc Try.prog 3) s4.1 1 (srcS (some a9) 1 1) fun r10 =>
  J5 (r10, ())) (
  J5 (s4.1, ()))) (
  R (s4.1, ()))) (⟨none, 0, 0⟩, 0, ())
def sumpterref06_Disk_Waits_ann : Ann := .seq .leaf (.seq .leaf (.seq (.seq .leaf (.block (.loop [(3, .sc .sl), (11, .sc (.i .i64))] (.seq .leaf (.seq (.cond .leaf .leaf) (.seq (.join [(3, .sc .sl)] (.block (.seq .leaf (.seq .leaf (.cond .leaf .leaf))))) .leaf)))))) (.seq .leaf .leaf)))
set_option maxRecDepth 100000 in
theorem sumpterref06_Disk_Waits_den (p_d : Option Addr) (R : TR [.sc .sl] → Pr) : den Try.prog sumpterref06_Disk_Waits_ann (Try.f37.body.getD .skip) (retQ Try.prog Try.f37.results.toList false [.sc .sl] R) [] (env0 24 [(.pointer p_d)]) = sumpterref06_Disk_Waits p_d R := by
  kernel_rfl
set_option maxRecDepth 100000 in
theorem sumpterref06_Disk_Waits_call (p_d : Option Addr) {R : TR [.sc .sl] → Pr} {w : World} (h : sumpterref06_Disk_Waits p_d R w) : Cl Try.prog 37 [(.pointer p_d)] false [.sc .sl] R w :=
  call_of (P := Try.prog) (tup := false) (rs := [.sc .sl]) Try.checked.mixed sumpterref06_Disk_Waits_ann (by kernel_rfl) Try.func37 (by kernel_rfl) Try.ntmps37 (by show Try.f37.results.size = 1; kernel_rfl) (by rw [← sumpterref06_Disk_Waits_den] at h; exact h)

/-- (*sumpter/disk.Disk).Sectors -/
abbrev i_disk_Disk_Sectors : FuncId := 38
def disk_Disk_Sectors (p_d : Option Addr) (R : TR [.sc (.i .i64)] → Pr) : Pr :=
  Nn p_d fun a1 =>
  LdL (a1.add 0) fun x2 =>
  R (((x2.len : Nat) : Int), ())
def disk_Disk_Sectors_ann : Ann := .seq .leaf (.seq .leaf .leaf)
set_option maxRecDepth 100000 in
theorem disk_Disk_Sectors_den (p_d : Option Addr) (R : TR [.sc (.i .i64)] → Pr) : den Try.prog disk_Disk_Sectors_ann (Try.f38.body.getD .skip) (retQ Try.prog Try.f38.results.toList false [.sc (.i .i64)] R) [] (env0 8 [(.pointer p_d)]) = disk_Disk_Sectors p_d R := by
  kernel_rfl
set_option maxRecDepth 100000 in
theorem disk_Disk_Sectors_call (p_d : Option Addr) {R : TR [.sc (.i .i64)] → Pr} {w : World} (h : disk_Disk_Sectors p_d R w) : Cl Try.prog 38 [(.pointer p_d)] false [.sc (.i .i64)] R w :=
  call_of (P := Try.prog) (tup := false) (rs := [.sc (.i .i64)]) Try.checked.mixed disk_Disk_Sectors_ann (by kernel_rfl) Try.func38 (by kernel_rfl) Try.ntmps38 (by show Try.f38.results.size = 1; kernel_rfl) (by rw [← disk_Disk_Sectors_den] at h; exact h)

/-- (*sumpter/sumpterref06.Disk).Read -/
abbrev i_sumpterref06_Disk_Read : FuncId := 39
def sumpterref06_Disk_Read (p_d : Option Addr) (p_i : Int) (R : TR [.sc .sl, .sc (.i .i64)] → Pr) : Pr :=
  Nn p_d fun a1 =>
  LdB (a1.add 3) fun x2 =>
  Br x2 (
  R (⟨none, 0, 0⟩, 60, ())) (
  Jp (σ := Bool × Unit) (fun s4 =>
  Br s4.1 (
  R (⟨none, 0, 0⟩, 61, ())) (
  Nn p_d fun a5 =>
  LdL (a5.add 1) fun x6 =>
  Ix x6 p_i 1 fun a7 =>
  LdS a7 fun x8 =>
  Br (!(seq x8 (BA []))) (
  Nn p_d fun a9 =>
  LdL (a9.add 1) fun x10 =>
  Ix x10 p_i 1 fun a11 =>
  LdS a11 fun x12 =>
  StoB 5 x12 fun r13 =>
  R (r13, 0, ())) (
  Nn p_d fun a14 =>
  LdL (a14.add 0) fun x15 =>
  Ix x15 p_i 1 fun a16 =>
  LdS a16 fun x17 =>
  StoB 5 x17 fun r18 =>
  R (r18, 0, ())))) fun J3 =>
  Br (decide ((p_i : Int) < 0)) (
  J3 (true, ())) (
  Nn p_d fun a19 =>
  LdL (a19.add 0) fun x20 =>
  J3 ((decide ((p_i : Int) ≥ ((x20.len : Nat) : Int))), ())))
def sumpterref06_Disk_Read_ann : Ann := .seq .leaf (.seq (.block (.seq .leaf (.cond (.seq .leaf .leaf) (.seq (.join [(11, .sc .b)] .leaf) (.cond (.seq .leaf .leaf) (.seq .leaf (.cond (.seq .leaf .leaf) .leaf))))))) (.seq .leaf .leaf))
set_option maxRecDepth 100000 in
theorem sumpterref06_Disk_Read_den (p_d : Option Addr) (p_i : Int) (R : TR [.sc .sl, .sc (.i .i64)] → Pr) : den Try.prog sumpterref06_Disk_Read_ann (Try.f39.body.getD .skip) (retQ Try.prog Try.f39.results.toList true [.sc .sl, .sc (.i .i64)] R) [] (env0 48 [(.pointer p_d), (.int .i64 p_i)]) = sumpterref06_Disk_Read p_d p_i R := by
  kernel_rfl
set_option maxRecDepth 100000 in
theorem sumpterref06_Disk_Read_call (p_d : Option Addr) (p_i : Int) {R : TR [.sc .sl, .sc (.i .i64)] → Pr} {w : World} (h : sumpterref06_Disk_Read p_d p_i R w) : Cl Try.prog 39 [(.pointer p_d), (.int .i64 p_i)] true [.sc .sl, .sc (.i .i64)] R w :=
  call_of (P := Try.prog) (tup := true) (rs := [.sc .sl, .sc (.i .i64)]) Try.checked.mixed sumpterref06_Disk_Read_ann (by kernel_rfl) Try.func39 (by kernel_rfl) Try.ntmps39 (by show Nat.beq Try.f39.results.size 1 = false; kernel_rfl) (by rw [← sumpterref06_Disk_Read_den] at h; exact h)

/-- slices.Collect[int] -/
abbrev i_slices_Collect : FuncId := 40
def slices_Collect (p_seq : Value) (R : TR [.sc .sl] → Pr) : Pr :=
  Cl Try.prog 44 [(.slice none 0 0), p_seq] false [.sc .sl] fun r1 =>
  R (r1.1, ())
def slices_Collect_ann : Ann := .seq .leaf (.seq .leaf .leaf)
set_option maxRecDepth 100000 in
theorem slices_Collect_den (p_seq : Value) (R : TR [.sc .sl] → Pr) : den Try.prog slices_Collect_ann (Try.f40.body.getD .skip) (retQ Try.prog Try.f40.results.toList false [.sc .sl] R) [] (env0 5 [p_seq]) = slices_Collect p_seq R := by
  kernel_rfl
set_option maxRecDepth 100000 in
theorem slices_Collect_call (p_seq : Value) {R : TR [.sc .sl] → Pr} {w : World} (h : slices_Collect p_seq R w) : Cl Try.prog 40 [p_seq] false [.sc .sl] R w :=
  call_of (P := Try.prog) (tup := false) (rs := [.sc .sl]) Try.checked.mixed slices_Collect_ann (by kernel_rfl) Try.func40 (by kernel_rfl) Try.ntmps40 (by show Try.f40.results.size = 1; kernel_rfl) (by rw [← slices_Collect_den] at h; exact h)

/-- slices.Sort[[]int,int] -/
abbrev i_slices_Sort : FuncId := 41
def slices_Sort (p_x : Sl) (R : TR [] → Pr) : Pr :=
  Cl Try.prog 46 [(.int .u64 (IntKind.u64.wrap (((p_x.len : Nat) : Int))))] false [.sc (.i .i64)] fun r1 =>
  Cl Try.prog 45 [(.slice p_x.p p_x.len p_x.cap), (.int .i64 0), (.int .i64 ((p_x.len : Nat) : Int)), (.int .i64 r1.1)] true [] fun r2 =>
  R ()
def slices_Sort_ann : Ann := .seq .leaf .leaf
set_option maxRecDepth 100000 in
theorem slices_Sort_den (p_x : Sl) (R : TR [] → Pr) : den Try.prog slices_Sort_ann (Try.f41.body.getD .skip) (retQ Try.prog Try.f41.results.toList true [] R) [] (env0 11 [(.slice p_x.p p_x.len p_x.cap)]) = slices_Sort p_x R := by
  kernel_rfl
set_option maxRecDepth 100000 in
theorem slices_Sort_call (p_x : Sl) {R : TR [] → Pr} {w : World} (h : slices_Sort p_x R w) : Cl Try.prog 41 [(.slice p_x.p p_x.len p_x.cap)] true [] R w :=
  call_of (P := Try.prog) (tup := true) (rs := []) Try.checked.mixed slices_Sort_ann (by kernel_rfl) Try.func41 (by kernel_rfl) Try.ntmps41 (by show Nat.beq Try.f41.results.size 1 = false; kernel_rfl) (by rw [← slices_Sort_den] at h; exact h)

/-- maps.Keys[map[int]sumpter/disk.sector,int,sumpter/disk.sector]$1 -/
abbrev i_maps_Keys_1 : FuncId := 42
def maps_Keys_1 (p_yield : Value) (p_c0 : Addr) (R : TR [] → Pr) : Pr :=
  LdM p_c0 fun x1 =>
  RgM x1 fun a2 =>
  Lp (σ := Unit) (fun L3 s4 =>
  NxM a2 (fun v5 v6 =>
  EnM a2 fun v7 v8 =>
  Ty (.i .i64) v7 fun x9 =>
  CallV Try.prog p_yield [(.int .i64 x9)] false [.sc .b] fun r10 =>
  Br (!r10.1) (
  R ()) (
  L3 ())) (
  R ())) ()
def maps_Keys_1_ann : Ann := .seq .leaf (.block (.loop [] (.seq .leaf (.seq (.cond .leaf .leaf) (.block (.seq .leaf (.seq .leaf (.cond .leaf .leaf))))))))
set_option maxRecDepth 100000 in
theorem maps_Keys_1_den (p_yield : Value) (p_c0 : Addr) (R : TR [] → Pr) : den Try.prog maps_Keys_1_ann (Try.f42.body.getD .skip) (retQ Try.prog Try.f42.results.toList true [] R) [] (env0 14 [p_yield, (.pointer (some p_c0))]) = maps_Keys_1 p_yield p_c0 R := by
  kernel_rfl
set_option maxRecDepth 100000 in
theorem maps_Keys_1_call (p_yield : Value) (p_c0 : Addr) {R : TR [] → Pr} {w : World} (h : maps_Keys_1 p_yield p_c0 R w) : Cl Try.prog 42 [p_yield, (.pointer (some p_c0))] true [] R w :=
  call_of (P := Try.prog) (tup := true) (rs := []) Try.checked.mixed maps_Keys_1_ann (by kernel_rfl) Try.func42 (by kernel_rfl) Try.ntmps42 (by show Nat.beq Try.f42.results.size 1 = false; kernel_rfl) (by rw [← maps_Keys_1_den] at h; exact h)

/-- slices.AppendSeq[[]int,int] -/
abbrev i_slices_AppendSeq : FuncId := 44
def slices_AppendSeq (p_s : Sl) (p_seq : Value) (R : TR [.sc .sl] → Pr) : Pr :=
  New #[(.slice p_s.p p_s.len p_s.cap)] 38 fun a1 =>
  RgV Try.prog (p_seq) [.sc (.i .i64)] (fun s2 bg3 en4 =>
  bg3 <|
  LdL a1 fun x5 =>
  New #[(.int .i64 s2.1)] 3 fun a6 =>
  App 3 1 8 (zc Try.prog 3) x5 1 (srcS (some a6) 1 1) fun r7 =>
  St a1 (.slice r7.p r7.len r7.cap) <|
  en4 none) fun D8 => Jm (
  LdL a1 fun x9 =>
  Md [D8] <|
  R (x9, ())) (
  Md [D8] <|
  R (⟨none, 0, 0⟩, ())) (fun _ => F)
def slices_AppendSeq_ann : Ann := .seq .leaf (.seq (.seq .leaf (.block (.range [(7, .sc (.i .i64))] [] .leaf (.block .leaf)))) (.seq .leaf .leaf))
set_option maxRecDepth 100000 in
theorem slices_AppendSeq_den (p_s : Sl) (p_seq : Value) (R : TR [.sc .sl] → Pr) : den Try.prog slices_AppendSeq_ann (Try.f44.body.getD .skip) (retQ Try.prog Try.f44.results.toList false [.sc .sl] R) [] (env0 13 [(.slice p_s.p p_s.len p_s.cap), p_seq]) = slices_AppendSeq p_s p_seq R := by
  kernel_rfl
set_option maxRecDepth 100000 in
theorem slices_AppendSeq_call (p_s : Sl) (p_seq : Value) {R : TR [.sc .sl] → Pr} {w : World} (h : slices_AppendSeq p_s p_seq R w) : Cl Try.prog 44 [(.slice p_s.p p_s.len p_s.cap), p_seq] false [.sc .sl] R w :=
  call_of (P := Try.prog) (tup := false) (rs := [.sc .sl]) Try.checked.mixed slices_AppendSeq_ann (by kernel_rfl) Try.func44 (by kernel_rfl) Try.ntmps44 (by show Try.f44.results.size = 1; kernel_rfl) (by rw [← slices_AppendSeq_den] at h; exact h)

/-- slices.pdqsortOrdered[int] -/
abbrev i_slices_pdqsortOrdered : FuncId := 45
def slices_pdqsortOrdered (p_data : Sl) (p_a : Int) (p_b : Int) (p_limit : Int) (R : TR [] → Pr) : Pr :=
  Lp (σ := Int × Int × Int × Bool × Bool × Unit) (fun L1 s2 =>
  Br (decide (((w64 (s2.2.1 - s2.1)) : Int) ≤ 12)) (
  Cl Try.prog 47 [(.slice p_data.p p_data.len p_data.cap), (.int .i64 s2.1), (.int .i64 s2.2.1)] true [] fun r3 =>
  R ()) (
  Br ((s2.2.2.1 : Int) == 0) (
  Cl Try.prog 48 [(.slice p_data.p p_data.len p_data.cap), (.int .i64 s2.1), (.int .i64 s2.2.1)] true [] fun r4 =>
  R ()) (
  Jp (σ := Int × Unit) (fun s6 =>
  Cl Try.prog 50 [(.slice p_data.p p_data.len p_data.cap), (.int .i64 s2.1), (.int .i64 s2.2.1)] true [.sc (.i .i64), .sc (.i .i64)] fun r7 =>
  Jp (σ := Int × Int × Unit) (fun s9 =>
  Jp (σ := Unit) (fun s11 =>
  Jp (σ := Bool × Unit) (fun s13 =>
  Br s13.1 (
  Cl Try.prog 54 [(.slice p_data.p p_data.len p_data.cap), (.int .i64 s2.1), (.int .i64 s2.2.1), (.int .i64 s9.1)] false [.sc (.i .i64)] fun r14 =>
  L1 (r14.1, s2.2.1, s6.1, s2.2.2.2.1, s2.2.2.2.2.1, ())) (
  Cl Try.prog 55 [(.slice p_data.p p_data.len p_data.cap), (.int .i64 s2.1), (.int .i64 s2.2.1), (.int .i64 s9.1)] true [.sc (.i .i64), .sc .b] fun r15 =>
  Req (8 ≠ (0 : Int)) <|
  Br (decide (((w64 (r15.1 - s2.1)) : Int) < (w64 (s2.2.1 - r15.1)))) (
  Cl Try.prog 45 [(.slice p_data.p p_data.len p_data.cap), (.int .i64 s2.1), (.int .i64 r15.1), (.int .i64 s6.1)] true [] fun r16 =>
  L1 ((w64 (r15.1 + 1)), s2.2.1, s6.1, (decide (((w64 (r15.1 - s2.1)) : Int) ≥ (w64 ((w64 (s2.2.1 - s2.1)).tdiv 8)))), r15.2.1, ())) (
  Cl Try.prog 45 [(.slice p_data.p p_data.len p_data.cap), (.int .i64 (w64 (r15.1 + 1))), (.int .i64 s2.2.1), (.int .i64 s6.1)] true [] fun r17 =>
  L1 (s2.1, r15.1, s6.1, (decide (((w64 (s2.2.1 - r15.1)) : Int) ≥ (w64 ((w64 (s2.2.1 - s2.1)).tdiv 8)))), r15.2.1, ())))) fun J12 =>
  Dr <|
  Br (decide ((s2.1 : Int) > 0)) (
  Ix p_data (w64 (s2.1 - 1)) 1 fun a18 =>
  LdI .i64 a18 fun x19 =>
  Ix p_data s9.1 1 fun a20 =>
  LdI .i64 a20 fun x21 =>
  Cl Try.prog 53 [(.int .i64 x19), (.int .i64 x21)] false [.sc .b] fun r22 =>
  J12 ((!r22.1), ())) (
  J12 (false, ()))) fun J10 =>
  Jp (σ := Bool × Unit) (fun s24 =>
  Br s24.1 (
  Cl Try.prog 52 [(.slice p_data.p p_data.len p_data.cap), (.int .i64 s2.1), (.int .i64 s2.2.1)] false [.sc .b] fun r25 =>
  Br r25.1 (
  R ()) (
  J10 ())) (
  J10 ())) fun J23 =>
  Br s2.2.2.2.1 (
  Br s2.2.2.2.2.1 (
  J23 (((s9.2.1 : Int) == 1), ())) (
  J23 (false, ()))) (
  J23 (false, ()))) fun J8 =>
  Br ((r7.2.1 : Int) == 2) (
  Cl Try.prog 51 [(.slice p_data.p p_data.len p_data.cap), (.int .i64 s2.1), (.int .i64 s2.2.1)] true [] fun r26 =>
  J8 ((w64 ((w64 (s2.2.1 - 1)) - (w64 (r7.1 - s2.1)))), 1, ())) (
  J8 (r7.1, r7.2.1, ()))) fun J5 =>
  Br (!s2.2.2.2.1) (
  Cl Try.prog 49 [(.slice p_data.p p_data.len p_data.cap), (.int .i64 s2.1), (.int .i64 s2.2.1)] true [] fun r27 =>
  J5 ((w64 (s2.2.2.1 - 1)), ())) (
  J5 (s2.2.2.1, ()))))) (p_a, p_b, p_limit, true, true, ())
def slices_pdqsortOrdered_ann : Ann := .seq .leaf (.seq .leaf (.block (.loop [(1, .sc (.i .i64)), (2, .sc (.i .i64)), (3, .sc (.i .i64)), (8, .sc .b), (9, .sc .b)] (.block (.seq .leaf (.seq (.seq .leaf (.cond (.seq .leaf .leaf) .leaf)) (.seq (.seq .leaf (.cond (.seq .leaf .leaf) .leaf)) (.seq (.join [(3, .sc (.i .i64))] (.seq .leaf (.cond (.seq .leaf .leaf) .leaf))) (.seq .leaf (.seq (.join [(11, .sc (.i .i64)), (12, .sc (.i .i64))] (.seq .leaf (.cond (.seq .leaf (.seq .leaf .leaf)) .leaf))) (.seq (.join [] (.seq (.join [(68, .sc .b)] .leaf) (.cond (.seq .leaf (.cond .leaf .leaf)) .leaf))) (.seq (.seq (.join [(87, .sc .b)] .leaf) (.cond (.seq .leaf (.seq .leaf .leaf)) .leaf)) (.seq .leaf (.seq .leaf (.seq .leaf (.seq .leaf (.seq .leaf (.cond (.seq .leaf (.seq .leaf .leaf)) (.seq .leaf (.seq .leaf .leaf))))))))))))))))))))
set_option maxRecDepth 100000 in
theorem slices_pdqsortOrdered_den (p_data : Sl) (p_a : Int) (p_b : Int) (p_limit : Int) (R : TR [] → Pr) : den Try.prog slices_pdqsortOrdered_ann (Try.f45.body.getD .skip) (retQ Try.prog Try.f45.results.toList true [] R) [] (env0 134 [(.slice p_data.p p_data.len p_data.cap), (.int .i64 p_a), (.int .i64 p_b), (.int .i64 p_limit)]) = slices_pdqsortOrdered p_data p_a p_b p_limit R := by
  kernel_rfl
set_option maxRecDepth 100000 in
theorem slices_pdqsortOrdered_call (p_data : Sl) (p_a : Int) (p_b : Int) (p_limit : Int) {R : TR [] → Pr} {w : World} (h : slices_pdqsortOrdered p_data p_a p_b p_limit R w) : Cl Try.prog 45 [(.slice p_data.p p_data.len p_data.cap), (.int .i64 p_a), (.int .i64 p_b), (.int .i64 p_limit)] true [] R w :=
  call_of (P := Try.prog) (tup := true) (rs := []) Try.checked.mixed slices_pdqsortOrdered_ann (by kernel_rfl) Try.func45 (by kernel_rfl) Try.ntmps45 (by show Nat.beq Try.f45.results.size 1 = false; kernel_rfl) (by rw [← slices_pdqsortOrdered_den] at h; exact h)

/-- math/bits.Len -/
abbrev i_math_bits_Len : FuncId := 46
def math_bits_Len (p_x : Int) (R : TR [.sc (.i .i64)] → Pr) : Pr :=
  Cl Try.prog 57 [(.int .u64 p_x)] false [.sc (.i .i64)] fun r1 =>
  R (r1.1, ())
def math_bits_Len_ann : Ann := .seq .leaf (.seq (.cond .leaf .leaf) (.seq .leaf .leaf))
set_option maxRecDepth 100000 in
theorem math_bits_Len_den (p_x : Int) (R : TR [.sc (.i .i64)] → Pr) : den Try.prog math_bits_Len_ann (Try.f46.body.getD .skip) (retQ Try.prog Try.f46.results.toList false [.sc (.i .i64)] R) [] (env0 8 [(.int .u64 p_x)]) = math_bits_Len p_x R := by
  kernel_rfl
set_option maxRecDepth 100000 in
theorem math_bits_Len_call (p_x : Int) {R : TR [.sc (.i .i64)] → Pr} {w : World} (h : math_bits_Len p_x R w) : Cl Try.prog 46 [(.int .u64 p_x)] false [.sc (.i .i64)] R w :=
  call_of (P := Try.prog) (tup := false) (rs := [.sc (.i .i64)]) Try.checked.mixed math_bits_Len_ann (by kernel_rfl) Try.func46 (by kernel_rfl) Try.ntmps46 (by show Try.f46.results.size = 1; kernel_rfl) (by rw [← math_bits_Len_den] at h; exact h)

/-- slices.insertionSortOrdered[int] -/
abbrev i_slices_insertionSortOrdered : FuncId := 47
def slices_insertionSortOrdered (p_data : Sl) (p_a : Int) (p_b : Int) (R : TR [] → Pr) : Pr :=
  Lp (σ := Int × Unit) (fun L1 s2 =>
  Br (decide ((s2.1 : Int) < p_b)) (
  Lp (σ := Int × Unit) (fun L3 s4 =>
  Jp (σ := Bool × Unit) (fun s6 =>
  Br s6.1 (
  Dr <|
  Ix p_data (w64 (s4.1 - 1)) 1 fun a7 =>
  LdI .i64 a7 fun x8 =>
  Ix p_data s4.1 1 fun a9 =>
  LdI .i64 a9 fun x10 =>
  Ix p_data s4.1 1 fun a11 =>
  St a11 (.int .i64 x8) <|
  Ix p_data (w64 (s4.1 - 1)) 1 fun a12 =>
  St a12 (.int .i64 x10) <|
  L3 ((w64 (s4.1 - 1)), ())) (
  L1 ((w64 (s2.1 + 1)), ()))) fun J5 =>
  Dr <|
  Br (decide ((s4.1 : Int) > p_a)) (
  Ix p_data s4.1 1 fun a13 =>
  LdI .i64 a13 fun x14 =>
  Ix p_data (w64 (s4.1 - 1)) 1 fun a15 =>
  LdI .i64 a15 fun x16 =>
  Cl Try.prog 53 [(.int .i64 x14), (.int .i64 x16)] false [.sc .b] fun r17 =>
  J5 (r17.1, ())) (
  J5 (false, ()))) (s2.1, ())) (
  R ())) ((w64 (p_a + 1)), ())
def slices_insertionSortOrdered_ann : Ann := .seq .leaf (.block (.loop [(6, .sc (.i .i64))] (.seq (.seq .leaf (.cond .leaf .leaf)) (.seq (.block (.seq .leaf (.block (.loop [(7, .sc (.i .i64))] (.seq (.seq (.join [(30, .sc .b)] .leaf) (.cond .leaf .leaf)) (.seq (.block .leaf) .leaf)))))) .leaf))))
set_option maxRecDepth 100000 in
theorem slices_insertionSortOrdered_den (p_data : Sl) (p_a : Int) (p_b : Int) (R : TR [] → Pr) : den Try.prog slices_insertionSortOrdered_ann (Try.f47.body.getD .skip) (retQ Try.prog Try.f47.results.toList true [] R) [] (env0 49 [(.slice p_data.p p_data.len p_data.cap), (.int .i64 p_a), (.int .i64 p_b)]) = slices_insertionSortOrdered p_data p_a p_b R := by
  kernel_rfl
set_option maxRecDepth 100000 in
theorem slices_insertionSortOrdered_call (p_data : Sl) (p_a : Int) (p_b : Int) {R : TR [] → Pr} {w : World} (h : slices_insertionSortOrdered p_data p_a p_b R w) : Cl Try.prog 47 [(.slice p_data.p p_data.len p_data.cap), (.int .i64 p_a), (.int .i64 p_b)] true [] R w :=
  call_of (P := Try.prog) (tup := true) (rs := []) Try.checked.mixed slices_insertionSortOrdered_ann (by kernel_rfl) Try.func47 (by kernel_rfl) Try.ntmps47 (by show Nat.beq Try.f47.results.size 1 = false; kernel_rfl) (by rw [← slices_insertionSortOrdered_den] at h; exact h)

/-- math/bits.Len32 -/
abbrev i_math_bits_Len32 : FuncId := 56
def math_bits_Len32 (p_x : Int) (R : TR [.sc (.i .i64)] → Pr) : Pr :=
  Jp (σ := Int × Int × Unit) (fun s2 =>
  Jp (σ := Int × Int × Unit) (fun s4 =>
  IxS (BA [0, 1, 2, 2, 3, 3, 3, 3, 4, 4, 4, 4, 4, 4, 4, 4, 5, 5, 5, 5, 5, 5, 5, 5, 5, 5, 5, 5, 5, 5, 5, 5, 6, 6, 6, 6, 6, 6, 6, 6, 6, 6, 6, 6, 6, 6, 6, 6, 6, 6, 6, 6, 6, 6, 6, 6, 6, 6, 6, 6, 6, 6, 6, 6, 7, 7, 7, 7, 7, 7, 7, 7, 7, 7, 7, 7, 7, 7, 7, 7, 7, 7, 7, 7, 7, 7, 7, 7, 7, 7, 7, 7, 7, 7, 7, 7, 7, 7, 7, 7, 7, 7, 7, 7, 7, 7, 7, 7, 7, 7, 7, 7, 7, 7, 7, 7, 7, 7, 7, 7, 7, 7, 7, 7, 7, 7, 7, 7, 8, 8, 8, 8, 8, 8, 8, 8, 8, 8, 8, 8, 8, 8, 8, 8, 8, 8, 8, 8, 8, 8, 8, 8, 8, 8, 8, 8, 8, 8, 8, 8, 8, 8, 8, 8, 8, 8, 8, 8, 8, 8, 8, 8, 8, 8, 8, 8, 8, 8, 8, 8, 8, 8, 8, 8, 8, 8, 8, 8, 8, 8, 8, 8, 8, 8, 8, 8, 8, 8, 8, 8, 8, 8, 8, 8, 8, 8, 8, 8, 8, 8, 8, 8, 8, 8, 8, 8, 8, 8, 8, 8, 8, 8, 8, 8, 8, 8, 8, 8, 8, 8, 8, 8, 8, 8, 8, 8, 8, 8, 8, 8, 8, 8, 8, 8, 8, 8, 8, 8, 8, 8, 8, 8, 8, 8, 8, 8]) (IntKind.u8.wrap (s4.1)) fun c5 =>
  R ((w64 (s4.2.1 + (w64 (c5)))), ())) fun J3 =>
  Br (decide ((s2.1 : Int) ≥ 256)) (
  Req ((0 : Int) ≤ 8) <|
  J3 ((ishr .u32 s2.1 8), (w64 (s2.2.1 + 8)), ())) (
  J3 (s2.1, s2.2.1, ()))) fun J1 =>
  Br (decide ((p_x : Int) ≥ 65536)) (
  Req ((0 : Int) ≤ 16) <|
  J1 ((ishr .u32 p_x 16), 16, ())) (
  J1 (p_x, 0, ()))
def math_bits_Len32_ann : Ann := .seq .leaf (.seq (.join [(0, .sc (.i .u32)), (2, .sc (.i .i64))] (.seq .leaf (.cond (.seq .leaf .leaf) .leaf))) (.seq (.join [(0, .sc (.i .u32)), (2, .sc (.i .i64))] (.seq .leaf (.cond (.seq .leaf .leaf) .leaf))) (.seq .leaf .leaf)))
set_option maxRecDepth 100000 in
theorem math_bits_Len32_den (p_x : Int) (R : TR [.sc (.i .i64)] → Pr) : den Try.prog math_bits_Len32_ann (Try.f56.body.getD .skip) (retQ Try.prog Try.f56.results.toList false [.sc (.i .i64)] R) [] (env0 19 [(.int .u32 p_x)]) = math_bits_Len32 p_x R := by
  kernel_rfl
set_option maxRecDepth 100000 in
theorem math_bits_Len32_call (p_x : Int) {R : TR [.sc (.i .i64)] → Pr} {w : World} (h : math_bits_Len32 p_x R w) : Cl Try.prog 56 [(.int .u32 p_x)] false [.sc (.i .i64)] R w :=
  call_of (P := Try.prog) (tup := false) (rs := [.sc (.i .i64)]) Try.checked.mixed math_bits_Len32_ann (by kernel_rfl) Try.func56 (by kernel_rfl) Try.ntmps56 (by show Try.f56.results.size = 1; kernel_rfl) (by rw [← math_bits_Len32_den] at h; exact h)

/-- math/bits.Len64 -/
abbrev i_math_bits_Len64 : FuncId := 57
def math_bits_Len64 (p_x : Int) (R : TR [.sc (.i .i64)] → Pr) : Pr :=
  Jp (σ := Int × Int × Unit) (fun s2 =>
  Jp (σ := Int × Int × Unit) (fun s4 =>
  Jp (σ := Int × Int × Unit) (fun s6 =>
  IxS (BA [0, 1, 2, 2, 3, 3, 3, 3, 4, 4, 4, 4, 4, 4, 4, 4, 5, 5, 5, 5, 5, 5, 5, 5, 5, 5, 5, 5, 5, 5, 5, 5, 6, 6, 6, 6, 6, 6, 6, 6, 6, 6, 6, 6, 6, 6, 6, 6, 6, 6, 6, 6, 6, 6, 6, 6, 6, 6, 6, 6, 6, 6, 6, 6, 7, 7, 7, 7, 7, 7, 7, 7, 7, 7, 7, 7, 7, 7, 7, 7, 7, 7, 7, 7, 7, 7, 7, 7, 7, 7, 7, 7, 7, 7, 7, 7, 7, 7, 7, 7, 7, 7, 7, 7, 7, 7, 7, 7, 7, 7, 7, 7, 7, 7, 7, 7, 7, 7, 7, 7, 7, 7, 7, 7, 7, 7, 7, 7, 8, 8, 8, 8, 8, 8, 8, 8, 8, 8, 8, 8, 8, 8, 8, 8, 8, 8, 8, 8, 8, 8, 8, 8, 8, 8, 8, 8, 8, 8, 8, 8, 8, 8, 8, 8, 8, 8, 8, 8, 8, 8, 8, 8, 8, 8, 8, 8, 8, 8, 8, 8, 8, 8, 8, 8, 8, 8, 8, 8, 8, 8, 8, 8, 8, 8, 8, 8, 8, 8, 8, 8, 8, 8, 8, 8, 8, 8, 8, 8, 8, 8, 8, 8, 8, 8, 8, 8, 8, 8, 8, 8, 8, 8, 8, 8, 8, 8, 8, 8, 8, 8, 8, 8, 8, 8, 8, 8, 8, 8, 8, 8, 8, 8, 8, 8, 8, 8, 8, 8, 8, 8, 8, 8, 8, 8, 8, 8]) (IntKind.u8.wrap (s6.1)) fun c7 =>
  R ((w64 (s6.2.1 + (w64 (c7)))), ())) fun J5 =>
  Br (decide ((s4.1 : Int) ≥ 256)) (
  Req ((0 : Int) ≤ 8) <|
  J5 ((ishr .u64 s4.1 8), (w64 (s4.2.1 + 8)), ())) (
  J5 (s4.1, s4.2.1, ()))) fun J3 =>
  Br (decide ((s2.1 : Int) ≥ 65536)) (
  Req ((0 : Int) ≤ 16) <|
  J3 ((ishr .u64 s2.1 16), (w64 (s2.2.1 + 16)), ())) (
  J3 (s2.1, s2.2.1, ()))) fun J1 =>
  Br (decide ((p_x : Int) ≥ 4294967296)) (
  Req ((0 : Int) ≤ 32) <|
  J1 ((ishr .u64 p_x 32), 32, ())) (
  J1 (p_x, 0, ()))
def math_bits_Len64_ann : Ann := .seq .leaf (.seq (.join [(0, .sc (.i .u64)), (2, .sc (.i .i64))] (.seq .leaf (.cond (.seq .leaf .leaf) .leaf))) (.seq (.join [(0, .sc (.i .u64)), (2, .sc (.i .i64))] (.seq .leaf (.cond (.seq .leaf .leaf) .leaf))) (.seq (.join [(0, .sc (.i .u64)), (2, .sc (.i .i64))] (.seq .leaf (.cond (.seq .leaf .leaf) .leaf))) (.seq .leaf .leaf))))
set_option maxRecDepth 100000 in
theorem math_bits_Len64_den (p_x : Int) (R : TR [.sc (.i .i64)] → Pr) : den Try.prog math_bits_Len64_ann (Try.f57.body.getD .skip) (retQ Try.prog Try.f57.results.toList false [.sc (.i .i64)] R) [] (env0 25 [(.int .u64 p_x)]) = math_bits_Len64 p_x R := by
  kernel_rfl
set_option maxRecDepth 100000 in
theorem math_bits_Len64_call (p_x : Int) {R : TR [.sc (.i .i64)] → Pr} {w : World} (h : math_bits_Len64 p_x R w) : Cl Try.prog 57 [(.int .u64 p_x)] false [.sc (.i .i64)] R w :=
  call_of (P := Try.prog) (tup := false) (rs := [.sc (.i .i64)]) Try.checked.mixed math_bits_Len64_ann (by kernel_rfl) Try.func57 (by kernel_rfl) Try.ntmps57 (by show Try.f57.results.size = 1; kernel_rfl) (by rw [← math_bits_Len64_den] at h; exact h)

end Go.Proofs.Ythfgdoiaebfcdaa
