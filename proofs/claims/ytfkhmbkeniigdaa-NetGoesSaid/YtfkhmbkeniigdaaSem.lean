import Derived.Test.YtfkhmbkeniigdaaSxM
import Derived.Test.YtfkhmbkeniigdaaRows
set_option linter.unusedVariables false
namespace Go.Proofs.Ytfkhmbkeniigdaa
open Go Go.Sx

/-- sumpter/sumpterlaw07.NetOrder -/
def sumpterlaw07_NetOrder (p_l : Sl) (R : TR [.sc .b] → Pr) : Pr :=
  Cl Try.prog 5 [] false [.sc .b] fun r1 =>
  Cl Try.prog 6 [] false [.sc .p] fun r2 =>
  Jp (σ := Bool × Unit) (fun s4 =>
  Br s4.1 (
  Br r1.1 (
  R ((!(Option.isNone r2.1)), ())) (
  R (false, ()))) (
  Lp (σ := Bool × Sl × Int × Unit) (fun L5 s6 =>
  Br (decide ((s6.2.2.1 : Int) < ((p_l.len : Nat) : Int))) (
  Ix p_l s6.2.2.1 1 fun a7 =>
  LdS a7 fun x8 =>
  StoB 5 x8 fun r9 =>
  Cl Try.prog 7 [(.pointer r2.1), (.int .i64 s6.2.2.1), (.int .i64 (w64 (s6.2.2.1 + 1))), (.slice r9.p r9.len r9.cap)] false [.sc (.i .i64)] fun r10 =>
  Jp (σ := Sl × Int × Unit) (fun s12 =>
  Br ((r10.1 : Int) != s12.2.1) (
  R (false, ())) (
  L5 (s6.1, s12.1, (w64 (s6.2.2.1 + 1)), ()))) fun J11 =>
  Br (decide ((((x8.size : Nat) : Int) : Int) > 4103)) (
  J11 (s6.2.1, 2, ())) (
  Br (decide ((((s6.2.1.len : Nat) : Int) : Int) ≥ 128)) (
  J11 (s6.2.1, 62, ())) (
  New #[(.string x8)] 9 fun a13 =>
  App 9 1 16 (zc Try.prog 9) s6.2.1 1 (srcS (some a13) 1 1) fun r14 =>
  J11 (r14, 0, ())))) (
  Lp (σ := Bool × Int × Unit) (fun L15 s16 =>
  Br (decide ((s16.2.1 : Int) < ((s6.2.1.len : Nat) : Int))) (
  Ix s6.2.1 s16.2.1 1 fun a17 =>
  LdS a17 fun x18 =>
  Cl Try.prog 8 [(.pointer r2.1), (.int .i64 0)] true [.ag [(.i .i64), (.i .i64), .sl], .sc (.i .i64)] fun r19 =>
  New #[(.int .i64 0), (.int .i64 0), (.slice none 0 0)] 30 fun a20 =>
  St (a20.add 0) (.int .i64 r19.1.1) <|
  St (a20.add 1) (.int .i64 r19.1.2.1) <|
  St (a20.add 2) (.slice r19.1.2.2.1.p r19.1.2.2.1.len r19.1.2.2.1.cap) <|
  Jp (σ := Bool × Unit) (fun s22 =>
  Br s22.1 (
  R (false, ())) (
  L15 (s16.1, (w64 (s16.2.1 + 1)), ()))) fun J21 =>
  Br ((r19.2.1 : Int) != 0) (
  J21 (true, ())) (
  LdL (a20.add 2) fun x23 =>
  BtoS x23 fun s24 =>
  Br (!(seq s24 x18)) (
  J21 (true, ())) (
  LdI .i64 (a20.add 1) fun x25 =>
  LdI .i64 (a20.add 0) fun x26 =>
  J21 (((x25 : Int) != (w64 (x26 + 1))), ())))) (
  Cl Try.prog 8 [(.pointer r2.1), (.int .i64 0)] true [.ag [(.i .i64), (.i .i64), .sl], .sc (.i .i64)] fun r27 =>
  New #[(.int .i64 0), (.int .i64 0), (.slice none 0 0)] 30 fun a28 =>
  St (a28.add 0) (.int .i64 r27.1.1) <|
  St (a28.add 1) (.int .i64 r27.1.2.1) <|
  St (a28.add 2) (.slice r27.1.2.2.1.p r27.1.2.2.1.len r27.1.2.2.1.cap) <|
  Br r1.1 (
  Br ((r27.2.1 : Int) == 5) (
  Cl Try.prog 9 [(.pointer r2.1)] false [.sc (.i .i64)] fun r29 =>
  R (((r29.1 : Int) == 0), ())) (
  R (false, ()))) (
  R (false, ())))) (s6.1, 0, ()))) (false, ⟨none, 0, 0⟩, 0, ()))) fun J3 =>
  Br (Option.isNone r2.1) (
  J3 (true, ())) (
  J3 ((decide ((((p_l.len : Nat) : Int) : Int) > 200)), ()))
def sumpterlaw07_NetOrder_ann : Ann := .seq .leaf (.seq .leaf (.seq .leaf (.seq (.seq (.join [(24, .sc .b)] .leaf) (.cond (.seq .leaf .leaf) .leaf)) (.seq .leaf (.seq (.seq .leaf (.block (.loop [(2, .sc .b), (5, .sc .sl), (32, .sc (.i .i64))] (.seq .leaf (.seq (.cond .leaf .leaf) (.seq (.block (.seq .leaf (.seq .leaf (.seq .leaf (.seq (.join [(5, .sc .sl), (9, .sc (.i .i64))] (.block (.seq .leaf (.cond .leaf (.seq .leaf (.cond .leaf .leaf)))))) (.seq .leaf (.cond (.seq .leaf .leaf) .leaf))))))) .leaf)))))) (.seq (.seq .leaf (.block (.loop [(2, .sc .b), (62, .sc (.i .i64))] (.seq .leaf (.seq (.cond .leaf .leaf) (.seq (.block (.seq .leaf (.seq .leaf (.seq (.join [(87, .sc .b)] .leaf) (.cond (.seq .leaf .leaf) .leaf))))) .leaf)))))) (.seq .leaf (.seq .leaf .leaf))))))))
set_option maxRecDepth 100000 in
theorem sumpterlaw07_NetOrder_den (p_l : Sl) (R : TR [.sc .b] → Pr) : den Try.prog sumpterlaw07_NetOrder_ann (Try.f3.body.getD .skip) (retQ Try.prog Try.f3.results.toList false [.sc .b] R) (env0 104 [(.slice p_l.p p_l.len p_l.cap)]) = sumpterlaw07_NetOrder p_l R := by
  kernel_rfl
theorem sumpterlaw07_NetOrder_call (p_l : Sl) {R : TR [.sc .b] → Pr} {w : World} (h : sumpterlaw07_NetOrder p_l R w) : Cl Try.prog 3 [(.slice p_l.p p_l.len p_l.cap)] false [.sc .b] R w :=
  call_of (P := Try.prog) (tup := false) (rs := [.sc .b]) Try.checked.mixed sumpterlaw07_NetOrder_ann (by kernel_rfl) Try.func3 (by kernel_rfl) Try.ntmps3 (by show Try.f3.results.size = 1; kernel_rfl) (by rw [← sumpterlaw07_NetOrder_den] at h; exact h)

/-- sumpter/sumpterlaw07.NetGoes -/
def sumpterlaw07_NetGoes (p_l : Sl) (R : TR [.sc .b] → Pr) : Pr :=
  Cl Try.prog 5 [] false [.sc .b] fun r1 =>
  Cl Try.prog 6 [] false [.sc .p] fun r2 =>
  New #[(.slice none 0 0)] 39 fun a3 =>
  Jp (σ := Bool × Unit) (fun s5 =>
  Br s5.1 (
  Br r1.1 (
  R ((!(Option.isNone r2.1)), ())) (
  R (false, ()))) (
  Lp (σ := Bool × Option Addr × Int × Unit) (fun L6 s7 =>
  Br (decide ((s7.2.2.1 : Int) < ((p_l.len : Nat) : Int))) (
  Jp (σ := Bool × Option Addr × Unit) (fun s9 =>
  L6 (s9.1, s9.2.1, (w64 (s7.2.2.1 + 1)), ())) fun J8 =>
  Ix p_l s7.2.2.1 6 fun a10 =>
  LdI .i64 (a10.add 0) fun x11 =>
  LdI .i64 (a10.add 1) fun x12 =>
  LdI .i64 (a10.add 2) fun x13 =>
  LdI .i64 (a10.add 3) fun x14 =>
  LdS (a10.add 4) fun x15 =>
  LdB (a10.add 5) fun x16 =>
  New #[(.int .i64 0), (.int .i64 0), (.int .i64 0), (.int .i64 0), (.string (BA [])), (.bool false)] 41 fun a17 =>
  St (a17.add 0) (.int .i64 x11) <|
  St (a17.add 1) (.int .i64 x12) <|
  St (a17.add 2) (.int .i64 x13) <|
  St (a17.add 3) (.int .i64 x14) <|
  St (a17.add 4) (.string x15) <|
  St (a17.add 5) (.bool x16) <|
  LdS (a17.add 4) fun x18 =>
  Br (decide ((((x18.size : Nat) : Int) : Int) > 10000)) (
  J8 (s7.1, s7.2.1, ())) (
  LdS (a17.add 4) fun x19 =>
  StoB 5 x19 fun r20 =>
  Jp (σ := Bool × Unit) (fun s22 =>
  Lp (σ := Int × Unit) (fun L23 s24 =>
  Br (decide ((s24.1 : Int) < ((r20.len : Nat) : Int))) (
  Ix r20 s24.1 1 fun a25 =>
  LdI .u8 a25 fun x26 =>
  Ix r20 s24.1 1 fun a27 =>
  St a27 (.int .u8 (IntKind.u8.wrap (x26 + 1))) <|
  L23 ((w64 (s24.1 + 1)), ())) (
  Jp (σ := Bool × Unit) (fun s29 =>
  Br s29.1 (
  R (false, ())) (
  LdB (a17.add 5) fun x30 =>
  Br x30 (
  Cl Try.prog 18 [(.pointer s7.2.1)] false [.sc .p] fun r31 =>
  Br (Option.isNone r31.1) (
  R (false, ())) (
  Cl Try.prog 7 [(.pointer s7.2.1), (.int .i64 9), (.int .i64 9), (.slice none 0 0)] false [.sc (.i .i64)] fun r32 =>
  New #[(.int .u8 122), (.int .u8 122)] 5 fun a33 =>
  MkS (some a33) <|
  Cl Try.prog 15 [(.pointer s7.2.1), (.int .i64 0), (.slice (some a33) 2 2)] false [.sc (.i .i64)] fun r34 =>
  J8 (s7.1, r31.1, ()))) (
  J8 (s7.1, s7.2.1, ())))) fun J28 =>
  Br (!s22.1) (
  J28 (true, ())) (
  Cl Try.prog 17 [(.pointer s7.2.1), (.pointer (some a3))] false [.sc .b] fun r35 =>
  J28 ((!r35.1), ())))) (0, ())) fun J21 =>
  LdI .i64 (a17.add 0) fun x36 =>
  Br ((x36 : Int) == 0) (
  Dr <|
  LdI .i64 (a17.add 1) fun x37 =>
  LdI .i64 (a17.add 2) fun x38 =>
  LdI .i64 (a17.add 1) fun x39 =>
  LdI .i64 (a17.add 2) fun x40 =>
  LdS (a17.add 4) fun x41 =>
  Cl Try.prog 7 [(.pointer s7.2.1), (.int .i64 x37), (.int .i64 x38), (.slice r20.p r20.len r20.cap)] false [.sc (.i .i64)] fun r42 =>
  Both (LdS (a17.add 4) fun x43 =>
  fun _ => ((.string x43) : Value) = (.string x41)) <|
  Both (LdI .i64 (a17.add 2) fun x44 =>
  fun _ => ((.int .i64 x44) : Value) = (.int .i64 x40)) <|
  Both (LdI .i64 (a17.add 1) fun x45 =>
  fun _ => ((.int .i64 x45) : Value) = (.int .i64 x39)) <|
  Cl Try.prog 10 [(.pointer (some a3)), (.int .i64 x39), (.int .i64 x40), (.string x41)] false [.sc (.i .i64)] fun r46 =>
  J21 (((r42.1 : Int) == r46.1), ())) (
  Br ((x36 : Int) == 1) (
  LdI .i64 (a17.add 3) fun x47 =>
  Cl Try.prog 8 [(.pointer s7.2.1), (.int .i64 x47)] true [.ag [(.i .i64), (.i .i64), .sl], .sc (.i .i64)] fun r48 =>
  New #[(.int .i64 0), (.int .i64 0), (.slice none 0 0)] 30 fun a49 =>
  St (a49.add 0) (.int .i64 r48.1.1) <|
  St (a49.add 1) (.int .i64 r48.1.2.1) <|
  St (a49.add 2) (.slice r48.1.2.2.1.p r48.1.2.2.1.len r48.1.2.2.1.cap) <|
  LdI .i64 (a17.add 3) fun x50 =>
  Cl Try.prog 11 [(.pointer (some a3)), (.int .i64 x50)] true [.ag [(.i .i64), (.i .i64), .s], .sc (.i .i64)] fun r51 =>
  New #[(.int .i64 0), (.int .i64 0), (.string (BA []))] 44 fun a52 =>
  St (a52.add 0) (.int .i64 r51.1.1) <|
  St (a52.add 1) (.int .i64 r51.1.2.1) <|
  St (a52.add 2) (.string r51.1.2.2.1) <|
  LdI .i64 (a49.add 0) fun x53 =>
  LdI .i64 (a52.add 0) fun x54 =>
  Br ((x53 : Int) == x54) (
  LdI .i64 (a49.add 1) fun x55 =>
  LdI .i64 (a52.add 1) fun x56 =>
  Br ((x55 : Int) == x56) (
  LdL (a49.add 2) fun x57 =>
  BtoS x57 fun s58 =>
  LdS (a52.add 2) fun x59 =>
  Br (seq s58 x59) (
  J21 (((r48.2.1 : Int) == r51.2.1), ())) (
  J21 (false, ()))) (
  J21 (false, ()))) (
  J21 (false, ()))) (
  Br ((x36 : Int) == 2) (
  LdI .i64 (a17.add 3) fun x60 =>
  Cl Try.prog 11 [(.pointer (some a3)), (.int .i64 x60)] true [.ag [(.i .i64), (.i .i64), .s], .sc (.i .i64)] fun r61 =>
  New #[(.int .i64 0), (.int .i64 0), (.string (BA []))] 44 fun a62 =>
  St (a62.add 0) (.int .i64 r61.1.1) <|
  St (a62.add 1) (.int .i64 r61.1.2.1) <|
  St (a62.add 2) (.string r61.1.2.2.1) <|
  LdI .i64 (a17.add 3) fun x63 =>
  Cl Try.prog 12 [(.pointer s7.2.1), (.int .i64 x63)] false [.sc (.i .i64)] fun r64 =>
  J21 (((r64.1 : Int) == r61.2.1), ())) (
  Br ((x36 : Int) == 3) (
  Dr <|
  LdI .i64 (a17.add 3) fun x65 =>
  LdI .i64 (a17.add 3) fun x66 =>
  Cl Try.prog 13 [(.pointer s7.2.1), (.int .i64 x65)] false [.sc (.i .i64)] fun r67 =>
  Both (LdI .i64 (a17.add 3) fun x68 =>
  fun _ => ((.int .i64 x68) : Value) = (.int .i64 x66)) <|
  Cl Try.prog 14 [(.pointer (some a3)), (.int .i64 x66)] false [.sc (.i .i64)] fun r69 =>
  J21 (((r67.1 : Int) == r69.1), ())) (
  Br ((x36 : Int) == 4) (
  Dr <|
  LdI .i64 (a17.add 3) fun x70 =>
  LdI .i64 (a17.add 3) fun x71 =>
  LdS (a17.add 4) fun x72 =>
  Cl Try.prog 15 [(.pointer s7.2.1), (.int .i64 x70), (.slice r20.p r20.len r20.cap)] false [.sc (.i .i64)] fun r73 =>
  Both (LdS (a17.add 4) fun x74 =>
  fun _ => ((.string x74) : Value) = (.string x72)) <|
  Both (LdI .i64 (a17.add 3) fun x75 =>
  fun _ => ((.int .i64 x75) : Value) = (.int .i64 x71)) <|
  Cl Try.prog 16 [(.pointer (some a3)), (.int .i64 x71), (.string x72)] false [.sc (.i .i64)] fun r76 =>
  J21 (((r73.1 : Int) == r76.1), ())) (
  J21 (true, ())))))))) (
  R (r1.1, ()))) (false, r2.1, 0, ()))) fun J4 =>
  Br (Option.isNone r2.1) (
  J4 (true, ())) (
  J4 ((decide ((((p_l.len : Nat) : Int) : Int) > 300)), ()))
def sumpterlaw07_NetGoes_ann : Ann := .seq .leaf (.seq .leaf (.seq .leaf (.seq .leaf (.seq (.seq (.join [(28, .sc .b)] .leaf) (.cond (.seq .leaf .leaf) .leaf)) (.seq (.seq .leaf (.block (.loop [(2, .sc .b), (4, .sc .p), (36, .sc (.i .i64))] (.seq .leaf (.seq (.cond .leaf .leaf) (.seq (.join [(2, .sc .b), (4, .sc .p)] (.block (.seq .leaf (.seq (.seq .leaf (.cond .leaf .leaf)) (.seq .leaf (.seq .leaf (.seq (.join [(9, .sc .b)] (.seq .leaf (.block (.seq .leaf (.cond .leaf (.seq .leaf (.cond (.seq .leaf (.seq .leaf .leaf)) (.seq .leaf (.cond (.seq .leaf .leaf) (.seq .leaf (.cond .leaf (.seq .leaf (.cond .leaf .leaf))))))))))))) (.seq (.seq .leaf (.block (.loop [(150, .sc (.i .i64))] (.seq .leaf (.seq (.cond .leaf .leaf) (.seq (.block (.seq .leaf .leaf)) .leaf)))))) (.seq (.seq (.join [(167, .sc .b)] .leaf) (.cond (.seq .leaf .leaf) .leaf)) (.seq .leaf (.cond (.seq .leaf (.seq (.seq .leaf (.cond (.seq .leaf .leaf) .leaf)) (.seq .leaf (.seq .leaf .leaf)))) .leaf))))))))))) .leaf)))))) (.seq .leaf .leaf))))))
set_option maxRecDepth 100000 in
theorem sumpterlaw07_NetGoes_den (p_l : Sl) (R : TR [.sc .b] → Pr) : den Try.prog sumpterlaw07_NetGoes_ann (Try.f4.body.getD .skip) (retQ Try.prog Try.f4.results.toList false [.sc .b] R) (env0 183 [(.slice p_l.p p_l.len p_l.cap)]) = sumpterlaw07_NetGoes p_l R := by
  kernel_rfl
theorem sumpterlaw07_NetGoes_call (p_l : Sl) {R : TR [.sc .b] → Pr} {w : World} (h : sumpterlaw07_NetGoes p_l R w) : Cl Try.prog 4 [(.slice p_l.p p_l.len p_l.cap)] false [.sc .b] R w :=
  call_of (P := Try.prog) (tup := false) (rs := [.sc .b]) Try.checked.mixed sumpterlaw07_NetGoes_ann (by kernel_rfl) Try.func4 (by kernel_rfl) Try.ntmps4 (by show Try.f4.results.size = 1; kernel_rfl) (by rw [← sumpterlaw07_NetGoes_den] at h; exact h)

/-- sumpter/sumpterlaw07.live -/
def sumpterlaw07_live  (R : TR [.sc .b] → Pr) : Pr :=
  Cl Try.prog 6 [] false [.sc .p] fun r1 =>
  Br (Option.isNone r1.1) (
  R (false, ())) (
  New #[(.int .u8 97)] 5 fun a2 =>
  MkS (some a2) <|
  Cl Try.prog 7 [(.pointer r1.1), (.int .i64 1), (.int .i64 0), (.slice (some a2) 1 1)] false [.sc (.i .i64)] fun r3 =>
  New #[(.int .u8 98)] 5 fun a4 =>
  MkS (some a4) <|
  Cl Try.prog 7 [(.pointer r1.1), (.int .i64 2), (.int .i64 0), (.slice (some a4) 1 1)] false [.sc (.i .i64)] fun r5 =>
  Cl Try.prog 13 [(.pointer r1.1), (.int .i64 0)] false [.sc (.i .i64)] fun r6 =>
  Cl Try.prog 8 [(.pointer r1.1), (.int .i64 1)] true [.ag [(.i .i64), (.i .i64), .sl], .sc (.i .i64)] fun r7 =>
  New #[(.int .i64 0), (.int .i64 0), (.slice none 0 0)] 30 fun a8 =>
  St (a8.add 0) (.int .i64 r7.1.1) <|
  St (a8.add 1) (.int .i64 r7.1.2.1) <|
  St (a8.add 2) (.slice r7.1.2.2.1.p r7.1.2.2.1.len r7.1.2.2.1.cap) <|
  Cl Try.prog 8 [(.pointer r1.1), (.int .i64 5)] true [.ag [(.i .i64), (.i .i64), .sl], .sc (.i .i64)] fun r9 =>
  New #[(.int .i64 0), (.int .i64 0), (.slice none 0 0)] 30 fun a10 =>
  St (a10.add 0) (.int .i64 r9.1.1) <|
  St (a10.add 1) (.int .i64 r9.1.2.1) <|
  St (a10.add 2) (.slice r9.1.2.2.1.p r9.1.2.2.1.len r9.1.2.2.1.cap) <|
  Cl Try.prog 19 [(.pointer r1.1)] false [.sc .sl] fun r11 =>
  Br ((r6.1 : Int) == 0) (
  LdI .i64 (a8.add 0) fun x12 =>
  Br ((x12 : Int) == 2) (
  LdL (a8.add 2) fun x13 =>
  BtoS x13 fun s14 =>
  Br (seq s14 (BA [98])) (
  Br ((r7.2.1 : Int) == 0) (
  Br ((r9.2.1 : Int) == 5) (
  Cl Try.prog 9 [(.pointer r1.1)] false [.sc (.i .i64)] fun r15 =>
  Br ((r15.1 : Int) == 2) (
  Br ((((r11.1.len : Nat) : Int) : Int) == 2) (
  Ix r11.1 1 3 fun a16 =>
  LdL (a16.add 2) fun x17 =>
  BtoS x17 fun s18 =>
  Br (seq s18 (BA [97])) (
  Ix r11.1 1 3 fun a19 =>
  LdI .i64 (a19.add 0) fun x20 =>
  R (((x20 : Int) == 1), ())) (
  R (false, ()))) (
  R (false, ()))) (
  R (false, ()))) (
  R (false, ()))) (
  R (false, ()))) (
  R (false, ()))) (
  R (false, ()))) (
  R (false, ())))
def sumpterlaw07_live_ann : Ann := .seq .leaf (.seq .leaf (.seq (.seq .leaf (.cond (.seq .leaf .leaf) .leaf)) (.seq .leaf (.seq .leaf (.seq .leaf (.seq .leaf (.seq .leaf (.seq .leaf (.seq .leaf .leaf)))))))))
set_option maxRecDepth 100000 in
theorem sumpterlaw07_live_den  (R : TR [.sc .b] → Pr) : den Try.prog sumpterlaw07_live_ann (Try.f5.body.getD .skip) (retQ Try.prog Try.f5.results.toList false [.sc .b] R) (env0 79 []) = sumpterlaw07_live  R := by
  kernel_rfl
theorem sumpterlaw07_live_call  {R : TR [.sc .b] → Pr} {w : World} (h : sumpterlaw07_live  R w) : Cl Try.prog 5 [] false [.sc .b] R w :=
  call_of (P := Try.prog) (tup := false) (rs := [.sc .b]) Try.checked.mixed sumpterlaw07_live_ann (by kernel_rfl) Try.func5 (by kernel_rfl) Try.ntmps5 (by show Try.f5.results.size = 1; kernel_rfl) (by rw [← sumpterlaw07_live_den] at h; exact h)

/-- sumpter/net.New -/
def net_New  (R : TR [.sc .p] → Pr) : Pr :=
  New #[(.slice none 0 0)] 55 fun a1 =>
  R ((some a1), ())
def net_New_ann : Ann := .seq .leaf (.seq .leaf .leaf)
set_option maxRecDepth 100000 in
theorem net_New_den  (R : TR [.sc .p] → Pr) : den Try.prog net_New_ann (Try.f6.body.getD .skip) (retQ Try.prog Try.f6.results.toList false [.sc .p] R) (env0 3 []) = net_New  R := by
  kernel_rfl
theorem net_New_call  {R : TR [.sc .p] → Pr} {w : World} (h : net_New  R w) : Cl Try.prog 6 [] false [.sc .p] R w :=
  call_of (P := Try.prog) (tup := false) (rs := [.sc .p]) Try.checked.mixed net_New_ann (by kernel_rfl) Try.func6 (by kernel_rfl) Try.ntmps6 (by show Try.f6.results.size = 1; kernel_rfl) (by rw [← net_New_den] at h; exact h)

/-- (*sumpter/net.Net).Send -/
def net_Net_Send (p_n : Option Addr) (p_from : Int) (p_to : Int) (p_b : Sl) (R : TR [.sc (.i .i64)] → Pr) : Pr :=
  Jp (σ := Bool × Unit) (fun s2 =>
  Br s2.1 (
  R (1, ())) (
  Br (decide ((((p_b.len : Nat) : Int) : Int) > 4103)) (
  R (2, ())) (
  Nn p_n fun a3 =>
  LdL (a3.add 0) fun x4 =>
  Br (decide ((((x4.len : Nat) : Int) : Int) ≥ 128)) (
  R (62, ())) (
  Dr <|
  Nn p_n fun a5 =>
  LdL (a5.add 0) fun x6 =>
  Cl Try.prog 20 [(.agg #[(.int .i64 p_from), (.int .i64 p_to), (.slice p_b.p p_b.len p_b.cap)])] false [.ag [(.i .i64), (.i .i64), .sl]] fun r7 =>
  Both (LdL (a5.add 0) fun x8 =>
  fun _ => ((.slice x8.p x8.len x8.cap) : Value) = (.slice x6.p x6.len x6.cap)) <|
  New #[(.int .i64 r7.1.1), (.int .i64 r7.1.2.1), (.slice r7.1.2.2.1.p r7.1.2.2.1.len r7.1.2.2.1.cap)] 30 fun a9 =>
  Both (LdL (a5.add 0) fun x10 =>
  fun _ => ((.slice x10.p x10.len x10.cap) : Value) = (.slice x6.p x6.len x6.cap)) <|
  App 30 3 40 (zc Try.prog 30) x6 1 (srcS (some a9) 1 3) fun r11 =>
  Nn p_n fun a12 =>
  St (a12.add 0) (.slice r11.p r11.len r11.cap) <|
  R (0, ()))))) fun J1 =>
  Br (decide ((p_from : Int) < 0)) (
  J1 (true, ())) (
  J1 ((decide ((p_to : Int) < 0)), ()))
def net_Net_Send_ann : Ann := .seq .leaf (.seq (.block (.seq (.join [(9, .sc .b)] .leaf) (.cond (.seq .leaf .leaf) (.seq .leaf (.cond (.seq .leaf .leaf) (.seq .leaf (.cond (.seq .leaf .leaf) .leaf))))))) (.seq .leaf (.seq .leaf .leaf)))
set_option maxRecDepth 100000 in
theorem net_Net_Send_den (p_n : Option Addr) (p_from : Int) (p_to : Int) (p_b : Sl) (R : TR [.sc (.i .i64)] → Pr) : den Try.prog net_Net_Send_ann (Try.f7.body.getD .skip) (retQ Try.prog Try.f7.results.toList false [.sc (.i .i64)] R) (env0 41 [(.pointer p_n), (.int .i64 p_from), (.int .i64 p_to), (.slice p_b.p p_b.len p_b.cap)]) = net_Net_Send p_n p_from p_to p_b R := by
  kernel_rfl
theorem net_Net_Send_call (p_n : Option Addr) (p_from : Int) (p_to : Int) (p_b : Sl) {R : TR [.sc (.i .i64)] → Pr} {w : World} (h : net_Net_Send p_n p_from p_to p_b R w) : Cl Try.prog 7 [(.pointer p_n), (.int .i64 p_from), (.int .i64 p_to), (.slice p_b.p p_b.len p_b.cap)] false [.sc (.i .i64)] R w :=
  call_of (P := Try.prog) (tup := false) (rs := [.sc (.i .i64)]) Try.checked.mixed net_Net_Send_ann (by kernel_rfl) Try.func7 (by kernel_rfl) Try.ntmps7 (by show Try.f7.results.size = 1; kernel_rfl) (by rw [← net_Net_Send_den] at h; exact h)

/-- (*sumpter/net.Net).Take -/
def net_Net_Take (p_n : Option Addr) (p_i : Int) (R : TR [.ag [(.i .i64), (.i .i64), .sl], .sc (.i .i64)] → Pr) : Pr :=
  New #[(.int .i64 0), (.int .i64 0), (.slice none 0 0)] 30 fun a1 =>
  Cl Try.prog 21 [(.pointer p_n), (.int .i64 p_i)] false [.sc .b] fun r2 =>
  Br (!r2.1) (
  St (a1.add 0) (.int .i64 0) <|
  St (a1.add 1) (.int .i64 0) <|
  St (a1.add 2) (.slice none 0 0) <|
  LdI .i64 (a1.add 0) fun x3 =>
  LdI .i64 (a1.add 1) fun x4 =>
  LdL (a1.add 2) fun x5 =>
  R ((x3, x4, x5, ()), 5, ())) (
  Nn p_n fun a6 =>
  LdL (a6.add 0) fun x7 =>
  Ix x7 p_i 3 fun a8 =>
  LdI .i64 (a8.add 0) fun x9 =>
  LdI .i64 (a8.add 1) fun x10 =>
  LdL (a8.add 2) fun x11 =>
  New #[(.int .i64 0), (.int .i64 0), (.slice none 0 0)] 30 fun a12 =>
  St (a12.add 0) (.int .i64 x9) <|
  St (a12.add 1) (.int .i64 x10) <|
  St (a12.add 2) (.slice x11.p x11.len x11.cap) <|
  Dr <|
  Nn p_n fun a13 =>
  LdL (a13.add 0) fun x14 =>
  Req ((0 : Int) ≤ p_i ∧ p_i ≤ ((x14.len : Nat) : Int)) <|
  Nn p_n fun a15 =>
  LdL (a15.add 0) fun x16 =>
  Req ((0 : Int) ≤ (w64 (p_i + 1)) ∧ (w64 (p_i + 1)) ≤ ((x16.len : Nat) : Int)) <|
  Cpy 3 (slOff x14.p x14.cap (Int.toNat p_i) 3) (Nat.min (x16.len - (Int.toNat (w64 (p_i + 1)))) (x14.len - (Int.toNat p_i))) (srcS (slOff x16.p x16.cap (Int.toNat (w64 (p_i + 1))) 3) (Nat.min (x16.len - (Int.toNat (w64 (p_i + 1)))) (x14.len - (Int.toNat p_i))) 3) <|
  Dr <|
  Nn p_n fun a17 =>
  LdL (a17.add 0) fun x18 =>
  Nn p_n fun a19 =>
  LdL (a19.add 0) fun x20 =>
  Req ((0 : Int) ≤ (w64 (((x20.len : Nat) : Int) - 1)) ∧ (w64 (((x20.len : Nat) : Int) - 1)) ≤ ((x18.cap : Nat) : Int)) <|
  Nn p_n fun a21 =>
  St (a21.add 0) (.slice (slOff x18.p x18.cap 0 3) ((Int.toNat (w64 (((x20.len : Nat) : Int) - 1))) - 0) (x18.cap - 0)) <|
  LdI .i64 (a12.add 0) fun x22 =>
  LdI .i64 (a12.add 1) fun x23 =>
  LdL (a12.add 2) fun x24 =>
  St (a1.add 0) (.int .i64 x22) <|
  St (a1.add 1) (.int .i64 x23) <|
  St (a1.add 2) (.slice x24.p x24.len x24.cap) <|
  LdI .i64 (a1.add 0) fun x25 =>
  LdI .i64 (a1.add 1) fun x26 =>
  LdL (a1.add 2) fun x27 =>
  R ((x25, x26, x27, ()), 0, ()))
def net_Net_Take_ann : Ann := .seq .leaf (.seq (.seq .leaf (.cond (.seq .leaf .leaf) .leaf)) (.seq .leaf (.seq .leaf (.seq .leaf (.seq .leaf .leaf)))))
set_option maxRecDepth 100000 in
theorem net_Net_Take_den (p_n : Option Addr) (p_i : Int) (R : TR [.ag [(.i .i64), (.i .i64), .sl], .sc (.i .i64)] → Pr) : den Try.prog net_Net_Take_ann (Try.f8.body.getD .skip) (retQ Try.prog Try.f8.results.toList true [.ag [(.i .i64), (.i .i64), .sl], .sc (.i .i64)] R) (env0 48 [(.pointer p_n), (.int .i64 p_i)]) = net_Net_Take p_n p_i R := by
  kernel_rfl
theorem net_Net_Take_call (p_n : Option Addr) (p_i : Int) {R : TR [.ag [(.i .i64), (.i .i64), .sl], .sc (.i .i64)] → Pr} {w : World} (h : net_Net_Take p_n p_i R w) : Cl Try.prog 8 [(.pointer p_n), (.int .i64 p_i)] true [.ag [(.i .i64), (.i .i64), .sl], .sc (.i .i64)] R w :=
  call_of (P := Try.prog) (tup := true) (rs := [.ag [(.i .i64), (.i .i64), .sl], .sc (.i .i64)]) Try.checked.mixed net_Net_Take_ann (by kernel_rfl) Try.func8 (by kernel_rfl) Try.ntmps8 (by show Nat.beq Try.f8.results.size 1 = false; kernel_rfl) (by rw [← net_Net_Take_den] at h; exact h)

/-- (*sumpter/net.Net).Len -/
def net_Net_Len (p_n : Option Addr) (R : TR [.sc (.i .i64)] → Pr) : Pr :=
  Nn p_n fun a1 =>
  LdL (a1.add 0) fun x2 =>
  R (((x2.len : Nat) : Int), ())
def net_Net_Len_ann : Ann := .seq .leaf (.seq .leaf .leaf)
set_option maxRecDepth 100000 in
theorem net_Net_Len_den (p_n : Option Addr) (R : TR [.sc (.i .i64)] → Pr) : den Try.prog net_Net_Len_ann (Try.f9.body.getD .skip) (retQ Try.prog Try.f9.results.toList false [.sc (.i .i64)] R) (env0 8 [(.pointer p_n)]) = net_Net_Len p_n R := by
  kernel_rfl
theorem net_Net_Len_call (p_n : Option Addr) {R : TR [.sc (.i .i64)] → Pr} {w : World} (h : net_Net_Len p_n R w) : Cl Try.prog 9 [(.pointer p_n)] false [.sc (.i .i64)] R w :=
  call_of (P := Try.prog) (tup := false) (rs := [.sc (.i .i64)]) Try.checked.mixed net_Net_Len_ann (by kernel_rfl) Try.func9 (by kernel_rfl) Try.ntmps9 (by show Try.f9.results.size = 1; kernel_rfl) (by rw [← net_Net_Len_den] at h; exact h)

/-- (*sumpter/sumpterref07.Net).Send -/
def sumpterref07_Net_Send (p_n : Option Addr) (p_from : Int) (p_to : Int) (p_b : ByteArray) (R : TR [.sc (.i .i64)] → Pr) : Pr :=
  Jp (σ := Bool × Unit) (fun s2 =>
  Br s2.1 (
  R (1, ())) (
  Br (decide ((((p_b.size : Nat) : Int) : Int) > 4103)) (
  R (2, ())) (
  Nn p_n fun a3 =>
  LdL (a3.add 0) fun x4 =>
  Br (decide ((((x4.len : Nat) : Int) : Int) ≥ 128)) (
  R (62, ())) (
  Dr <|
  Nn p_n fun a5 =>
  LdL (a5.add 0) fun x6 =>
  Nn p_n fun a7 =>
  LdL (a7.add 0) fun x8 =>
  Nn p_n fun a9 =>
  LdL (a9.add 0) fun x10 =>
  Req ((0 : Int) ≤ ((x10.len : Nat) : Int) ∧ ((x10.len : Nat) : Int) ≤ ((x6.cap : Nat) : Int)) <|
  Req ((0 : Int) ≤ ((x8.len : Nat) : Int) ∧ ((x8.len : Nat) : Int) ≤ (((Int.toNat ((x10.len : Nat) : Int)) : Nat) : Int)) <|
  New #[(.int .i64 p_from), (.int .i64 p_to), (.string p_b)] 44 fun a11 =>
  Both (LdL (a9.add 0) fun x12 =>
  fun _ => ((.slice x12.p x12.len x12.cap) : Value) = (.slice x10.p x10.len x10.cap)) <|
  Both (LdL (a7.add 0) fun x13 =>
  fun _ => ((.slice x13.p x13.len x13.cap) : Value) = (.slice x8.p x8.len x8.cap)) <|
  Both (LdL (a5.add 0) fun x14 =>
  fun _ => ((.slice x14.p x14.len x14.cap) : Value) = (.slice x6.p x6.len x6.cap)) <|
  App 44 3 32 (zc Try.prog 44) ⟨(slOff x6.p (Int.toNat ((x10.len : Nat) : Int)) 0 3), ((Int.toNat ((x8.len : Nat) : Int)) - 0), ((Int.toNat ((x10.len : Nat) : Int)) - 0)⟩ 1 (srcS (some a11) 1 3) fun r15 =>
  Nn p_n fun a16 =>
  St (a16.add 0) (.slice r15.p r15.len r15.cap) <|
  R (0, ()))))) fun J1 =>
  Br (decide ((p_from : Int) < 0)) (
  J1 (true, ())) (
  J1 ((decide ((p_to : Int) < 0)), ()))
def sumpterref07_Net_Send_ann : Ann := .seq .leaf (.seq (.block (.seq (.join [(9, .sc .b)] .leaf) (.cond (.seq .leaf .leaf) (.seq .leaf (.cond (.seq .leaf .leaf) (.seq .leaf (.cond (.seq .leaf .leaf) .leaf))))))) (.seq .leaf (.seq .leaf .leaf)))
set_option maxRecDepth 100000 in
theorem sumpterref07_Net_Send_den (p_n : Option Addr) (p_from : Int) (p_to : Int) (p_b : ByteArray) (R : TR [.sc (.i .i64)] → Pr) : den Try.prog sumpterref07_Net_Send_ann (Try.f10.body.getD .skip) (retQ Try.prog Try.f10.results.toList false [.sc (.i .i64)] R) (env0 51 [(.pointer p_n), (.int .i64 p_from), (.int .i64 p_to), (.string p_b)]) = sumpterref07_Net_Send p_n p_from p_to p_b R := by
  kernel_rfl
theorem sumpterref07_Net_Send_call (p_n : Option Addr) (p_from : Int) (p_to : Int) (p_b : ByteArray) {R : TR [.sc (.i .i64)] → Pr} {w : World} (h : sumpterref07_Net_Send p_n p_from p_to p_b R w) : Cl Try.prog 10 [(.pointer p_n), (.int .i64 p_from), (.int .i64 p_to), (.string p_b)] false [.sc (.i .i64)] R w :=
  call_of (P := Try.prog) (tup := false) (rs := [.sc (.i .i64)]) Try.checked.mixed sumpterref07_Net_Send_ann (by kernel_rfl) Try.func10 (by kernel_rfl) Try.ntmps10 (by show Try.f10.results.size = 1; kernel_rfl) (by rw [← sumpterref07_Net_Send_den] at h; exact h)

/-- (*sumpter/sumpterref07.Net).Take -/
def sumpterref07_Net_Take (p_n : Option Addr) (p_i : Int) (R : TR [.ag [(.i .i64), (.i .i64), .s], .sc (.i .i64)] → Pr) : Pr :=
  New #[(.int .i64 0), (.int .i64 0), (.string (BA []))] 44 fun a1 =>
  Jp (σ := Bool × Unit) (fun s3 =>
  Br s3.1 (
  St (a1.add 0) (.int .i64 0) <|
  St (a1.add 1) (.int .i64 0) <|
  St (a1.add 2) (.string (BA [])) <|
  LdI .i64 (a1.add 0) fun x4 =>
  LdI .i64 (a1.add 1) fun x5 =>
  LdS (a1.add 2) fun x6 =>
  R ((x4, x5, x6, ()), 5, ())) (
  Nn p_n fun a7 =>
  LdL (a7.add 0) fun x8 =>
  Ix x8 p_i 3 fun a9 =>
  LdI .i64 (a9.add 0) fun x10 =>
  LdI .i64 (a9.add 1) fun x11 =>
  LdS (a9.add 2) fun x12 =>
  New #[(.int .i64 0), (.int .i64 0), (.string (BA []))] 44 fun a13 =>
  St (a13.add 0) (.int .i64 x10) <|
  St (a13.add 1) (.int .i64 x11) <|
  St (a13.add 2) (.string x12) <|
  Dr <|
  Nn p_n fun a14 =>
  LdL (a14.add 0) fun x15 =>
  Req ((0 : Int) ≤ p_i ∧ p_i ≤ ((x15.cap : Nat) : Int)) <|
  Nn p_n fun a16 =>
  LdL (a16.add 0) fun x17 =>
  Req ((0 : Int) ≤ (w64 (p_i + 1)) ∧ (w64 (p_i + 1)) ≤ ((x17.len : Nat) : Int)) <|
  App 44 3 32 (zc Try.prog 44) ⟨none, 0, 0⟩ ((Int.toNat p_i) - 0) (srcS (slOff x15.p x15.cap 0 3) ((Int.toNat p_i) - 0) 3) fun r18 =>
  Both (LdL (a16.add 0) fun x19 =>
  fun _ => ((.slice x19.p x19.len x19.cap) : Value) = (.slice x17.p x17.len x17.cap)) <|
  App 44 3 32 (zc Try.prog 44) r18 (x17.len - (Int.toNat (w64 (p_i + 1)))) (srcS (slOff x17.p x17.cap (Int.toNat (w64 (p_i + 1))) 3) (x17.len - (Int.toNat (w64 (p_i + 1)))) 3) fun r20 =>
  Nn p_n fun a21 =>
  St (a21.add 0) (.slice r20.p r20.len r20.cap) <|
  LdI .i64 (a13.add 0) fun x22 =>
  LdI .i64 (a13.add 1) fun x23 =>
  LdS (a13.add 2) fun x24 =>
  St (a1.add 0) (.int .i64 x22) <|
  St (a1.add 1) (.int .i64 x23) <|
  St (a1.add 2) (.string x24) <|
  LdI .i64 (a1.add 0) fun x25 =>
  LdI .i64 (a1.add 1) fun x26 =>
  LdS (a1.add 2) fun x27 =>
  R ((x25, x26, x27, ()), 0, ()))) fun J2 =>
  Br (decide ((p_i : Int) < 0)) (
  J2 (true, ())) (
  Nn p_n fun a28 =>
  LdL (a28.add 0) fun x29 =>
  J2 ((decide ((p_i : Int) ≥ ((x29.len : Nat) : Int))), ()))
def sumpterref07_Net_Take_ann : Ann := .seq .leaf (.seq (.seq (.join [(17, .sc .b)] .leaf) (.cond (.seq .leaf .leaf) .leaf)) (.seq .leaf (.seq .leaf (.seq .leaf .leaf))))
set_option maxRecDepth 100000 in
theorem sumpterref07_Net_Take_den (p_n : Option Addr) (p_i : Int) (R : TR [.ag [(.i .i64), (.i .i64), .s], .sc (.i .i64)] → Pr) : den Try.prog sumpterref07_Net_Take_ann (Try.f11.body.getD .skip) (retQ Try.prog Try.f11.results.toList true [.ag [(.i .i64), (.i .i64), .s], .sc (.i .i64)] R) (env0 45 [(.pointer p_n), (.int .i64 p_i)]) = sumpterref07_Net_Take p_n p_i R := by
  kernel_rfl
theorem sumpterref07_Net_Take_call (p_n : Option Addr) (p_i : Int) {R : TR [.ag [(.i .i64), (.i .i64), .s], .sc (.i .i64)] → Pr} {w : World} (h : sumpterref07_Net_Take p_n p_i R w) : Cl Try.prog 11 [(.pointer p_n), (.int .i64 p_i)] true [.ag [(.i .i64), (.i .i64), .s], .sc (.i .i64)] R w :=
  call_of (P := Try.prog) (tup := true) (rs := [.ag [(.i .i64), (.i .i64), .s], .sc (.i .i64)]) Try.checked.mixed sumpterref07_Net_Take_ann (by kernel_rfl) Try.func11 (by kernel_rfl) Try.ntmps11 (by show Nat.beq Try.f11.results.size 1 = false; kernel_rfl) (by rw [← sumpterref07_Net_Take_den] at h; exact h)

/-- (*sumpter/net.Net).Drop -/
def net_Net_Drop (p_n : Option Addr) (p_i : Int) (R : TR [.sc (.i .i64)] → Pr) : Pr :=
  Cl Try.prog 8 [(.pointer p_n), (.int .i64 p_i)] true [.ag [(.i .i64), (.i .i64), .sl], .sc (.i .i64)] fun r1 =>
  New #[(.int .i64 0), (.int .i64 0), (.slice none 0 0)] 30 fun a2 =>
  St (a2.add 0) (.int .i64 r1.1.1) <|
  St (a2.add 1) (.int .i64 r1.1.2.1) <|
  St (a2.add 2) (.slice r1.1.2.2.1.p r1.1.2.2.1.len r1.1.2.2.1.cap) <|
  R (r1.2.1, ())
def net_Net_Drop_ann : Ann := .seq .leaf (.seq .leaf (.seq .leaf .leaf))
set_option maxRecDepth 100000 in
theorem net_Net_Drop_den (p_n : Option Addr) (p_i : Int) (R : TR [.sc (.i .i64)] → Pr) : den Try.prog net_Net_Drop_ann (Try.f12.body.getD .skip) (retQ Try.prog Try.f12.results.toList false [.sc (.i .i64)] R) (env0 14 [(.pointer p_n), (.int .i64 p_i)]) = net_Net_Drop p_n p_i R := by
  kernel_rfl
theorem net_Net_Drop_call (p_n : Option Addr) (p_i : Int) {R : TR [.sc (.i .i64)] → Pr} {w : World} (h : net_Net_Drop p_n p_i R w) : Cl Try.prog 12 [(.pointer p_n), (.int .i64 p_i)] false [.sc (.i .i64)] R w :=
  call_of (P := Try.prog) (tup := false) (rs := [.sc (.i .i64)]) Try.checked.mixed net_Net_Drop_ann (by kernel_rfl) Try.func12 (by kernel_rfl) Try.ntmps12 (by show Try.f12.results.size = 1; kernel_rfl) (by rw [← net_Net_Drop_den] at h; exact h)

/-- (*sumpter/net.Net).Double -/
def net_Net_Double (p_n : Option Addr) (p_i : Int) (R : TR [.sc (.i .i64)] → Pr) : Pr :=
  Cl Try.prog 21 [(.pointer p_n), (.int .i64 p_i)] false [.sc .b] fun r1 =>
  Br (!r1.1) (
  R (5, ())) (
  Dr <|
  Nn p_n fun a2 =>
  LdL (a2.add 0) fun x3 =>
  Ix x3 p_i 3 fun a4 =>
  LdI .i64 (a4.add 0) fun x5 =>
  Nn p_n fun a6 =>
  LdL (a6.add 0) fun x7 =>
  Ix x7 p_i 3 fun a8 =>
  LdI .i64 (a8.add 1) fun x9 =>
  Nn p_n fun a10 =>
  LdL (a10.add 0) fun x11 =>
  Ix x11 p_i 3 fun a12 =>
  LdL (a12.add 2) fun x13 =>
  Cl Try.prog 7 [(.pointer p_n), (.int .i64 x5), (.int .i64 x9), (.slice x13.p x13.len x13.cap)] false [.sc (.i .i64)] fun r14 =>
  R (r14.1, ()))
def net_Net_Double_ann : Ann := .seq .leaf (.seq (.seq .leaf (.cond (.seq .leaf .leaf) .leaf)) (.seq .leaf .leaf))
set_option maxRecDepth 100000 in
theorem net_Net_Double_den (p_n : Option Addr) (p_i : Int) (R : TR [.sc (.i .i64)] → Pr) : den Try.prog net_Net_Double_ann (Try.f13.body.getD .skip) (retQ Try.prog Try.f13.results.toList false [.sc (.i .i64)] R) (env0 35 [(.pointer p_n), (.int .i64 p_i)]) = net_Net_Double p_n p_i R := by
  kernel_rfl
theorem net_Net_Double_call (p_n : Option Addr) (p_i : Int) {R : TR [.sc (.i .i64)] → Pr} {w : World} (h : net_Net_Double p_n p_i R w) : Cl Try.prog 13 [(.pointer p_n), (.int .i64 p_i)] false [.sc (.i .i64)] R w :=
  call_of (P := Try.prog) (tup := false) (rs := [.sc (.i .i64)]) Try.checked.mixed net_Net_Double_ann (by kernel_rfl) Try.func13 (by kernel_rfl) Try.ntmps13 (by show Try.f13.results.size = 1; kernel_rfl) (by rw [← net_Net_Double_den] at h; exact h)

/-- (*sumpter/sumpterref07.Net).Double -/
def sumpterref07_Net_Double (p_n : Option Addr) (p_i : Int) (R : TR [.sc (.i .i64)] → Pr) : Pr :=
  Jp (σ := Bool × Unit) (fun s2 =>
  Br s2.1 (
  R (5, ())) (
  Dr <|
  Nn p_n fun a3 =>
  LdL (a3.add 0) fun x4 =>
  Ix x4 p_i 3 fun a5 =>
  LdI .i64 (a5.add 0) fun x6 =>
  Nn p_n fun a7 =>
  LdL (a7.add 0) fun x8 =>
  Ix x8 p_i 3 fun a9 =>
  LdI .i64 (a9.add 1) fun x10 =>
  Nn p_n fun a11 =>
  LdL (a11.add 0) fun x12 =>
  Ix x12 p_i 3 fun a13 =>
  LdS (a13.add 2) fun x14 =>
  Cl Try.prog 10 [(.pointer p_n), (.int .i64 x6), (.int .i64 x10), (.string x14)] false [.sc (.i .i64)] fun r15 =>
  R (r15.1, ()))) fun J1 =>
  Br (decide ((p_i : Int) < 0)) (
  J1 (true, ())) (
  Nn p_n fun a16 =>
  LdL (a16.add 0) fun x17 =>
  J1 ((decide ((p_i : Int) ≥ ((x17.len : Nat) : Int))), ()))
def sumpterref07_Net_Double_ann : Ann := .seq .leaf (.seq (.seq (.join [(15, .sc .b)] .leaf) (.cond (.seq .leaf .leaf) .leaf)) (.seq .leaf .leaf))
set_option maxRecDepth 100000 in
theorem sumpterref07_Net_Double_den (p_n : Option Addr) (p_i : Int) (R : TR [.sc (.i .i64)] → Pr) : den Try.prog sumpterref07_Net_Double_ann (Try.f14.body.getD .skip) (retQ Try.prog Try.f14.results.toList false [.sc (.i .i64)] R) (env0 42 [(.pointer p_n), (.int .i64 p_i)]) = sumpterref07_Net_Double p_n p_i R := by
  kernel_rfl
theorem sumpterref07_Net_Double_call (p_n : Option Addr) (p_i : Int) {R : TR [.sc (.i .i64)] → Pr} {w : World} (h : sumpterref07_Net_Double p_n p_i R w) : Cl Try.prog 14 [(.pointer p_n), (.int .i64 p_i)] false [.sc (.i .i64)] R w :=
  call_of (P := Try.prog) (tup := false) (rs := [.sc (.i .i64)]) Try.checked.mixed sumpterref07_Net_Double_ann (by kernel_rfl) Try.func14 (by kernel_rfl) Try.ntmps14 (by show Try.f14.results.size = 1; kernel_rfl) (by rw [← sumpterref07_Net_Double_den] at h; exact h)

/-- (*sumpter/net.Net).Spoil -/
def net_Net_Spoil (p_n : Option Addr) (p_i : Int) (p_b : Sl) (R : TR [.sc (.i .i64)] → Pr) : Pr :=
  Cl Try.prog 21 [(.pointer p_n), (.int .i64 p_i)] false [.sc .b] fun r1 =>
  Br (!r1.1) (
  R (5, ())) (
  Br (decide ((((p_b.len : Nat) : Int) : Int) > 4103)) (
  R (2, ())) (
  Dr <|
  Nn p_n fun a2 =>
  LdL (a2.add 0) fun x3 =>
  Cl Try.prog 22 [(.slice p_b.p p_b.len p_b.cap)] false [.sc .sl] fun r4 =>
  Both (LdL (a2.add 0) fun x5 =>
  fun _ => ((.slice x5.p x5.len x5.cap) : Value) = (.slice x3.p x3.len x3.cap)) <|
  Ix x3 p_i 3 fun a6 =>
  St (a6.add 2) (.slice r4.1.p r4.1.len r4.1.cap) <|
  R (0, ())))
def net_Net_Spoil_ann : Ann := .seq .leaf (.seq (.seq .leaf (.cond (.seq .leaf .leaf) .leaf)) (.seq (.seq .leaf (.cond (.seq .leaf .leaf) .leaf)) (.seq .leaf (.seq .leaf .leaf))))
set_option maxRecDepth 100000 in
theorem net_Net_Spoil_den (p_n : Option Addr) (p_i : Int) (p_b : Sl) (R : TR [.sc (.i .i64)] → Pr) : den Try.prog net_Net_Spoil_ann (Try.f15.body.getD .skip) (retQ Try.prog Try.f15.results.toList false [.sc (.i .i64)] R) (env0 23 [(.pointer p_n), (.int .i64 p_i), (.slice p_b.p p_b.len p_b.cap)]) = net_Net_Spoil p_n p_i p_b R := by
  kernel_rfl
theorem net_Net_Spoil_call (p_n : Option Addr) (p_i : Int) (p_b : Sl) {R : TR [.sc (.i .i64)] → Pr} {w : World} (h : net_Net_Spoil p_n p_i p_b R w) : Cl Try.prog 15 [(.pointer p_n), (.int .i64 p_i), (.slice p_b.p p_b.len p_b.cap)] false [.sc (.i .i64)] R w :=
  call_of (P := Try.prog) (tup := false) (rs := [.sc (.i .i64)]) Try.checked.mixed net_Net_Spoil_ann (by kernel_rfl) Try.func15 (by kernel_rfl) Try.ntmps15 (by show Try.f15.results.size = 1; kernel_rfl) (by rw [← net_Net_Spoil_den] at h; exact h)

/-- (*sumpter/sumpterref07.Net).Spoil -/
def sumpterref07_Net_Spoil (p_n : Option Addr) (p_i : Int) (p_b : ByteArray) (R : TR [.sc (.i .i64)] → Pr) : Pr :=
  Jp (σ := Bool × Unit) (fun s2 =>
  Br s2.1 (
  R (5, ())) (
  Br (decide ((((p_b.size : Nat) : Int) : Int) > 4103)) (
  R (2, ())) (
  Nn p_n fun a3 =>
  LdL (a3.add 0) fun x4 =>
  App 44 3 32 (zc Try.prog 44) ⟨none, 0, 0⟩ x4.len (srcS x4.p x4.len 3) fun r5 =>
  Nn p_n fun a6 =>
  St (a6.add 0) (.slice r5.p r5.len r5.cap) <|
  Nn p_n fun a7 =>
  LdL (a7.add 0) fun x8 =>
  Ix x8 p_i 3 fun a9 =>
  St (a9.add 2) (.string p_b) <|
  R (0, ())))) fun J1 =>
  Br (decide ((p_i : Int) < 0)) (
  J1 (true, ())) (
  Nn p_n fun a10 =>
  LdL (a10.add 0) fun x11 =>
  J1 ((decide ((p_i : Int) ≥ ((x11.len : Nat) : Int))), ()))
def sumpterref07_Net_Spoil_ann : Ann := .seq .leaf (.seq (.seq (.join [(17, .sc .b)] .leaf) (.cond (.seq .leaf .leaf) .leaf)) (.seq (.seq .leaf (.cond (.seq .leaf .leaf) .leaf)) (.seq .leaf (.seq .leaf (.seq .leaf .leaf)))))
set_option maxRecDepth 100000 in
theorem sumpterref07_Net_Spoil_den (p_n : Option Addr) (p_i : Int) (p_b : ByteArray) (R : TR [.sc (.i .i64)] → Pr) : den Try.prog sumpterref07_Net_Spoil_ann (Try.f16.body.getD .skip) (retQ Try.prog Try.f16.results.toList false [.sc (.i .i64)] R) (env0 37 [(.pointer p_n), (.int .i64 p_i), (.string p_b)]) = sumpterref07_Net_Spoil p_n p_i p_b R := by
  kernel_rfl
theorem sumpterref07_Net_Spoil_call (p_n : Option Addr) (p_i : Int) (p_b : ByteArray) {R : TR [.sc (.i .i64)] → Pr} {w : World} (h : sumpterref07_Net_Spoil p_n p_i p_b R w) : Cl Try.prog 16 [(.pointer p_n), (.int .i64 p_i), (.string p_b)] false [.sc (.i .i64)] R w :=
  call_of (P := Try.prog) (tup := false) (rs := [.sc (.i .i64)]) Try.checked.mixed sumpterref07_Net_Spoil_ann (by kernel_rfl) Try.func16 (by kernel_rfl) Try.ntmps16 (by show Try.f16.results.size = 1; kernel_rfl) (by rw [← sumpterref07_Net_Spoil_den] at h; exact h)

/-- sumpter/sumpterlaw07.same -/
def sumpterlaw07_same (p_n : Option Addr) (p_x : Option Addr) (R : TR [.sc .b] → Pr) : Pr :=
  Cl Try.prog 19 [(.pointer p_n)] false [.sc .sl] fun r1 =>
  Jp (σ := Bool × Unit) (fun s3 =>
  Br s3.1 (
  R (false, ())) (
  Lp (σ := Bool × Int × Unit) (fun L4 s5 =>
  Br (decide ((s5.2.1 : Int) < ((r1.1.len : Nat) : Int))) (
  Jp (σ := Bool × Unit) (fun s7 =>
  Br s7.1 (
  R (false, ())) (
  Ix r1.1 s5.2.1 3 fun a8 =>
  LdL (a8.add 2) fun x9 =>
  Lp (σ := Int × Unit) (fun L10 s11 =>
  Br (decide ((s11.1 : Int) < ((x9.len : Nat) : Int))) (
  Ix r1.1 s5.2.1 3 fun a12 =>
  LdL (a12.add 2) fun x13 =>
  Ix x13 s11.1 1 fun a14 =>
  LdI .u8 a14 fun x15 =>
  Ix x13 s11.1 1 fun a16 =>
  St a16 (.int .u8 (IntKind.u8.wrap (x15 + 1))) <|
  L10 ((w64 (s11.1 + 1)), ())) (
  Ix r1.1 s5.2.1 3 fun a17 =>
  St (a17.add 0) (.int .i64 (-7)) <|
  L4 (s5.1, (w64 (s5.2.1 + 1)), ()))) (0, ()))) fun J6 =>
  Dr <|
  Ix r1.1 s5.2.1 3 fun a18 =>
  LdI .i64 (a18.add 0) fun x19 =>
  Nn p_x fun a20 =>
  LdL (a20.add 0) fun x21 =>
  Ix x21 s5.2.1 3 fun a22 =>
  LdI .i64 (a22.add 0) fun x23 =>
  Br ((x19 : Int) != x23) (
  J6 (true, ())) (
  Ix r1.1 s5.2.1 3 fun a24 =>
  LdI .i64 (a24.add 1) fun x25 =>
  Nn p_x fun a26 =>
  LdL (a26.add 0) fun x27 =>
  Ix x27 s5.2.1 3 fun a28 =>
  LdI .i64 (a28.add 1) fun x29 =>
  Br ((x25 : Int) != x29) (
  J6 (true, ())) (
  Ix r1.1 s5.2.1 3 fun a30 =>
  LdL (a30.add 2) fun x31 =>
  BtoS x31 fun s32 =>
  Nn p_x fun a33 =>
  LdL (a33.add 0) fun x34 =>
  Ix x34 s5.2.1 3 fun a35 =>
  LdS (a35.add 2) fun x36 =>
  J6 ((!(seq s32 x36)), ())))) (
  R (true, ()))) (false, 0, ()))) fun J2 =>
  Dr <|
  Nn p_x fun a37 =>
  LdL (a37.add 0) fun x38 =>
  Br ((((r1.1.len : Nat) : Int) : Int) != ((x38.len : Nat) : Int)) (
  J2 (true, ())) (
  Nn p_x fun a39 =>
  LdL (a39.add 0) fun x40 =>
  Cl Try.prog 9 [(.pointer p_n)] false [.sc (.i .i64)] fun r41 =>
  Both (LdL (a39.add 0) fun x42 =>
  fun _ => ((.slice x42.p x42.len x42.cap) : Value) = (.slice x40.p x40.len x40.cap)) <|
  J2 (((r41.1 : Int) != ((x40.len : Nat) : Int)), ()))
def sumpterlaw07_same_ann : Ann := .seq .leaf (.seq .leaf (.seq (.seq (.join [(27, .sc .b)] .leaf) (.cond (.seq .leaf .leaf) .leaf)) (.seq (.seq .leaf (.block (.loop [(4, .sc .b), (30, .sc (.i .i64))] (.seq .leaf (.seq (.cond .leaf .leaf) (.seq (.block (.seq .leaf (.seq (.seq (.join [(79, .sc .b)] .leaf) (.cond (.seq .leaf .leaf) .leaf)) (.seq (.seq .leaf (.block (.loop [(86, .sc (.i .i64))] (.seq .leaf (.seq (.cond .leaf .leaf) (.seq (.block (.seq .leaf .leaf)) .leaf)))))) .leaf)))) .leaf)))))) (.seq .leaf .leaf))))
set_option maxRecDepth 100000 in
theorem sumpterlaw07_same_den (p_n : Option Addr) (p_x : Option Addr) (R : TR [.sc .b] → Pr) : den Try.prog sumpterlaw07_same_ann (Try.f17.body.getD .skip) (retQ Try.prog Try.f17.results.toList false [.sc .b] R) (env0 105 [(.pointer p_n), (.pointer p_x)]) = sumpterlaw07_same p_n p_x R := by
  kernel_rfl
theorem sumpterlaw07_same_call (p_n : Option Addr) (p_x : Option Addr) {R : TR [.sc .b] → Pr} {w : World} (h : sumpterlaw07_same p_n p_x R w) : Cl Try.prog 17 [(.pointer p_n), (.pointer p_x)] false [.sc .b] R w :=
  call_of (P := Try.prog) (tup := false) (rs := [.sc .b]) Try.checked.mixed sumpterlaw07_same_ann (by kernel_rfl) Try.func17 (by kernel_rfl) Try.ntmps17 (by show Try.f17.results.size = 1; kernel_rfl) (by rw [← sumpterlaw07_same_den] at h; exact h)

/-- (*sumpter/net.Net).Clone -/
def net_Net_Clone (p_n : Option Addr) (R : TR [.sc .p] → Pr) : Pr :=
  Cl Try.prog 19 [(.pointer p_n)] false [.sc .sl] fun r1 =>
  New #[(.slice r1.1.p r1.1.len r1.1.cap)] 55 fun a2 =>
  R ((some a2), ())
def net_Net_Clone_ann : Ann := .seq .leaf (.seq .leaf .leaf)
set_option maxRecDepth 100000 in
theorem net_Net_Clone_den (p_n : Option Addr) (R : TR [.sc .p] → Pr) : den Try.prog net_Net_Clone_ann (Try.f18.body.getD .skip) (retQ Try.prog Try.f18.results.toList false [.sc .p] R) (env0 7 [(.pointer p_n)]) = net_Net_Clone p_n R := by
  kernel_rfl
theorem net_Net_Clone_call (p_n : Option Addr) {R : TR [.sc .p] → Pr} {w : World} (h : net_Net_Clone p_n R w) : Cl Try.prog 18 [(.pointer p_n)] false [.sc .p] R w :=
  call_of (P := Try.prog) (tup := false) (rs := [.sc .p]) Try.checked.mixed net_Net_Clone_ann (by kernel_rfl) Try.func18 (by kernel_rfl) Try.ntmps18 (by show Try.f18.results.size = 1; kernel_rfl) (by rw [← net_Net_Clone_den] at h; exact h)

/-- (*sumpter/net.Net).All -/
def net_Net_All (p_n : Option Addr) (R : TR [.sc .sl] → Pr) : Pr :=
  Nn p_n fun a1 =>
  LdL (a1.add 0) fun x2 =>
  Mk 30 3 40 (zc Try.prog 30) ((x2.len : Nat) : Int) ((x2.len : Nat) : Int) fun r3 =>
  Nn p_n fun a4 =>
  LdL (a4.add 0) fun x5 =>
  Cpy 3 r3.p (Nat.min x5.len r3.len) (srcS x5.p (Nat.min x5.len r3.len) 3) <|
  Lp (σ := Int × Unit) (fun L6 s7 =>
  Br (decide ((s7.1 : Int) < ((r3.len : Nat) : Int))) (
  Ix r3 s7.1 3 fun a8 =>
  LdI .i64 (a8.add 0) fun x9 =>
  LdI .i64 (a8.add 1) fun x10 =>
  LdL (a8.add 2) fun x11 =>
  New #[(.int .i64 0), (.int .i64 0), (.slice none 0 0)] 30 fun a12 =>
  St (a12.add 0) (.int .i64 x9) <|
  St (a12.add 1) (.int .i64 x10) <|
  St (a12.add 2) (.slice x11.p x11.len x11.cap) <|
  LdI .i64 (a12.add 0) fun x13 =>
  LdI .i64 (a12.add 1) fun x14 =>
  LdL (a12.add 2) fun x15 =>
  Cl Try.prog 20 [(.agg #[(.int .i64 x13), (.int .i64 x14), (.slice x15.p x15.len x15.cap)])] false [.ag [(.i .i64), (.i .i64), .sl]] fun r16 =>
  Ix r3 s7.1 3 fun a17 =>
  St (a17.add 0) (.int .i64 r16.1.1) <|
  St (a17.add 1) (.int .i64 r16.1.2.1) <|
  St (a17.add 2) (.slice r16.1.2.2.1.p r16.1.2.2.1.len r16.1.2.2.1.cap) <|
  L6 ((w64 (s7.1 + 1)), ())) (
  R (r3, ()))) (0, ())
def net_Net_All_ann : Ann := .seq .leaf (.seq .leaf (.seq .leaf (.seq (.seq .leaf (.block (.loop [(20, .sc (.i .i64))] (.seq .leaf (.seq (.cond .leaf .leaf) (.seq (.block (.seq .leaf .leaf)) .leaf)))))) (.seq .leaf .leaf))))
set_option maxRecDepth 100000 in
theorem net_Net_All_den (p_n : Option Addr) (R : TR [.sc .sl] → Pr) : den Try.prog net_Net_All_ann (Try.f19.body.getD .skip) (retQ Try.prog Try.f19.results.toList false [.sc .sl] R) (env0 32 [(.pointer p_n)]) = net_Net_All p_n R := by
  kernel_rfl
theorem net_Net_All_call (p_n : Option Addr) {R : TR [.sc .sl] → Pr} {w : World} (h : net_Net_All p_n R w) : Cl Try.prog 19 [(.pointer p_n)] false [.sc .sl] R w :=
  call_of (P := Try.prog) (tup := false) (rs := [.sc .sl]) Try.checked.mixed net_Net_All_ann (by kernel_rfl) Try.func19 (by kernel_rfl) Try.ntmps19 (by show Try.f19.results.size = 1; kernel_rfl) (by rw [← net_Net_All_den] at h; exact h)

/-- (sumpter/net.Letter).clone -/
def net_Letter_clone (p_x_0 : Int) (p_x_1 : Int) (p_x_2 : Sl) (R : TR [.ag [(.i .i64), (.i .i64), .sl]] → Pr) : Pr :=
  New #[(.int .i64 p_x_0), (.int .i64 p_x_1), (.slice p_x_2.p p_x_2.len p_x_2.cap)] 30 fun a1 =>
  New #[(.int .i64 0), (.int .i64 0), (.slice none 0 0)] 30 fun a2 =>
  Dr <|
  LdI .i64 (a1.add 0) fun x3 =>
  LdI .i64 (a1.add 1) fun x4 =>
  LdL (a1.add 2) fun x5 =>
  Cl Try.prog 22 [(.slice x5.p x5.len x5.cap)] false [.sc .sl] fun r6 =>
  Both (LdI .i64 (a1.add 1) fun x7 =>
  fun _ => ((.int .i64 x7) : Value) = (.int .i64 x4)) <|
  Both (LdI .i64 (a1.add 0) fun x8 =>
  fun _ => ((.int .i64 x8) : Value) = (.int .i64 x3)) <|
  St (a2.add 0) (.int .i64 x3) <|
  St (a2.add 1) (.int .i64 x4) <|
  St (a2.add 2) (.slice r6.1.p r6.1.len r6.1.cap) <|
  LdI .i64 (a2.add 0) fun x9 =>
  LdI .i64 (a2.add 1) fun x10 =>
  LdL (a2.add 2) fun x11 =>
  R ((x9, x10, x11, ()), ())
def net_Letter_clone_ann : Ann := .seq .leaf (.seq .leaf .leaf)
set_option maxRecDepth 100000 in
theorem net_Letter_clone_den (p_x_0 : Int) (p_x_1 : Int) (p_x_2 : Sl) (R : TR [.ag [(.i .i64), (.i .i64), .sl]] → Pr) : den Try.prog net_Letter_clone_ann (Try.f20.body.getD .skip) (retQ Try.prog Try.f20.results.toList false [.ag [(.i .i64), (.i .i64), .sl]] R) (env0 11 [(.agg #[(.int .i64 p_x_0), (.int .i64 p_x_1), (.slice p_x_2.p p_x_2.len p_x_2.cap)])]) = net_Letter_clone p_x_0 p_x_1 p_x_2 R := by
  kernel_rfl
theorem net_Letter_clone_call (p_x_0 : Int) (p_x_1 : Int) (p_x_2 : Sl) {R : TR [.ag [(.i .i64), (.i .i64), .sl]] → Pr} {w : World} (h : net_Letter_clone p_x_0 p_x_1 p_x_2 R w) : Cl Try.prog 20 [(.agg #[(.int .i64 p_x_0), (.int .i64 p_x_1), (.slice p_x_2.p p_x_2.len p_x_2.cap)])] false [.ag [(.i .i64), (.i .i64), .sl]] R w :=
  call_of (P := Try.prog) (tup := false) (rs := [.ag [(.i .i64), (.i .i64), .sl]]) Try.checked.mixed net_Letter_clone_ann (by kernel_rfl) Try.func20 (by kernel_rfl) Try.ntmps20 (by show Try.f20.results.size = 1; kernel_rfl) (by rw [← net_Letter_clone_den] at h; exact h)

/-- (*sumpter/net.Net).there -/
def net_Net_there (p_n : Option Addr) (p_i : Int) (R : TR [.sc .b] → Pr) : Pr :=
  Br (decide ((p_i : Int) ≥ 0)) (
  Nn p_n fun a1 =>
  LdL (a1.add 0) fun x2 =>
  R ((decide ((p_i : Int) < ((x2.len : Nat) : Int))), ())) (
  R (false, ()))
def net_Net_there_ann : Ann := .seq .leaf (.seq .leaf .leaf)
set_option maxRecDepth 100000 in
theorem net_Net_there_den (p_n : Option Addr) (p_i : Int) (R : TR [.sc .b] → Pr) : den Try.prog net_Net_there_ann (Try.f21.body.getD .skip) (retQ Try.prog Try.f21.results.toList false [.sc .b] R) (env0 16 [(.pointer p_n), (.int .i64 p_i)]) = net_Net_there p_n p_i R := by
  kernel_rfl
theorem net_Net_there_call (p_n : Option Addr) (p_i : Int) {R : TR [.sc .b] → Pr} {w : World} (h : net_Net_there p_n p_i R w) : Cl Try.prog 21 [(.pointer p_n), (.int .i64 p_i)] false [.sc .b] R w :=
  call_of (P := Try.prog) (tup := false) (rs := [.sc .b]) Try.checked.mixed net_Net_there_ann (by kernel_rfl) Try.func21 (by kernel_rfl) Try.ntmps21 (by show Try.f21.results.size = 1; kernel_rfl) (by rw [← net_Net_there_den] at h; exact h)

/-- slices.Clone[[]byte,byte] -/
def slices_Clone (p_s : Sl) (R : TR [.sc .sl] → Pr) : Pr :=
  Br (Option.isNone p_s.p) (
  R (⟨none, 0, 0⟩, ())) (
  New #[] 5 fun a1 =>
  App 5 1 1 (zc Try.prog 5) ⟨(some a1), 0, 0⟩ p_s.len (srcS p_s.p p_s.len 1) fun r2 =>
  R (r2, ()))
def slices_Clone_ann : Ann := .seq .leaf (.seq (.seq .leaf (.cond (.seq .leaf .leaf) .leaf)) (.seq .leaf .leaf))
set_option maxRecDepth 100000 in
theorem slices_Clone_den (p_s : Sl) (R : TR [.sc .sl] → Pr) : den Try.prog slices_Clone_ann (Try.f22.body.getD .skip) (retQ Try.prog Try.f22.results.toList false [.sc .sl] R) (env0 8 [(.slice p_s.p p_s.len p_s.cap)]) = slices_Clone p_s R := by
  kernel_rfl
theorem slices_Clone_call (p_s : Sl) {R : TR [.sc .sl] → Pr} {w : World} (h : slices_Clone p_s R w) : Cl Try.prog 22 [(.slice p_s.p p_s.len p_s.cap)] false [.sc .sl] R w :=
  call_of (P := Try.prog) (tup := false) (rs := [.sc .sl]) Try.checked.mixed slices_Clone_ann (by kernel_rfl) Try.func22 (by kernel_rfl) Try.ntmps22 (by show Try.f22.results.size = 1; kernel_rfl) (by rw [← slices_Clone_den] at h; exact h)

end Go.Proofs.Ytfkhmbkeniigdaa
